/- Part of the proof of laws of relyguardlaw31. No condition. -/
import Derived.Test.YtcmeofagpechdaaGreatDoorPartAY
import Derived.Test.YtcmeofagpechdaaGreatDoorPartAV
import Derived.Test.YtcmeofagpechdaaGreatDoorPartAU
set_option linter.unusedSimpArgs false
set_option linter.unusedVariables false
section
namespace Rg
open Go
theorem thread1Is (p:Prog):IsF (.fn 103 [] [zaF p]) (fun m=>inR m p.modules.length):=by
 refine IsP.isF ⟨by simp[zaF,T.norm],fun n=> ?_⟩;simp only[List.map_cons,List.map_nil,zaF]
 (refine den_ofY Γ103 rfl ?_;dsimp only[zrX])
 have h1:=zaL n p.modules.length;simp -dsimp only[go_sem,seval,h1]
def zqW (x:Thread):T:=.ip [.str x.name,ti x.points,.sl (x.asserts.map Expr.enc),ints x.modules,.sl (x.steps.map Step.enc),.sl (x.loops.map Loop.enc),tb x.asleep]
def zm0 (l:Loop):T:=.ip [ti l.head,ints l.body,ti l.variant.op,ti l.variant.w,ti l.variant.n,.sl (l.variant.kids.map Expr.enc)]
theorem thread2Is (x:Thread) (l:Loop):IsF (.fn 106 [] [zqW x,zm0 l]) (fun q=>inR q x.points&&decide (q≠l.head)):=by
 refine IsP.isF ⟨by simp[zqW,zm0,T.norm],fun n=> ?_⟩;simp only[List.map_cons,List.map_nil,zqW,zm0]
 (refine den_ofY Γ106 rfl ?_;dsimp only[zrU])
 have h1:=zaL n x.points;simp -dsimp only[go_sem,seval,h1]
 repeat'(refine csplit (fun h=> ?_) (fun h=> ?_)<;>(try rw[h])<;>(try simp only[zab]at h)<;>(try simp -dsimp only[go_sem,seval]))
 all_goals(simp[*])
theorem zo2 (p:Prog) (t:Int) (e:Expr) (pair:Bool):Den Γ G 99 [(.agg [.t (.sl ((p).cells.map (Cell.enc))),.t (.sl ((p).modules.map (Contract.enc))),.t (.sl ((p).locks.map (Lock.enc))),.t (.sl ((p).threads.map (Thread.enc)))]),(.agg [.t (ti (e).op),.t (ti (e).w),.t (ti (e).n),.t (.sl ((e).kids.map (Expr.enc)))]),vb pair,.t (.fn 134 [] [zaF p,.ip [.fn 146 [] [zaF p,.ip [ti t]]]])]=some (vb (truthOk p e pair t)):=by
 rw[zi5 p e pair _ _ (seesF p t),truthOk,overOk,zeJ]
theorem zmU (p:Prog) (t:Int) (e:Expr):Den Γ G 108 [(.agg [.t (ti (e).op),.t (ti (e).w),.t (ti (e).n),.t (.sl ((e).kids.map (Expr.enc)))]),.t (.fn 134 [] [zaF p,.ip [.fn 146 [] [zaF p,.ip [ti t]]]])]=some (vb (overOk p e true t)):=by
 rw[zcy e _ _ (seesF p t),overOk,zeJ]
def HT (p:Prog) (x:Thread) (n k:Nat) (es:List (T×V)) (h:Nat->Option O) (y:Nat):Prop:=
 h (n+0)=some (.rows 4 [[.t (.sl (p.cells.map Cell.enc)),.t (.sl (p.modules.map Contract.enc)),.t (.sl (p.locks.map Lock.enc)),.t (.sl (p.threads.map Thread.enc))]] false)/\
 h (n+1)=some (.rows 7 [[.t (.str x.name),.t (ti x.points),.t (.sl (x.asserts.map Expr.enc)),.t (ints x.modules),.t (.sl (x.steps.map Step.enc)),.t (.sl (x.loops.map Loop.enc)),.t (tb x.asleep)]] false)/\
 h k=some (.map es)/\n+2<=y
set_option maxHeartbeats 4000000 in
theorem threadP_den (p:Prog) (hs:p.sane) (i:Nat) (x:Thread) (hx:p.threads[i]? =some x) (hxp:x.points<2^48) (H:Nat->Option O) (n k:Nat) (hkn:k<n) (hmap:H k=some (.map (setS ((p.threads.take i).map Thread.name)))):
 ∃r h' n',DenR Γ G 83 [(.agg [.t (.sl ((p).cells.map (Cell.enc))),.t (.sl ((p).modules.map (Contract.enc))),.t (.sl ((p).locks.map (Lock.enc))),.t (.sl ((p).threads.map (Thread.enc)))]),vi i,(.agg [.t (.str (x).name),.t (ti (x).points),.t (.sl ((x).asserts.map Expr.enc)),.t (ints (x).modules),.t (.sl ((x).steps.map Step.enc)),.t (.sl ((x).loops.map Loop.enc)),.t (tb (x).asleep)]),.mm k] H n=some (r,h',n')/\(n<=n'/\r= .tup [vi (threadErr p i x).1,vi (threadErr p i x).2])/\((threadErr p i x).1=0->h' k=some (.map (setS ((p.threads.take (i+1)).map Thread.name)))):=by
 have hxm:=List.mem_of_getElem? hx;obtain⟨s1,s2,s3,s4,s5⟩:=hs.thr x hxm;have hl:=zcZ x.name;have hne0: ¬k=n:=by omega
 have hne1:=zkU hkn;have hne2:=zhQ hkn;have hraw:=fun H' n' hH'=>zfk k x.name ((p.threads.take i).map Thread.name) H' n' hH'
 have hany:((p.threads.take i).map Thread.name).any (fun d=>d.toList==x.name.toList)=(p.threads.take i).any (fun d=>d.name.toList==x.name.toList):=by rw[List.any_map];rfl
 (refine denR_ofY Γ83 rfl ?_;dsimp only[f83])
 simp -dsimp only[go_sem,seval,hl];refine csplit (fun h=> ?_) (fun h=> ?_)<;>(try rw[h])<;>(try simp only[zab]at h)<;>(try simp -dsimp only[go_sem,seval])
 ·have:threadErr p i x=(1,-1):=by rw[threadErr,if_pos (by simp[h])]
  rw[this];exact⟨⟨by simp -dsimp only[go_sem,seval];omega,by simp -dsimp only[go_sem,seval]⟩,fun h0=>by simp at h0⟩
 ·have e1:isLabel x.name=true:=by assumption
  refine zav (hraw _ _ (by simp -dsimp only[go_sem,seval,hne1,hmap])) ?_;rintro r h' n' ⟨⟨hn',rfl⟩,es,he,hes⟩;rw[hany]at hes;have q1: ¬n+1=k:=by omega
  have q2: ¬n+0=k:=by omega
  have q3: ¬n+0=n+1:=by omega
  have g4:h' (n+0)=some (.rows 4 [[.t (.sl (p.cells.map Cell.enc)),.t (.sl (p.modules.map Contract.enc)),.t (.sl (p.locks.map Lock.enc)),.t (.sl (p.threads.map Thread.enc))]] false):=by
   rw[he];simp -dsimp only[go_sem,seval,q2,q3]
  have g6:h' (n+1)=some (.rows 7 [[.t (.str x.name),.t (ti x.points),.t (.sl (x.asserts.map Expr.enc)),.t (ints x.modules),.t (.sl (x.steps.map Step.enc)),.t (.sl (x.loops.map Loop.enc)),.t (tb x.asleep)]] false):=by
   rw[he];simp -dsimp only[go_sem,seval,q1]
  have gk:h' k=some (.map es):=by rw[he];simp -dsimp only[go_sem,seval]
  clear he;simp -dsimp only[go_sem,seval,hany];refine csplit (fun h=> ?_) (fun h=> ?_)<;>(try rw[h])<;>(try simp only[zab]at h)<;>(try simp -dsimp only[go_sem,seval,g6])
  ·have:threadErr p i x=(41,-1):=by rw[threadErr,if_neg (by simp[e1]),if_pos h]
   rw[this];exact⟨⟨by simp -dsimp only[go_sem,seval];omega,by simp -dsimp only[go_sem,seval]⟩,fun h0=>by simp at h0⟩
  ·have e2:(p.threads.take i).any (fun d=>d.name.toList==x.name.toList)=false:=by assumption
   rw[hes e2,show(p.threads.take i).map Thread.name++[x.name]=(p.threads.take (i+1)).map Thread.name from by rw[zae hx];simp]at gk;clear hes hraw hmap
   by_cases hpt:x.points<1\/ ¬(x.asserts.length:Int)=x.points\/ ¬(x.modules.length:Int)=x.points
   ·have:threadErr p i x=(1,-1):=by rw[threadErr,if_neg (by simp[e1]),if_neg (by simp[e2]),if_pos hpt]
    rw[this]
    repeat'(refine csplit (fun h=> ?_) (fun h=> ?_)<;>(try rw[h])<;>(try simp only[zab]at h)<;>(try simp -dsimp only[go_sem,seval,g6]))
    all_goals first
     | (exfalso;omega)
     | exact⟨⟨by simp -dsimp only[go_sem,seval];omega,by simp -dsimp only[go_sem,seval]⟩,fun h0=>by simp at h0⟩
   ·have f1: ¬x.points<1:=by omega
    have f2:(x.asserts.length:Int)=x.points:=by omega
    have f3:(x.modules.length:Int)=x.points:=by omega
    have hth:threadErr p i x=if !x.modules.all (fun m=>inR m p.modules.length)then(1,-1)
     else if !x.asserts.all (fun e=>truthOk p e false i)then(60,-1)
     else if ¬(feGo (fun _ s=>stepErr p i x.points s) 0 x.steps).1=0 then feGo (fun _ s=>stepErr p i x.points s) 0 x.steps
     else((feGo (fun _ l=>zaA p i x.points l) 0 x.loops).1,-1):=by
     rw[threadErr,if_neg (by simp[e1]),if_neg (by simp[e2]),if_neg hpt]
    have f2':decide (¬(x.asserts.length:Int)=x.points)=false:=by simp[f2]
    have f3':decide (¬(x.modules.length:Int)=x.points)=false:=by simp[f3]
    have hwi:=zbW _ _ (thread1Is p) x.modules (by omega);simp only[zaF]at hwi;simp -dsimp only[go_sem,seval,f1,f2',f3',g6,g4,hwi];have hvis:=zc9 p i;refine csplit (fun h=> ?_) (fun h=> ?_)<;>(try rw[h])<;>(try simp only[zab]at h)<;>(try simp -dsimp only[go_sem,seval,g4,hvis,g6])
    ·have:threadErr p i x=(1,-1):=by rw[hth];simp[h]
     rw[this];exact⟨⟨by simp -dsimp only[go_sem,seval];omega,by simp -dsimp only[go_sem,seval]⟩,fun h0=>by simp at h0⟩
    ·rw[h]at hth;simp only[Bool.not_true,zG,if_false]at hth;clear hwi h;refine zaj 147429837401600561920 x.asserts.length (fun j f h y=>(f 57).v=vi j/\HT p x n k (setS ((p.threads.take (i+1)).map Thread.name)) h y/\x.asserts.all (fun e=>truthOk p e false i)=(x.asserts.drop j).all (fun e=>truthOk p e false i)) rfl ⟨by simp -dsimp only[go_sem,seval],⟨g4,g6,gk,by simp -dsimp only[go_sem,seval];omega⟩,rfl⟩ ?_;clear g4 g6 gk;rintro j f u hh y bs hj ⟨h57,⟨g4,g6,gk,gn⟩,hall⟩;have hw:=zah j (by omega);simp -dsimp only[go_sem,seval,h57];refine csplit (fun h=> ?_) (fun h=> ?_)<;>(try rw[h])<;>(try simp only[zab]at h)<;>(try simp -dsimp only[go_sem,seval,h57])
     ·obtain⟨e,he,_⟩:=zaf ‹j<x.asserts.length›;have hb:=zo2 p i e false;simp -dsimp only[go_sem,seval,h57,he,g4,hb];refine csplit (fun h=> ?_) (fun h=> ?_)<;>(try rw[h])<;>(try simp only[zab]at h)<;>(try simp -dsimp only[go_sem,seval,h57])
      ·have:threadErr p i x=(60,-1):=by rw[hth,hall,zaM he h];simp
       rw[this];exact⟨⟨by simp -dsimp only[go_sem,seval];omega,by simp -dsimp only[go_sem,seval]⟩,fun h0=>by simp at h0⟩
      ·refine⟨by omega,by simp -dsimp only[go_sem,seval,hw],⟨by simp -dsimp only[go_sem,seval,g4],by simp -dsimp only[go_sem,seval,g6],by simp -dsimp only[go_sem,seval,gk],by simp -dsimp only[go_sem,seval];omega⟩,?_⟩;rw[hall,zaN he h]
     ·have:j=x.asserts.length:=by omega
      subst this;rw[za0]at hall;rw[hall]at hth;simp only[Bool.not_true,zG,if_false]at hth;clear hall h57 hw;simp -dsimp only[go_sem,seval,g6];refine zaj 38684445636047416179352320 x.steps.length (fun j f h y=>(f 70).v=vi j/\HT p x n k (setS ((p.threads.take (i+1)).map Thread.name)) h y/\feGo (fun _ s=>stepErr p i x.points s) 0 x.steps=feGo (fun _ s=>stepErr p i x.points s) j (x.steps.drop j)) rfl ⟨by simp -dsimp only[go_sem,seval],⟨by simp -dsimp only[go_sem,seval,g4],by simp -dsimp only[go_sem,seval,g6],by simp -dsimp only[go_sem,seval,gk],by simp -dsimp only[go_sem,seval];omega⟩,rfl⟩ ?_;clear g4 g6 gk;rintro j f u hh y bs hj ⟨h70,⟨g4,g6,gk,gn⟩,hm⟩;have hw:=zah j (by omega);simp -dsimp only[go_sem,seval,h70];refine csplit (fun h=> ?_) (fun h=> ?_)<;>(try rw[h])<;>(try simp only[zab]at h)<;>(try simp -dsimp only[go_sem,seval,h70])
      ·obtain⟨s,hsx,hsm⟩:=zaf ‹j<x.steps.length›;have hst:=zj9 p i x ⟨by omega,hxp⟩ s (hs.sets x hxm s hsm);simp -dsimp only[go_sem,seval,h70,hsx,g4,g6,hst];refine csplit (fun h=> ?_) (fun h=> ?_)<;>(try rw[h])<;>(try simp only[zab]at h)<;>(try simp -dsimp only[go_sem,seval,h70])
       ·have h2:=hm.trans (fe_stop (f:=fun _ s=>stepErr p i x.points s) hsx (by simpa using h));have:threadErr p i x=(stepErr p i x.points s,(j:Int)):=by rw[hth,h2,if_pos (by simpa using h)]
        rw[this];exact⟨⟨by simp -dsimp only[go_sem,seval];omega,by simp -dsimp only[go_sem,seval]⟩,fun h0=>absurd h0 h⟩
       ·refine⟨by omega,by simp -dsimp only[go_sem,seval,hw],⟨by simp -dsimp only[go_sem,seval,g4],by simp -dsimp only[go_sem,seval,g6],by simp -dsimp only[go_sem,seval,gk],by simp -dsimp only[go_sem,seval];omega⟩,?_⟩;rw[hm,zbh hsx (by simpa using h)]
      ·have:j=x.steps.length:=by omega
       subst this;rw[zbQ]at hm;rw[hm,if_neg (by simp)]at hth;clear hm h70 hw;simp -dsimp only[go_sem,seval,g6];refine zaj 10633823965969841973409111413518369536 x.loops.length (fun j f h y=>(f 88).v=vi j/\HT p x n k (setS ((p.threads.take (i+1)).map Thread.name)) h y/\feGo (fun _ l=>zaA p i x.points l) 0 x.loops=feGo (fun _ l=>zaA p i x.points l) j (x.loops.drop j)) rfl ⟨by simp -dsimp only[go_sem,seval],⟨by simp -dsimp only[go_sem,seval,g4],by simp -dsimp only[go_sem,seval,g6],by simp -dsimp only[go_sem,seval,gk],by simp -dsimp only[go_sem,seval];omega⟩,rfl⟩ ?_;clear g4 g6 gk;rintro j f u hh y bs hj ⟨h88,⟨g4,g6,gk,gn⟩,hm⟩;have hw:=zah j (by omega);simp -dsimp only[go_sem,seval,h88];refine csplit (fun h=> ?_) (fun h=> ?_)<;>(try rw[h])<;>(try simp only[zab]at h)<;>(try simp -dsimp only[go_sem,seval,h88])
       ·obtain⟨l,hlx,hlm⟩:=zaf ‹j<x.loops.length›;have hbl:=hs.loops x hxm l hlm
        have hstop: ∀k':Int,k'≠0->zaA p i x.points l=k'->threadErr p i x=(k',-1):=fun k' hk' h0=>by
         have h2:=hm.trans (fe_stop (f:=fun _ l=>zaA p i x.points l) hlx (by rw[h0];exact hk'));rw[hth,h2,h0]
        have hin:=zaL l.head x.points;have hri:=zc5 l.body (by omega);have hwi:=zbW _ _ (thread2Is x l) l.body (by omega);simp only[zqW,zm0]at hwi;have hv:=zcN l.variant p.cells false;have hov:=zmU p i l.variant;have r1: ¬n=y+2:=by omega
        have r2: ∀a b:Nat,¬n+0=y+a+b:=by intros;omega
        have r3: ∀a b:Nat,¬k=y+a+b:=by intros;omega
        simp -dsimp only[go_sem,seval,h88,hlx,g4,g6,r1,r2,hin];refine csplit (fun h=> ?_) (fun h=> ?_)<;>(try rw[h])<;>(try simp only[zab]at h)<;>(try simp -dsimp only[go_sem,seval,h88,r1,r2,g4,g6,hri])
        ·rw[hstop 1 (by decide) (by simp[zaA,h])];exact⟨⟨by simp -dsimp only[go_sem,seval];omega,by simp -dsimp only[go_sem,seval]⟩,fun h0=>by simp at h0⟩
        ·have u1:inR l.head x.points=true:=by assumption
         refine csplit (fun h=> ?_) (fun h=> ?_)<;>(try rw[h])<;>(try simp only[zab]at h)<;>(try simp -dsimp only[go_sem,seval,h88,r1,r2,g4,g6,hwi])
         ·rw[hstop 1 (by decide) (by simp[zaA,h])];exact⟨⟨by simp -dsimp only[go_sem,seval];omega,by simp -dsimp only[go_sem,seval]⟩,fun h0=>by simp at h0⟩
         ·have u2:rising l.body=true:=by assumption
          refine csplit (fun h=> ?_) (fun h=> ?_)<;>(try rw[h])<;>(try simp only[zab]at h)<;>(try simp -dsimp only[go_sem,seval,h88,r1,r2,g4,g6,hv])
          ·rw[hstop 1 (by decide) (by rw[zaA,if_pos (by rw[h];simp)])];exact⟨⟨by simp -dsimp only[go_sem,seval];omega,by simp -dsimp only[go_sem,seval]⟩,fun h0=>by simp at h0⟩
          ·have u3:(l.body.all fun q=>inR q x.points&&decide (q≠l.head))=true:=by assumption
           have hle:zaA p i x.points l=if !l.variant.valid p.cells false || !overOk p l.variant true i then 60 else 0:=by
            rw[zaA,if_neg (by rw[u1,u2,u3];simp)]
           refine csplit (fun h=> ?_) (fun h=> ?_)<;>(try rw[h])<;>(try simp only[zab]at h)<;>(try simp -dsimp only[go_sem,seval,h88,r1,r2,g4,g6,hov])
           ·rw[hstop 60 (by decide) (by rw[hle];simp[h])];exact⟨⟨by simp -dsimp only[go_sem,seval];omega,by simp -dsimp only[go_sem,seval]⟩,fun h0=>by simp at h0⟩
           ·have u4:l.variant.valid p.cells false=true:=by assumption
            refine csplit (fun h=> ?_) (fun h=> ?_)<;>(try rw[h])<;>(try simp only[zab]at h)<;>(try simp -dsimp only[go_sem,seval,h88])
            ·rw[hstop 60 (by decide) (by rw[hle];simp[h])];exact⟨⟨by simp -dsimp only[go_sem,seval];omega,by simp -dsimp only[go_sem,seval]⟩,fun h0=>by simp at h0⟩
            ·refine⟨by omega,by simp -dsimp only[go_sem,seval,hw],⟨by simp -dsimp only[go_sem,seval,g4,r2],by simp -dsimp only[go_sem,seval,g6,r1],by simp -dsimp only[go_sem,seval,gk,r3],by simp -dsimp only[go_sem,seval];omega⟩,?_⟩;rw[hm,zbh hlx (by rw[hle];simp[h,u4])]
       ·have:j=x.loops.length:=by omega
        subst this;rw[zbQ]at hm;rw[hth,hm];exact⟨⟨by simp -dsimp only[go_sem,seval];omega,by simp -dsimp only[go_sem,seval]⟩,fun _=>by simp -dsimp only[go_sem,seval,gk]⟩
end Rg
end
section
namespace Rg
open Go
@[go_sem]theorem ztO (g:Nat) (c:List T) (K:Nat->List V->List V->Prop) (w:WK K):fnK (some (.t (.fa g c))) K w=K g [.agg (c.map V.t)] []:=rfl
theorem zep (p:Prog) (hs:p.sane):Den Γ G 64 [(.agg [.t (.sl ((p).cells.map (Cell.enc))),.t (.sl ((p).modules.map (Contract.enc))),.t (.sl ((p).locks.map (Lock.enc))),.t (.sl ((p).threads.map (Thread.enc)))])]=some (.tup [vi (validM p).1,vi (validM p).2.1,vi (validM p).2.2]):=by
 (refine den_ofY Γ64 rfl ?_;dsimp only[f64])
 have h1:=zhV p hs;simp -dsimp only[go_sem,seval,h1];refine csplit (fun h=> ?_) (fun h=> ?_)<;>(try rw[h])<;>(try simp only[zab]at h)<;>(try simp -dsimp only[go_sem,seval])
 ·have h0: ¬(limitsM p).1=0:=by simpa using h
  have:validM p=((limitsM p).1,(limitsM p).2,-1):=by rw[validM,if_pos h0]
  rw[this];simp
 ·have h0:(limitsM p).1=0:=by simpa using h
  obtain⟨⟨l1,l2,l3,l4⟩,l5⟩:=zdw h0
  have hv1:validM p=if ¬cellsM p=0 then(cellsM p,-1,-1)else if ¬modulesM p=0 then(modulesM p,-1,-1)else if ¬locksM p=0 then(locksM p,-1,-1)else thrGo p 0 p.threads:=by
   rw[validM,if_neg (by simpa using h0)]
  have c1:=zjP p hs;have c2:=zgZ p hs;have c3:=zjs p hs;refine zbg ?_;simp -dsimp only[go_sem,seval,c1];refine csplit (fun h=> ?_) (fun h=> ?_)<;>(try rw[h])<;>(try simp only[zab]at h)<;>(try simp -dsimp only[go_sem,seval])
  ·have:validM p=(cellsM p,-1,-1):=by rw[hv1,if_pos (by simpa using h)]
   rw[this];simp
  ·have h2:cellsM p=0:=by simpa using h
   rw[if_neg (by simpa using h2)]at hv1;refine zbg ?_;simp -dsimp only[go_sem,seval,c2];refine csplit (fun h=> ?_) (fun h=> ?_)<;>(try rw[h])<;>(try simp only[zab]at h)<;>(try simp -dsimp only[go_sem,seval])
   ·have:validM p=(modulesM p,-1,-1):=by rw[hv1,if_pos (by simpa using h)]
    rw[this];simp
   ·have h3:modulesM p=0:=by simpa using h
    rw[if_neg (by simpa using h3)]at hv1;refine zbg ?_;simp -dsimp only[go_sem,seval,c3];refine csplit (fun h=> ?_) (fun h=> ?_)<;>(try rw[h])<;>(try simp only[zab]at h)<;>(try simp -dsimp only[go_sem,seval])
    ·have:validM p=(locksM p,-1,-1):=by rw[hv1,if_pos (by simpa using h)]
     rw[this];simp
    ·have h4:locksM p=0:=by simpa using h
     rw[if_neg (by simpa using h4)]at hv1;refine zbg ?_;simp -dsimp only[go_sem,seval];refine zaj 73786835557349912604 p.threads.length (fun i f h y=>(f 47).v=vi i/\56<y/\h 56=some (.map (setS ((p.threads.take i).map Thread.name)))/\validM p=thrGo p i (p.threads.drop i)) rfl ⟨by simp -dsimp only[go_sem,seval],by simp -dsimp only[go_sem,seval],by simp -dsimp only[go_sem,seval];rfl,hv1⟩ ?_;rintro i f u hh y bs hi ⟨h47,hy,hmap,hm⟩;have hw:=zah i (by omega);simp -dsimp only[go_sem,seval,h47];refine csplit (fun h=> ?_) (fun h=> ?_)<;>(try rw[h])<;>(try simp only[zab]at h)<;>(try simp -dsimp only[go_sem,seval,h47])
     ·obtain⟨x,hx,hxm⟩:=zaf ‹i<p.threads.length›;simp -dsimp only[go_sem,seval,h47,hx];refine zav (threadP_den p hs i x hx (by have:=(l5 x hxm).1;omega) hh _ 56 (by omega) hmap) ?_;rintro r h' n' ⟨⟨hn,rfl⟩,hk⟩;simp -dsimp only[go_sem,seval,h47];refine csplit (fun h=> ?_) (fun h=> ?_)<;>(try rw[h])<;>(try simp only[zab]at h)<;>(try simp -dsimp only[go_sem,seval,h47])
      ·rw[hm,ziq hx (by simpa using h)];simp
      ·have hk':=hk (by simpa using h);refine⟨by omega,by simp -dsimp only[go_sem,seval,hw],by simp -dsimp only[go_sem,seval];omega,by simp -dsimp only[go_sem,seval,hk'],?_⟩;rw[hm,zir hx (by simpa using h)]
     ·have:i=p.threads.length:=by omega
      subst this;rw[hm,zj3];simp
theorem fe_all {α:Type} {f:Nat->α->Int}: ∀{l:List α} {i:Nat},(feGo f i l).1=0<-> ∀(j:Nat) (x:α),l[j]? =some x->f (i+j) x=0
 | [],i=>by simp[feGo]
 | y::r,i=>by
   rw[feGo];constructor
   ·intro h j x hj;split at h
    ·rename_i h0
     cases j with
     | zero=>simp at hj;subst hj;exact h0
     | succ j=>
       have:=(fe_all (l:=r) (i:=i+1)).1 h j x (by simpa using hj);rwa[show i+1+j=i+(j+1)by omega]at this
    ·rename_i h0;exact absurd h h0
   ·intro h;have h0:f i y=0:=h 0 y rfl;rw[if_pos h0];refine(fe_all (l:=r) (i:=i+1)).2 fun j x hj=> ?_
    have:=h (j+1) x (by simpa using hj);rwa[show i+(j+1)=i+1+j by omega]at this
theorem thr_all {p:Prog}: ∀{l:List Thread} {i:Nat},(thrGo p i l).1=0<-> ∀(j:Nat) (x:Thread),l[j]? =some x->(threadErr p (i+j) x).1=0
 | [],i=>by simp[thrGo]
 | y::r,i=>by
   rw[thrGo];constructor
   ·intro h j x hj;split at h
    ·rename_i h0
     cases j with
     | zero=>simp at hj;subst hj;exact h0
     | succ j=>
       have:=(thr_all (l:=r) (i:=i+1)).1 h j x (by simpa using hj);rwa[show i+1+j=i+(j+1)by omega]at this
    ·rename_i h0;exact absurd h h0
   ·intro h;have h0:(threadErr p i y).1=0:=h 0 y rfl;rw[if_pos h0];refine(thr_all (l:=r) (i:=i+1)).2 fun j x hj=> ?_
    have:=h (j+1) x (by simpa using hj);rwa[show i+(j+1)=i+1+j by omega]at this
abbrev Prog.ok (p:Prog):Prop:=(validM p).1=0
structure Rules (p:Prog):Prop where
 lim:(limitsM p).1=0
 cells: ∀(i:Nat) (c:Cell),p.cells[i]? =some c->cellErr p i c=0
 modules: ∀(i:Nat) (m:Contract),p.modules[i]? =some m->modErr p i m=0
 locks: ∀(i:Nat) (l:Lock),p.locks[i]? =some l->lockErr p i l=0
 threads: ∀(i:Nat) (x:Thread),p.threads[i]? =some x->(threadErr p i x).1=0
theorem ok_iff {p:Prog}:p.ok<->Rules p:=by
 unfold Prog.ok validM;constructor
 ·intro h;split at h
  ·rename_i h0;exact absurd h h0
  ·rename_i h0;split at h
   ·rename_i h1;exact absurd h h1
   ·rename_i h1;split at h
    ·rename_i h2;exact absurd h h2
    ·rename_i h2;split at h
     ·rename_i h3;exact absurd h h3
     ·rename_i h3;simp only[Decidable.not_not]at h0 h1 h2 h3;exact⟨h0,by simpa[cellsM,fe_all]using h1,by simpa[modulesM,fe_all]using h2,by simpa[locksM,fe_all]using h3,by simpa[thr_all]using h⟩
 ·rintro⟨h0,h1,h2,h3,h4⟩;have g1:cellsM p=0:=by unfold cellsM;rw[fe_all];simpa using h1
  have g2:modulesM p=0:=by unfold modulesM;rw[fe_all];simpa using h2
  have g3:locksM p=0:=by unfold locksM;rw[fe_all];simpa using h3
  rw[if_neg (by simpa using h0),if_neg (by simpa using g1),if_neg (by simpa using g2),if_neg (by simpa using g3),thr_all];simpa using h4
theorem cellErr_iff {p:Prog} {i:Nat} {c:Cell}:cellErr p i c=0<->zaY p c=false/\(p.cells.take i).any (fun d=>d.name.toList==c.name.toList)=false:=by
 unfold cellErr;cases zaY p c<;>cases(p.cells.take i).any (fun d=>d.name.toList==c.name.toList)<;>simp
theorem stepErr_iff {p:Prog} {t n:Int} {s:Step}:stepErr p t n s=0<->zbl p n s=false/\(s.guard.valid p.cells false=true/\s.guard.w=1)/\(∀(j:Nat) (a:Assign),s.set[j]? =some a->setErr p s.set j a=0)/\kindOk p t s=true:=by
 unfold stepErr;have hfe:(feGo (setErr p s.set) 0 s.set).1=0<-> ∀(j:Nat) (a:Assign),s.set[j]? =some a->setErr p s.set j a=0:=by rw[fe_all];simp
 cases zbl p n s
 ·cases s.guard.valid p.cells false
  ·simp
  ·by_cases hw:s.guard.w=1
   ·simp only[hw,ne_eq,not_true_eq_false,decide_false,Bool.not_true,Bool.or_false,zG,if_false,true_and]
    by_cases h0:(feGo (setErr p s.set) 0 s.set).1=0
    ·rw[if_neg (by simpa using h0)];have:=hfe.1 h0;cases kindOk p t s<;>simp_all
    ·rw[if_pos h0];constructor
     ·intro h;exact absurd h h0
     ·intro h;exact absurd (hfe.2 h.1) h0
   ·simp[hw]
 ·simp
theorem loopErr_iff {p:Prog} {t n:Int} {l:Loop}:zaA p t n l=0<->(inR l.head n=true/\rising l.body=true/\l.body.all (fun k=>inR k n&&decide (k≠l.head))=true)/\l.variant.valid p.cells false=true/\overOk p l.variant true t=true:=by
 unfold zaA;cases inR l.head n<;>cases rising l.body<;>cases l.body.all (fun k=>inR k n&&decide (k≠l.head))<;>cases l.variant.valid p.cells false<;>cases overOk p l.variant true t<;>simp
theorem threadErr_iff {p:Prog} {i:Nat} {x:Thread}:(threadErr p i x).1=0<->isLabel x.name=true/\(p.threads.take i).any (fun d=>d.name.toList==x.name.toList)=false/\(1<=x.points/\(x.asserts.length:Int)=x.points/\(x.modules.length:Int)=x.points)/\
 x.modules.all (fun m=>inR m p.modules.length)=true/\x.asserts.all (fun e=>truthOk p e false i)=true/\(∀(j:Nat) (s:Step),x.steps[j]? =some s->stepErr p i x.points s=0)/\(∀(j:Nat) (l:Loop),x.loops[j]? =some l->zaA p i x.points l=0):=by
 unfold threadErr;have hs:(feGo (fun _ s=>stepErr p i x.points s) 0 x.steps).1=0<-> ∀(j:Nat) (s:Step),x.steps[j]? =some s->stepErr p i x.points s=0:=by rw[fe_all]
 have hl:(feGo (fun _ l=>zaA p i x.points l) 0 x.loops).1=0<-> ∀(j:Nat) (l:Loop),x.loops[j]? =some l->zaA p i x.points l=0:=by rw[fe_all]
 rw[<- hs,<- hl];cases isLabel x.name
 ·simp
 ·cases(p.threads.take i).any (fun d=>d.name.toList==x.name.toList)
  ·by_cases h1:x.points<1\/ ¬(x.asserts.length:Int)=x.points\/ ¬(x.modules.length:Int)=x.points
   ·simp only[Bool.not_true,zG,if_false,if_pos h1];constructor
    ·intro h;cases h
    ·rintro⟨_,_,h,_⟩;omega
   ·have h1':1<=x.points/\(x.asserts.length:Int)=x.points/\(x.modules.length:Int)=x.points:=by omega
    simp only[Bool.not_true,zG,if_false,if_neg h1];cases x.modules.all (fun m=>inR m p.modules.length)
    ·simp
    ·cases x.asserts.all (fun e=>truthOk p e false i)
     ·simp
     ·by_cases h0:(feGo (fun _ s=>stepErr p i x.points s) 0 x.steps).1=0
      ·simp[h0,h1']
      ·simp[h0,h1']
  ·simp
theorem limits_iff {p:Prog}:(limitsM p).1=0<->(p.cells.length<=32/\p.modules.length<=6/\p.locks.length<=4/\p.threads.length<=4)/\ ∀x∈p.threads,x.points<=48/\x.steps.length<=64/\x.loops.length<=8:=by
 unfold limitsM;split
 ·rename_i h;constructor
  ·intro h;cases h
  ·rintro⟨h',_⟩;omega
 ·rename_i h;rw[fe_all];constructor
  ·intro h2;refine⟨by omega,fun x hx=> ?_⟩;obtain⟨j,hj,rfl⟩:=List.mem_iff_getElem.1 hx;have:=h2 j _ (zI hj);cases hb:zao p.threads[j]
   ·simp only[zao,Bool.or_eq_false_iff,decide_eq_false_iff_not]at hb;omega
   ·simp[hb]at this
  ·rintro⟨_,h2⟩ j x hx;have:=h2 x (List.mem_of_getElem? hx)
   have hb:zao x=false:=by
    simp only[zao,Bool.or_eq_false_iff,decide_eq_false_iff_not];omega
   simp[hb]
end Rg
end
section
set_option maxRecDepth 100000
namespace Rg
open Go
def zsK (ws:List (List UInt8)):List UInt8:=Go.Lib.join ws [32]++[10]
def inI (z:Int):Prop:= -9223372036854775808<=z/\z<=9223372036854775807
end Rg
end
section
set_option maxRecDepth 100000
namespace Rg
open Go
def loopW (l:Loop):List (List UInt8):=[[108,111,111,112],num l.head,l.variant.text]
def loopX (l:Loop):List UInt8:=zsK (loopW l++l.body.map num)
structure Prog.few (p:Prog):Prop where
 frame: ∀m∈p.modules,m.frame.length<=60
 sets: ∀x∈p.threads,∀s∈x.steps,s.set.length<=40
 body: ∀x∈p.threads,∀l∈x.loops,l.body.length<=60
structure Nums (p:Prog):Prop where
 cell: ∀c∈p.cells,isLabel c.name=true/\inI c.w/\inI c.init/\inI c.thread/\inI c.module
 mods: ∀m∈p.modules,isLabel m.name=true/\isLabel m.owner=true/\ ∀z∈m.frame,inI z
 lock: ∀l∈p.locks,inI l.cell/\inI l.module
 thr: ∀x∈p.threads,isLabel x.name=true/\x.asserts.length<=48/\x.modules.length=x.asserts.length/\x.steps.length<=64/\x.loops.length<=8/\(∀z∈x.modules,inI z)/\
  (∀s∈x.steps,inI s.kind/\inI s.fr/\inI s.to/\inI s.target/\inI s.module/\ ∀a∈s.set,inI a.cell)/\ ∀l∈x.loops,inI l.head/\ ∀z∈l.body,inI z
 lens:p.cells.length<=32/\p.modules.length<=6/\p.locks.length<=4/\p.threads.length<=4
end Rg
end
section
set_option maxRecDepth 100000
namespace Rg
open Go
theorem Bld.updR {h:Nat->Option O} {k q:Nat} {l:List UInt8} {o o':Option O} (hb:Bld h k l) (hq:h q=o') (ho: ∀x,o'≠some (.raw x)):Bld (updC h q o) k l:=by
 subst hq;rcases hb with⟨h1,h2⟩ | ⟨g,h1,h2,h3⟩
 ·exact .inl ⟨by rw[zac,if_neg (by rintro rfl;exact ho _ h1)];exact h1,h2⟩
 ·refine .inr ⟨g,?_,?_,h3⟩
  ·rw[zac,if_neg (by rintro rfl;exact ho _ h1)];exact h1
  ·rw[zac,if_neg (by rintro rfl;exact ho _ h2)];exact h2
theorem zhv.lt {h:Nat->Option O} {n k:Nat} {o:O} (hf:zhv h n) (hk:h k=some o):k<n:=by
 rcases Nat.lt_or_ge k n with h0 | h0
 ·exact h0
 ·have:=hf k h0;rw[hk]at this;cases this
theorem Bld.frame {h h':Nat->Option O} {k:Nat} {l:List UInt8} (hb:Bld h k l) (hf: ∀j x,h j=some (.raw x)->h' j=h j):Bld h' k l:=by
 rcases hb with⟨h1,h2⟩ | ⟨g,h1,h2,h3⟩
 ·exact .inl ⟨by rw[hf k _ h1];exact h1,h2⟩
 ·exact .inr ⟨g,by rw[hf k _ h1];exact h1,by rw[hf g _ h2];exact h2,h3⟩
structure ThrOk (x:Thread):Prop where
 name:isLabel x.name=true
 al:x.asserts.length<=48
 ml:x.modules.length=x.asserts.length
 sl:x.steps.length<=64
 ll:x.loops.length<=8
 mi: ∀z∈x.modules,inI z
 st: ∀s∈x.steps,inI s.kind/\inI s.fr/\inI s.to/\inI s.target/\inI s.module/\(∀a∈s.set,inI a.cell)/\s.set.length<=40
 lp: ∀l∈x.loops,inI l.head/\(∀z∈l.body,inI z)/\l.body.length<=60
end Rg
end
section
set_option maxRecDepth 100000
namespace Rg
open Go
end Rg
end
section
namespace Rg
open Go
theorem zbe: ∀l:List Int,intsOf (rowsI l)=some l
 | []=>rfl
 | a::l=>by
   have:rowsI (a::l)=[.t (.int .i64 a)]::rowsI l:=rfl;rw[this,intsOf,zbe l];rfl
theorem zbw (l:List Int):ofInts l=rowsI l:=by simp[ofInts,rowsI]
def sortedM (l:List Int):List Int:=Go.Lib.compact (l.mergeSort fun x y=>decide (x<=y))
theorem zif (l:List Int) (x:Int):x∈Go.Lib.compact l<->x∈l:=by
 unfold Go.Lib.compact Go.Lib.compactUpTo;simp only[List.mem_map,List.mem_filter,List.mem_range];constructor
 ·rintro⟨j,⟨hj,_⟩,rfl⟩;simp[hj]
 ·intro hx;obtain⟨i,hi⟩:=List.getElem?_of_mem hx
  have key: ∀i:Nat,l[i]? =some x-> ∃a,(a<l.length/\Go.Lib.keeps l.toArray a=true)/\l.toArray[a]! =x:=by
   intro i
   induction i with
   | zero=>
     intro h;obtain⟨h1,h2⟩:=zH.1 h
     exact⟨0,⟨h1,by simp[Go.Lib.keeps]⟩,by simp[h1,h2]⟩
   | succ i ih=>
     intro h;obtain⟨h1,h2⟩:=zH.1 h
     by_cases he:l[i]? =some x
     ·exact ih he
     ·refine⟨i+1,⟨h1,?_⟩,by simp[h1,h2]⟩;have hi:i<l.length:=by omega
      have : ¬l[i+1]=l[i]:=by
       intro hh;rw[zI hi]at he;exact he (by rw[<- hh,h2])
      simp[Go.Lib.keeps,h1,hi,this]
  exact key i hi
theorem zhC (l:List Int) (x:Int):x∈sortedM l<->x∈l:=by
 rw[sortedM,zif,List.mem_mergeSort]
theorem znr (l:List Int):(Go.Lib.compact l).length<=l.length:=by
 unfold Go.Lib.compact Go.Lib.compactUpTo;rw[List.length_map];exact Nat.le_trans (List.length_filter_le _ _) (by simp)
theorem zeu (l:List Int):(sortedM l).length<=l.length:=by
 have:=znr (l.mergeSort fun x y=>decide (x<=y));rwa[List.length_mergeSort]at this
theorem sorted_den (H:Nat->Option O) (x n:Nat) (v:V) (l:List Int) (ho:OwnB H x v 1 (rowsI l)) (hl:l.length<2^40):
 ∃r h' n',DenR Γ G 57 [v] H n=some (r,h',n')/\r= .t (ints (sortedM l)):=by
 (refine denR_ofY Γ57 rfl ?_;dsimp only[f57])
 rcases ho with⟨rfl,hr⟩ | ⟨k,rfl,hk,hh⟩
 ·have hl0:l=[]:=by
   have:=congrArg List.length hr;rw[zai]at this;exact List.eq_nil_of_length_eq_zero this
  subst hl0;have a1: ∀n,DenR Γ G 74 [.t .nils] H n=some (.tup [],H,n):=fun n=>zbr Γ74 rfl rfl rfl
  have a2: ∀n,DenR Γ G 75 [.t .nils] H n=some (.t (.sl []),H,n):=fun n=>zbr Γ75 rfl rfl rfl
  simp -dsimp only[go_sem,seval,a1,a2];rw[sortedM,List.mergeSort_nil];rfl
 ·rw[zai];have s1:(l.mergeSort fun x y=>decide (x<=y)).length=l.length:=List.length_mergeSort _
  have a1: ∀n,DenR Γ G 74 [.ms k 0 l.length] H n=some (.tup [],upd H k (some (.rows 1 (rowsI (l.mergeSort fun x y=>decide (x<=y))) false)),n):=fun n=>zbr Γ74 rfl rfl (by
   simp only[zwb,hh,zbe,zD,zbw]
   rw[if_pos (by exact⟨trivial,by omega⟩)])
  have a2: ∀n,DenR Γ G 75 [.ms k 0 l.length] (upd H k (some (.rows 1 (rowsI (l.mergeSort fun x y=>decide (x<=y))) false))) n=some (.t (ints (sortedM l)),upd (upd H k (some (.rows 1 (rowsI (l.mergeSort fun x y=>decide (x<=y))) false))) k (some (.rows 1 (rowsI (sortedM l++List.replicate (l.length-(sortedM l).length) 0)) true)),n):=fun n=>zbr Γ75 rfl rfl (by
   simp only[zwb,upd_same,zbe,zD,zbw]
   rw[if_pos ⟨s1,by omega⟩,s1];rfl)
  simp -dsimp only[go_sem,seval,a1,a2];rfl
def writesM (s:Step):List Int:=sortedM (s.set.map Assign.cell)
theorem zjc (s:Step) (hs:s.set.length<2^31):Den Γ G 28 [(.agg [.t (ti (s).kind),.t (ti (s).fr),.t (ti (s).to),.t (ti ((s).guard).op),.t (ti ((s).guard).w),.t (ti ((s).guard).n),.t (.sl (((s).guard).kids.map Expr.enc)),.t (.sl ((s).set.map Assign.enc)),.t (tb (s).release),.t (ti (s).target),.t (ti (s).module)])]=some (.t (ints (writesM s))):=by
 (refine den_ofY Γ28 rfl ?_;dsimp only[f28])
 simp -dsimp only[go_sem,seval];refine zaj 523816 s.set.length (fun i f h x=>(f 9).v=vi i/\OwnB h x (f 3).v 1 (rowsI ((s.set.map Assign.cell).take i))) rfl ⟨by simp -dsimp only[go_sem,seval],.inl ⟨by simp -dsimp only[go_sem,seval],rfl⟩⟩ ?_;rintro i f u H x bs hi ⟨h9,hown⟩;have hw:=zah i (by omega);simp -dsimp only[go_sem,seval,h9];refine csplit (fun h=> ?_) (fun h=> ?_)<;>(try rw[h])<;>(try simp only[zab]at h)<;>(try simp -dsimp only[go_sem,seval,h9])
 ·obtain⟨a,ha,_⟩:=zaf ‹i<s.set.length›;have ha':(s.set.map Assign.cell)[i]? =some a.cell:=by simp[ha]
  have v1:=hown.valOf;have v2:=hown.r2;have v3:=hown.r3;simp -dsimp only[go_sem,seval,h9,ha,v1,v2,v3];refine zas (hown.upd (by omega) _) (by omega) (by rw[zai];simp;omega) (by decide) rfl (rowsI_all _) ?_;intro v hp hO hoffs hkeep;have w1:=hO.valOf;rw[show rowsI ((s.set.map Assign.cell).take i)++[[V.t (ti a.cell)]]=rowsI ((s.set.map Assign.cell).take (i+1))from by rw[zae ha',za6]]at hO;simp -dsimp only[go_sem,seval,w1,h9];exact⟨by omega,by simp -dsimp only[go_sem,seval,hw],by simp -dsimp only[go_sem,seval];exact hO.le (by omega)⟩
 ·have:i=s.set.length:=by omega
  subst this;rw[show(s.set.map Assign.cell).take s.set.length=s.set.map Assign.cell from List.take_of_length_le (by simp)]at hown;have v1:=hown.valOf;simp -dsimp only[go_sem,seval,v1];refine zav (sorted_den H x _ _ _ hown (by simp;omega)) ?_;rintro r h' n' rfl;simp -dsimp only[go_sem,seval];rfl
def readsM (s:Step):List Int:=sortedM (s.guard.sup 2++s.set.flatMap fun a=>a.to.sup 2)
def readsL (s:Step) (i:Nat):List Int:=s.guard.sup 2++(s.set.take i).flatMap fun a=>a.to.sup 2
theorem zdO (s:Step) (i:Nat):(readsL s i).length<=32+32*i:=by
 unfold readsL;have h0:=zdc 2 s.guard
 have : ∀l:List Assign,(l.flatMap fun a=>a.to.sup 2).length<=32*l.length:=by
  intro l
  induction l with
  | nil=>simp
  | cons a l ih=>
    have:=zdc 2 a.to;simp only[List.flatMap_cons,List.length_append,List.length_cons];omega
 have h1:=this (s.set.take i);have h2:(s.set.take i).length<=i:=by simp;omega
 rw[List.length_append];omega
theorem zhK {s:Step} {i:Nat} {a:Assign} (h:s.set[i]? =some a):readsL s (i+1)=readsL s i++a.to.sup 2:=by
 unfold readsL;rw[zae h,List.flatMap_append,List.append_assoc];simp
theorem zkz (s:Step) (hs:s.set.length<2^20):Den Γ G 31 [(.agg [.t (ti (s).kind),.t (ti (s).fr),.t (ti (s).to),.t (ti ((s).guard).op),.t (ti ((s).guard).w),.t (ti ((s).guard).n),.t (.sl (((s).guard).kids.map Expr.enc)),.t (.sl ((s).set.map Assign.enc)),.t (tb (s).release),.t (ti (s).target),.t (ti (s).module)])]=some (.t (ints (readsM s))):=by
 (refine den_ofY Γ31 rfl ?_;dsimp only[f31])
 simp -dsimp only[go_sem,seval];refine zav (nxt_of (supportP_den s.guard _ _)) ?_;rintro r h0 n0 ⟨⟨u3,u2,rfl,o3,o2,_,_⟩,hn0⟩;have x3:=o3.valOf;have x2:=o2.valOf;simp -dsimp only[go_sem,seval,x3,x2];refine zaj 4294705616 s.set.length (fun i f h x=>(f 18).v=vi i/\OwnB h x (f 4).v 1 (rowsI (readsL s i))) rfl ⟨by simp -dsimp only[go_sem,seval],?_⟩ ?_
 ·simp -dsimp only[go_sem,seval];have:readsL s 0=s.guard.sup 2:=by simp[readsL]
  rw[this];exact o2.le (by omega)
 rintro i f u H x bs hi ⟨h18,hown⟩;have hw:=zah i (by omega);simp -dsimp only[go_sem,seval,h18];refine csplit (fun h=> ?_) (fun h=> ?_)<;>(try rw[h])<;>(try simp only[zab]at h)<;>(try simp -dsimp only[go_sem,seval,h18])
 ·obtain⟨a,ha,_⟩:=zaf ‹i<s.set.length›;have v1:=hown.valOf;simp -dsimp only[go_sem,seval,h18,ha,v1];refine zav (nxt_of (supportP_den a.to _ _)) ?_;rintro r h1 n1 ⟨⟨w3,w2,rfl,p3,p2,hle1,hkp⟩,hn1⟩;have y3:=p3.valOf;have y2:=p2.valOf;have hown':OwnB h1 n1 (f 4).v 1 (rowsI (readsL s i)):=hown.keep (by omega) (fun k hk _=>(hkp k (by omega)).1);have z1:=hown'.rowsS;have z2:=p2.rowsS;simp -dsimp only[go_sem,seval,h18,v1,y3,y2,z1,z2];have hrl:=zdO s i;have hsl:=zdc 2 a.to;refine zmM hown' (by omega) (by rw[zai,zai];omega) (by decide) (rowsI_all _) (rowsI_all _) ?_;intro v hp hO _ _;have hap:rowsI (readsL s i)++rowsI (a.to.sup 2)=rowsI (readsL s (i+1)):=by rw[zhK ha];simp[rowsI]
  rw[hap]at hO;have w1:=hO.valOf;simp -dsimp only[go_sem,seval,w1,h18];exact⟨by omega,by simp -dsimp only[go_sem,seval,hw],by simp -dsimp only[go_sem,seval];exact hO.le (by omega)⟩
 ·have:i=s.set.length:=by omega
  subst this;have v1:=hown.valOf;have hrl:=zdO s s.set.length;simp -dsimp only[go_sem,seval,v1];refine zav (sorted_den H x _ _ _ hown (by omega)) ?_;rintro r h' n' rfl;have hrm:readsM s=sortedM (readsL s s.set.length):=by simp[readsM,readsL]
  rw[hrm];simp -dsimp only[go_sem,seval]
  (try rfl)
def idxN {α:Type} (f:α->Bool) (l:List α) (i:Nat):List Int:=((l.take i).zipIdx.filter fun q=>f q.1).map fun q=>(q.2:Int)
def zsT {α:Type} (f:α->Bool) (l:List α):List Int:=idxN f l l.length
theorem zlr {α:Type} (f:α->Bool) {l:List α} {i:Nat} {x:α} (h:l[i]? =some x):idxN f l (i+1)=idxN f l i++if f x then [(i:Int)]else []:=by
 unfold idxN;have hi:i<l.length:=(zH.1 h).1;rw[zae h,List.zipIdx_append,List.filter_append,List.map_append];have e:0+(l.take i).length=i:=by simp;omega
 rw[e];cases hf:f x<;>simp[hf]
theorem ziT {α:Type} (f:α->Bool) (l:List α) (i:Nat):(idxN f l i).length<=i:=by
 unfold idxN;rw[List.length_map];refine Nat.le_trans (List.length_filter_le _ _) ?_;simp;omega
theorem zlq {α:Type} (f:α->Bool) (l:List α):idxN f l 0=[]:=by simp[idxN]
def ofM (p:Prog) (t:Int):List Int:=zsT (fun c:Cell=>decide (c.thread=t)) p.cells
theorem zoD (p:Prog) (t:Int) (hl:p.cells.length<2^31):Den Γ G 253 [(.agg [.t (.sl ((p).cells.map (Cell.enc))),.t (.sl ((p).modules.map (Contract.enc))),.t (.sl ((p).locks.map (Lock.enc))),.t (.sl ((p).threads.map (Thread.enc)))]),vi t]=some (.t (ints (ofM p t))):=by
 (refine den_ofY Γ253 rfl ?_;dsimp only[zrJ])
 simp -dsimp only[go_sem,seval];refine zaj 33552608 p.cells.length (fun i f h x=>(f 11).v=vi i/\OwnB h x (f 5).v 1 (rowsI (idxN (fun c:Cell=>decide (c.thread=t)) p.cells i))) rfl ⟨by simp -dsimp only[go_sem,seval],.inl ⟨by simp -dsimp only[go_sem,seval],by rw[zlq];rfl⟩⟩ ?_;rintro i f u H x bq hi ⟨h11,hown⟩;have hw:=zah i (by omega);simp -dsimp only[go_sem,seval,h11];refine csplit (fun h=> ?_) (fun h=> ?_)<;>(try rw[h])<;>(try simp only[zab]at h)<;>(try simp -dsimp only[go_sem,seval,h11])
 ·obtain⟨c,hc,_⟩:=zaf ‹i<p.cells.length›;have hsucc:=zlr (fun c:Cell=>decide (c.thread=t)) hc;have hln:=ziT (fun c:Cell=>decide (c.thread=t)) p.cells i;have v1:=hown.valOf;have v2:=hown.r2;have v3:=hown.r3;have v4:=hown.r4;simp -dsimp only[go_sem,seval,h11,hc];refine csplit (fun h=> ?_) (fun h=> ?_)<;>(try rw[h])<;>(try simp only[zab]at h)<;>(try simp -dsimp only[go_sem,seval,h11])
  ·rw[if_pos (by simpa using h)]at hsucc;simp -dsimp only[go_sem,seval,h11,v1,v2,v3,v4];refine zas (hown.upd (by omega) _) (by omega) (by rw[zai];simp;omega) (by decide) rfl (rowsI_all _) ?_;intro v hp hO hoffs hkeep;have w1:=hO.valOf;rw[<- za6,<- hsucc]at hO;simp -dsimp only[go_sem,seval,w1,h11];exact⟨by omega,by simp -dsimp only[go_sem,seval,hw],by simp -dsimp only[go_sem,seval];exact hO.le (by omega)⟩
  ·rw[if_neg (by simpa using h),List.append_nil]at hsucc;refine⟨by omega,by simp -dsimp only[go_sem,seval,hw],?_⟩;simp -dsimp only[go_sem,seval,hsucc];exact hown.le (by omega)
 ·have:i=p.cells.length:=by omega
  subst this;have v1:=hown.valOf;have hre:=hown.reify (ints_norm _);have v5:=hown.resVal;simp only[Rg.resVal]at v5;simp -dsimp only[go_sem,seval,v1,v5];exact hre
theorem zgF (p:Prog) (hl:p.cells.length<2^31):Den Γ G 228 [(.agg [.t (.sl ((p).cells.map (Cell.enc))),.t (.sl ((p).modules.map (Contract.enc))),.t (.sl ((p).locks.map (Lock.enc))),.t (.sl ((p).threads.map (Thread.enc)))])]=some (.t (ints (ofM p (-1)))):=by
 (refine den_ofY Γ228 rfl ?_;dsimp only[f228])
 have h1:=zoD p (-1) hl;simp -dsimp only[go_sem,seval,h1]
end Rg
end
section
namespace Rg
open Go
structure Acc where
 th:Nat
 st:Nat
 ce:Nat
 wr:Bool
 deriving DecidableEq,Inhabited
def Acc.enc (a:Acc):List T:=[ti a.th,ti a.st,ti a.ce,tb a.wr]
attribute [go_sem] Acc.enc
structure Gr where
 nc:Nat
 nt:Nat
 all:List Acc
 cls:List Nat
 msk:List Nat
 ld:List (List Nat)
 qk:List (List Nat)
 ear:Acc->Bool
 lat:Acc->Bool
namespace Gr
variable (g:Gr)
def sz:Nat:=2*(g.nc+g.nt)
def thr (c:Nat):Nat:=c/ g.sz
def prec (c d:Nat):Bool:=precM g.nc g.nt c d
def mks (c:Nat):Nat:=g.msk.getD c 0
def ac (i:Nat):Acc:=g.all.getD i default
def cl (i:Nat):Nat:=g.cls.getD i 0
def ldAt (t i:Nat):Nat:=(g.ld.getD t []).getD i 0
def qkAt (t i:Nat):Nat:=(g.qk.getD t []).getD i 0
def partner (a b:Nat):Bool:=decide (a≠b)&&(decide ((g.ac a).th=(g.ac b).th)&&(decide ((g.ac a).st=(g.ac b).st)||(g.ldAt (g.ac a).th (g.ac a).st).testBit (g.ac b).st))
def rowC (same:Bool) (i m:Nat):Nat:=if same then(m ||| 1<<< i)&&& (2^64-1-1<<< i)else m ||| 1<<< i
def couple (c d:Nat):Bool:=meetsM (g.mks c) (g.mks d) ((g.ld.getD (g.thr c) []).mapIdx fun i m=>rowC (decide (c=d)) i m)
def ok (c d m:Nat):Bool:=decide (g.mks d≠0)&&(!m.testBit (g.thr d)&&g.prec c d)
def ends:Nat->Nat->Nat->Nat->Bool
 | 0,goal,c,_=>g.prec c goal
 | 1,goal,c,m=>(List.range g.msk.length).any fun d=>g.ok c d m&&ends 0 goal d (m ||| 1<<< g.thr d)
 | r+2,goal,c,m=>(List.range g.msk.length).any fun d=>g.ok c d m&&(ends (r+1) goal d (m ||| 1<<< g.thr d) ||
    (List.range g.msk.length).any fun e=>decide (g.thr e=g.thr d)&&(g.couple d e&&ends r goal e (m ||| 1<<< g.thr d)))
def opens (r goal c m:Nat):Bool:=g.ends r goal c m||(decide (0<r)&&(List.range g.msk.length).any fun e=>decide (g.thr e=g.thr c)&&(g.couple c e&&g.ends (r-1) goal e m))
theorem ends_succ (r goal c m:Nat):g.ends (r+1) goal c m=(List.range g.msk.length).any fun d=>g.ok c d m&&g.opens r goal d (m ||| 1<<< g.thr d):=by
 cases r with
 | zero=>simp[ends,opens]
 | succ r=>simp[ends,opens]
def begins (r goal a m:Nat):Bool:=g.ends r goal (g.cl a) m||(decide (0<r)&&(List.range g.all.length).any fun b=>g.partner a b&&g.ends (r-1) goal (g.cl b) m)
def delay (a b:Nat):Bool:=decide ((g.ac a).th=(g.ac b).th)&&(decide ((g.ac a).ce≠(g.ac b).ce)&&((g.qkAt (g.ac a).th (g.ac a).st).testBit (g.ac b).st&&(g.ear (g.ac a)&&g.lat (g.ac b))))
def maskF (f:Acc->Bool) (c i:Nat):Nat:=((g.all.zip g.cls).take i).foldl (fun m q=>if f q.1&&decide (q.2=c)then m ||| 1<<< q.1.st else m) 0
def eaM (c:Nat):Nat:=g.maskF g.ear c g.all.length
def laM (c:Nat):Nat:=g.maskF g.lat c g.all.length
def isPair (c d:Nat):Bool:=decide (g.eaM c≠0)&&(decide (g.laM d≠0)&&(decide (g.thr c=g.thr d)&&(decide (c/ 2≠d/ 2)&&meetsM (g.eaM c) (g.laM d) (g.qk.getD (g.thr c) []))))
def pairs:List (Nat×Nat):=(List.range g.msk.length).flatMap fun c=>((List.range g.msk.length).filter fun d=>g.isPair c d).map fun d=>(c,d)
def atRest (r:Nat):Bool:=g.pairs.any fun x=>g.ends r x.1 x.2 (1<<< g.thr x.2)
def shortest:Option Nat:=((List.range (2*(g.nt-1))).map (· +1)).find? g.atRest
def visit (last m:Nat) (op:Bool) (c:Nat):Bool×Bool:=(op&&g.partner last c,!m.testBit (g.ac c).th&&g.prec (g.cl last) (g.cl c))
def next(goal last m:Nat) (op:Bool) (r c:Nat):Bool:=
 if(g.visit last m op c).1 then g.ends r goal (g.cl c) m else(g.visit last m op c).2&&g.begins r goal c (m ||| 1<<< (g.ac c).th)
def follow (goal:Nat):Nat->Nat->Nat->Bool->Option (List Acc)
 | 0,_,_,_=>some []
 | r+1,last,m,op=>match(List.range g.all.length).find? (g.next goal last m op r)with
   | none=>none
   | some c=>if(g.visit last m op c).1 then(follow goal r c m false).map (g.ac c:: ·)else(follow goal r c (m ||| 1<<< (g.ac c).th) true).map (g.ac c:: ·)
def starts (r a b:Nat):Bool:=g.delay a b&&g.ends r (g.cl a) (g.cl b) (1<<< (g.ac b).th)
def first(r:Nat):Option (List Acc):=match((List.range g.all.length).flatMap fun a=>(List.range g.all.length).map fun b=>(a,b)).find? fun x=>g.starts r x.1 x.2 with
 | none=>none
 | some x=>(g.follow (g.cl x.1) r x.2 (1<<< (g.ac x.2).th) false).map fun l=>g.ac x.1::g.ac x.2::l
end Gr
def maskS (f:Step->Bool) (l:List Step):Nat:=(l.zipIdx).foldl (fun m q=>if f q.1 then m ||| 1<<< q.2 else m) 0
def reach0 (l:List Step):List Nat:=l.map fun x=>maskS (fun y=>decide (x.to=y.fr)) l
def reachS (k:Nat) (r:List Nat):List Nat:=r.map fun m=>if m.testBit k then m ||| r.getD k 0 else m
def reachN (inner:Step->Bool) (l:List Step) (i:Nat):List Nat:=((l.zipIdx).take i).foldl (fun r q=>if inner q.1 then reachS q.2 r else r) (reach0 l)
def reachM (inner:Step->Bool) (l:List Step):List Nat:=reachN inner l l.length++List.replicate (64-l.length) 0
def innerM (s:Step):Bool:=decide (s.kind=1)||(decide (s.kind=2)||(decide (s.kind=3)&& !s.release))
def accsC (t i:Nat) (s:Step) (l:List Int):List Acc:=l.flatMap fun c=>(if c∈readsM s then [⟨t,i,c.toNat,false⟩]else [])++(if c∈writesM s then [⟨t,i,c.toNat,true⟩]else [])
def accsS (p:Prog) (t i:Nat) (s:Step):List Acc:=
 if s.kind=6\/s.kind=7 then [⟨t,i,p.cells.length+s.target.toNat,true⟩]else accsC t i s (ofM p (-1))
def accsT (p:Prog) (t:Nat) (l:List Step) (i:Nat):List Acc:=(l.take i).zipIdx.flatMap fun q=>accsS p t q.2 q.1
def accsN (p:Prog) (k:Nat):List Acc:=(p.threads.take k).zipIdx.flatMap fun q=>accsT p q.2 q.1.steps q.1.steps.length
def accsM (p:Prog):List Acc:=accsN p p.threads.length
def Prog.stepAt (p:Prog) (t i:Nat):Step:=((p.threads.getD t default).steps).getD i default
def clsM (p:Prog) (a:Acc):Nat:=a.th*(2*(p.cells.length+p.threads.length))+2*a.ce+if(a.wr&&decide (a.ce<p.cells.length))||decide ((p.stepAt a.th a.st).kind=7)then 1 else 0
def grM (p:Prog) (model:Int):Gr where
 nc:=p.cells.length
 nt:=p.threads.length
 all:=accsM p
 cls:=(accsM p).map (clsM p)
 msk:=(List.range (p.threads.length*(2*(p.cells.length+p.threads.length)))).map fun c=>(accsM p).foldl (fun m a=>if clsM p a=c then m ||| 1<<< a.st else m) 0
 ld:=p.threads.map fun x=>reachM (fun _=>true) x.steps
 qk:=p.threads.map fun x=>reachM innerM x.steps
 ear a:=a.wr&&decide ((p.stepAt a.th a.st).kind=3)
 lat a:=lateM model (p.stepAt a.th a.st).kind (p.stepAt a.th a.st).release a.wr
def validB (p:Prog):Bool:=decide ((validM p).1=0)
def robM (p:Prog) (model:Int):Bool:=validB p&&(grM p model).shortest.isNone
end Rg
end
