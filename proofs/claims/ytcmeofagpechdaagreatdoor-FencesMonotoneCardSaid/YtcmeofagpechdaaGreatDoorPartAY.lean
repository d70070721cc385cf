/- Part of the proof of laws of relyguardlaw31. No condition. -/
import Derived.Test.YtcmeofagpechdaaGreatDoorPartAX
set_option linter.unusedSimpArgs false
set_option linter.unusedVariables false
section
namespace Rg
open Go
def setS (l:List ByteArray):List (T×V):=l.map fun b=>(T.str b,V.agg [])
def setI (l:List Int):List (T×V):=l.map fun b=>(ti b,V.agg [])
theorem zho (a b:ByteArray):(a==b)=(a.toList==b.toList):=by
 rw[ByteArray.toList_eq,ByteArray.toList_eq];show(a.data==b.data)=_;rw[Array.beq_toList]
@[go_sem]theorem zsR (b:ByteArray):keyOf 2 (.t (.str b))=some (.str b):=rfl
@[go_sem]theorem zsS (k:IntKind) (n:Int):keyOf 0 (.t (.int k n))=some (.int k n):=rfl
theorem zqd (b:ByteArray): ∀l:List ByteArray,mapFind (.str b) (setS l)=some (if l.any (fun c=>c.toList==b.toList)then some (.agg [])else none)
 | []=>rfl
 | c::l=>by
   rw[setS,List.map_cons,mapFind,zcm,zho];rw[show(b.toList==c.toList)=(c.toList==b.toList)from Bool.beq_comm];cases h:(c.toList==b.toList)
   ·simp only[];rw[show(l.map fun b=>(T.str b,V.agg []))=setS l from rfl,zqd b l,List.any_cons,h,Bool.false_or]
   ·simp[h]
theorem ztL (b:ByteArray): ∀l:List ByteArray,l.any (fun c=>c.toList==b.toList)=false->mapPut (.str b) (.agg []) (setS l)=some (setS (l++[b]))
 | [],_=>rfl
 | c::l,h=>by
   rw[List.any_cons,Bool.or_eq_false_iff]at h;rw[setS,List.map_cons,mapPut,zcm,zho,show(b.toList==c.toList)=(c.toList==b.toList)from Bool.beq_comm,h.1];simp only[];rw[show(l.map fun b=>(T.str b,V.agg []))=setS l from rfl,ztL b l h.2];rfl
theorem zpY (b:ByteArray): ∀l:List ByteArray,∃es,mapPut (.str b) (.agg []) (setS l)=some es
 | []=>⟨_,rfl⟩
 | c::l=>by
   rw[setS,List.map_cons,mapPut,zcm];cases h:(b==c)
   ·simp only[];rw[show(l.map fun b=>(T.str b,V.agg []))=setS l from rfl];obtain⟨es,he⟩:=zpY b l;exact⟨_,by rw[he];rfl⟩
   ·exact⟨_,rfl⟩
theorem zoR (b:Int): ∀l:List Int,mapFind (ti b) (setI l)=some (if l.any (fun c=>decide (c=b))then some (.agg [])else none)
 | []=>rfl
 | c::l=>by
   rw[setI,List.map_cons,mapFind,zcm,if_pos rfl]
   by_cases h:c=b
   ·subst h;simp
   ·have e:(b==c)=false:=by simpa using fun h'=>h h'.symm
    rw[e];simp only[];rw[show(l.map fun b=>(ti b,V.agg []))=setI l from rfl,zoR b l,List.any_cons];simp[h]
theorem zsC (b:Int): ∀l:List Int,l.any (fun c=>decide (c=b))=false->mapPut (ti b) (.agg []) (setI l)=some (setI (l++[b]))
 | [],_=>rfl
 | c::l,h=>by
   rw[List.any_cons,Bool.or_eq_false_iff]at h;have e:(b==c)=false:=by simpa using fun h'=>(by simpa using h.1: ¬c=b) h'.symm
   rw[setI,List.map_cons,mapPut,zcm,if_pos rfl,e];simp only[];rw[show(l.map fun b=>(ti b,V.agg []))=setI l from rfl,zsC b l h.2];rfl
theorem zfk (k:Nat) (b:ByteArray) (l:List ByteArray) (H:Nat->Option O) (n:Nat) (hk:H k=some (.map (setS l))):
 ∃r h' n',DenR Γ G 97 [.mm k,.t (.str b)] H n=some (r,h',n')/\(n<=n'/\r=vb (l.any (fun c=>c.toList==b.toList)))/\
  ∃es,h'=updC H k (some (.map es))/\(l.any (fun c=>c.toList==b.toList)=false->es=setS (l++[b])):=by
 (refine denR_ofY Γ97 rfl ?_;dsimp only[f97])
 have h1:=zqd b l;cases ha:l.any (fun c=>c.toList==b.toList)
 ·rw[ha]at h1;have h2:=ztL b l ha;simp -dsimp only[go_sem,seval,hk,h1,h2,Option.getD_none,Option.getD_some,Option.isSome_none,zG,if_true,if_false];refine⟨⟨by simp -dsimp only[go_sem,seval];omega,by simp -dsimp only[go_sem,seval]⟩,_,by simp -dsimp only[go_sem,seval],fun _=>rfl⟩
 ·rw[ha]at h1;obtain⟨es,h2⟩:=zpY b l;simp -dsimp only[go_sem,seval,hk,h1,h2,Option.getD_none,Option.getD_some,Option.isSome_none,zG,if_true,if_false];refine⟨⟨by simp -dsimp only[go_sem,seval];omega,by simp -dsimp only[go_sem,seval]⟩,es,by simp -dsimp only[go_sem,seval],fun h=>by simp at h⟩
theorem zgA (k:Nat) (b:ByteArray) (l:List ByteArray) (H:Nat->Option O) (n:Nat) (hk:H k=some (.map (setS l))):
 ∃r h' n',DenR Γ G 97 [.mm k,.t (.str b)] H n=some (r,h',n')/\r=vb (l.any (fun c=>c.toList==b.toList))/\(l.any (fun c=>c.toList==b.toList)=false->h' k=some (.map (setS (l++[b])))):=by
 obtain⟨r,h',n',hd,⟨_,hr⟩,es,rfl,he⟩:=zfk k b l H n hk;exact⟨r,_,n',hd,hr,fun h=>by rw[he h,zac,if_pos rfl]⟩
theorem OwnB.toT1 {h:Nat->Option O} {x:Nat} {v:V} {l:List Int} (o:OwnB h x v 1 (rowsI l)):Rg.toT1 h v=some (.t (ints l)):=by
 have:=zbu o (ints_norm _);rcases o with⟨rfl,he⟩ | ⟨k,rfl,_,_⟩
 ·have:l=[]:=by simpa[rowsI]using he
  subst this;rfl
 ·simp only[Rg.toT1,this,Option.map_some]
theorem zcy (e:Expr) (F:T) (P:Int->Bool) (hP:IsF F P):Den Γ G 108 [(.agg [.t (ti (e).op),.t (ti (e).w),.t (ti (e).n),.t (.sl ((e).kids.map (Expr.enc)))]),.t F]=some (vb ((e.sup 3).all P&&(e.sup 2).all P)):=by
 (refine den_ofY Γ108 rfl ?_;dsimp only[zrS])
 have hn:=hP.1;simp only[T.norm]at hn;have l3:=zdc 3 e;have l2:=zdc 2 e;have h2:=zbW F P hP (e.sup 3) (by omega);have h3:=zbW F P hP (e.sup 2) (by omega);simp -dsimp only[go_sem,seval];refine zav (supportP_den e _ _) ?_;rintro r h' n' ⟨v3,v2,rfl,o3,o2,_,_⟩;have x3:=o3.valOf;have x2:=o2.valOf;have y3:=o3.toT1;have y2:=o2.toT1;simp only[Rg.toT1]at y3 y2;cases ha:(e.sup 3).all P
 ·rw[ha]at h2;simp -dsimp only[go_sem,seval,h2,hn,x3,x2,y3,y2];simp
 ·rw[ha]at h2;simp -dsimp only[go_sem,seval,h2,h3,hn,x3,x2,y3,y2,Bool.true_and]
theorem zi5 (p:Prog) (e:Expr) (pair:Bool) (F:T) (P:Int->Bool) (hP:IsF F P):Den Γ G 99 [(.agg [.t (.sl ((p).cells.map (Cell.enc))),.t (.sl ((p).modules.map (Contract.enc))),.t (.sl ((p).locks.map (Lock.enc))),.t (.sl ((p).threads.map (Thread.enc)))]),(.agg [.t (ti (e).op),.t (ti (e).w),.t (ti (e).n),.t (.sl ((e).kids.map (Expr.enc)))]),vb pair,.t F]=
 some (vb (e.valid p.cells pair&&decide (e.w=1)&&((e.sup 3).all P&&(e.sup 2).all P))):=by
 (refine den_ofY Γ99 rfl ?_;dsimp only[f99])
 have hn:=hP.1;simp only[T.norm]at hn;have h1:=zcN e p.cells pair;have h2:=zcy e F P hP
 by_cases hw:e.w=1
 ·cases hv:e.valid p.cells pair
  ·rw[hv]at h1;simp -dsimp only[go_sem,seval,hw];rw[hw]at h1;simp -dsimp only[go_sem,seval,h1];simp
  ·rw[hv]at h1;rw[hw]at h1 h2;simp -dsimp only[go_sem,seval,hw,h1,h2,hn,Bool.true_and,Bool.and_true]
 ·simp -dsimp only[go_sem,seval,hw];simp
theorem zhV (p:Prog) (hs:p.sane):Den Γ G 79 [(.agg [.t (.sl ((p).cells.map (Cell.enc))),.t (.sl ((p).modules.map (Contract.enc))),.t (.sl ((p).locks.map (Lock.enc))),.t (.sl ((p).threads.map (Thread.enc)))])]=some (.tup [vi (limitsM p).1,vi (limitsM p).2]):=by
 (refine den_ofY Γ79 rfl ?_;dsimp only[f79])
 simp -dsimp only[go_sem,seval]
 by_cases hbig:(p.cells.length:Int)>32\/(p.modules.length:Int)>6\/(p.locks.length:Int)>4\/(p.threads.length:Int)>4
 ·have hm:limitsM p=(2,-1):=by rw[limitsM,if_pos hbig]
  rw[hm]
  repeat'(refine csplit (fun h=> ?_) (fun h=> ?_)<;>(try rw[h])<;>(try simp only[zab]at h)<;>(try simp -dsimp only[go_sem,seval]))
  all_goals omega
 ·have hm:limitsM p=feGo (fun _ x=>if zao x then 2 else 0) 0 p.threads:=by rw[limitsM,if_neg hbig]
  have g1: ¬(p.cells.length:Int)>32:=by omega
  have g2: ¬(p.modules.length:Int)>6:=by omega
  have g3: ¬(p.locks.length:Int)>4:=by omega
  have g4: ¬(p.threads.length:Int)>4:=by omega
  simp -dsimp only[go_sem,seval,g1,g2,g3,g4];refine zaz 72057576858058860 p.threads.length (fun i f=>(f 34).v=vi i/\limitsM p=feGo (fun _ x=>if zao x then 2 else 0) i (p.threads.drop i)) rfl rfl ⟨by simp -dsimp only[go_sem,seval],hm⟩ ?_;clear hm;rintro i f u kk bb hi ⟨h4,hm⟩;have hw:=zah i (by omega);simp -dsimp only[go_sem,seval,h4];refine csplit (fun h=> ?_) (fun h=> ?_)<;>(try rw[h])<;>(try simp only[zab]at h)<;>(try simp -dsimp only[go_sem,seval,h4])
  ·obtain⟨x,hx,_⟩:=zaf ‹i<p.threads.length›;have hbad:zao x=true->limitsM p=(2,(i:Int)):=fun h0=>by rw[hm,fe_stop hx (by simp[h0])];simp[h0]
   simp -dsimp only[go_sem,seval,h4,hx]
   repeat'(refine csplit (fun h=> ?_) (fun h=> ?_)<;>(try rw[h])<;>(try simp only[zab]at h)<;>(try simp -dsimp only[go_sem,seval,h4]))
   ·rw[hbad (by simp[zao, *])];simp
   ·rw[hbad (by simp[zao, *])];simp
   ·rw[hbad (by simp[zao, *])];simp
   ·refine⟨by omega,by simp -dsimp only[go_sem,seval,hw],?_⟩;rw[hm,zbh hx (by simp[zao, *])]
  ·have:i=p.threads.length:=by omega
   subst this;rw[hm,zbQ];simp
end Rg
end
section
namespace Rg
open Go
theorem zke {w:Int} (h:0<=w/\w<=62):IntKind.i64.wrap (1*2^min w.toNat 64)=2^w.toNat:=by
 have:min w.toNat 64=w.toNat:=Nat.min_eq_left (by omega);rw[this,Int.one_mul];have h2:(2:Int)^w.toNat<=2^62:=zkJ (by omega);have h3:=ziJ w.toNat;exact zan (by omega)
theorem znR {w:Int} (h:0<=w/\w<=62):IntKind.u64.wrap w=w:=by
 have h1:IntKind.u64.wrap w=w % 2^64:=by simp[IntKind.wrap,IntKind.signed,IntKind.bits]
 rw[h1];omega
theorem zjP (p:Prog) (hs:p.sane):Den Γ G 80 [(.agg [.t (.sl ((p).cells.map (Cell.enc))),.t (.sl ((p).modules.map (Contract.enc))),.t (.sl ((p).locks.map (Lock.enc))),.t (.sl ((p).threads.map (Thread.enc)))])]=some (vi (cellsM p)):=by
 (refine den_ofY Γ80 rfl ?_;dsimp only[f80])
 simp -dsimp only[go_sem,seval];have hbi:=hs.cells;refine zaj 4611686018427385892 p.cells.length (fun i f h x=>(f 11).v=vi i/\h 2=some (.map (setS ((p.cells.take i).map Cell.name)))/\cellsM p=(feGo (cellErr p) i (p.cells.drop i)).1) rfl ⟨by simp -dsimp only[go_sem,seval],by simp -dsimp only[go_sem,seval];rfl,rfl⟩ ?_;rintro i f u hh x bs hi ⟨h11,hmap,hm⟩;have hw:=zah i (by omega);simp -dsimp only[go_sem,seval,h11];refine csplit (fun h=> ?_) (fun h=> ?_)<;>(try rw[h])<;>(try simp only[zab]at h)<;>(try simp -dsimp only[go_sem,seval,h11])
 ·obtain⟨c,hc,hcm⟩:=zaf ‹i<p.cells.length›;have hl:=zcZ c.name;have hb1:=zaL c.init (2^c.w.toNat);have hb2:=zaL c.thread p.threads.length;have hb3:=zaL c.module p.modules.length
  have hbad:zaY p c=true->cellsM p=1:=fun h0=>by
   have:cellErr p i c=1:=by simp[cellErr,h0]
   rw[hm,fe_stop hc (by simp[this])];exact this
  by_cases hb:zaY p c=true
  ·rw[hbad hb]
   by_cases hww:1<=c.w/\c.w<=8
   ·have s1:=zke (w:=c.w) (by omega);have s2:=znR (w:=c.w) (by omega);have s3: ¬c.w<0:=by omega
    simp -dsimp only[go_sem,seval,h11,hc,hl]
    repeat'(refine csplit (fun h=> ?_) (fun h=> ?_)<;>(try rw[h])<;>(try simp only[zab]at h)<;>(try simp -dsimp only[go_sem,seval,h11,hb1,hb2,hb3,s1,s2,s3]))
    all_goals(exfalso;simp only[zaY,inR,Bool.or_eq_true,Bool.not_eq_true',decide_eq_true_eq,decide_eq_false_iff_not]at *;simp_all;(try omega);done)
   ·have s3:c.w<1\/c.w>8:=by omega
    simp -dsimp only[go_sem,seval,h11,hc,hl];refine csplit (fun h=> ?_) (fun h=> ?_)<;>(try rw[h])<;>(try simp only[zab]at h)<;>(try simp -dsimp only[go_sem,seval,h11])
    refine csplit (fun h=> ?_) (fun h=> ?_)<;>(try rw[h])<;>(try simp only[zab]at h)<;>(try simp -dsimp only[go_sem,seval,h11])
    refine csplit (fun h=> ?_) (fun h=> ?_)<;>(try rw[h])<;>(try simp only[zab]at h)<;>(try simp -dsimp only[go_sem,seval,h11])
    all_goals(exfalso;omega)
  ·have hb':zaY p c=false:=by simpa using hb
   obtain⟨b1,b2,b3,b4,b5,b6,b7,b8⟩:=cellBad_parts hb';have s1:=zke (w:=c.w) (by omega);have s2:=znR (w:=c.w) (by omega);have s3: ¬c.w<0:=by omega
   have s4: ¬c.w<1:=by omega
   have s5: ¬c.w>8:=by omega
   have e1:inR c.init (2^c.w.toNat)=true:=by simp[inR];omega
   rw[b1]at hl;rw[e1]at hb1;rw[b8]at hb3;have hraw:=fun n=>zgA 2 c.name ((p.cells.take i).map Cell.name) hh n hmap
   have hany:((p.cells.take i).map Cell.name).any (fun d=>d.toList==c.name.toList)=(p.cells.take i).any (fun d=>d.name.toList==c.name.toList):=by rw[List.any_map];rfl
   have hcs: ∀Q:Prop,(c.thread= -1->Q)->(¬c.thread= -1->inR c.thread p.threads.length=true->Q)->Q:=fun Q q1 q2=>by
    by_cases h:c.thread= -1
    ·exact q1 h
    ·exact q2 h (by simp[inR];omega)
   refine hcs _ (fun t1=> ?_) (fun t1 t2=> ?_)
   all_goals(
    (try rw[t2]at hb2)
    simp -dsimp only[go_sem,seval,h11,hc,hl,hb1,hb2,hb3,s1,s2,s3,s4,s5,t1];refine zav (hraw _) ?_;rintro r h' n' ⟨rfl,hk'⟩;rw[hany]at hk';simp -dsimp only[go_sem,seval,h11,hany];refine csplit (fun h=> ?_) (fun h=> ?_)<;>(try rw[h])<;>(try simp only[zab]at h)<;>(try simp -dsimp only[go_sem,seval,h11])
    ·have:cellErr p i c=41:=by rw[cellErr,if_neg hb,if_pos h]
     rw[hm,fe_stop hc (by simp[this])];exact this.symm
    ·refine⟨by omega,by simp -dsimp only[go_sem,seval,hw],?_,?_⟩
     ·have hk2:=hk' h;simp -dsimp only[go_sem,seval,hk2];rw[zae hc];simp
     ·rw[hm,zbh hc (by rw[cellErr,if_neg hb,if_neg (by simp[h])])])
 ·have:i=p.cells.length:=by omega
  subst this;rw[hm,zbQ]
theorem sharedIs (p:Prog):IsF (.fa 100 [.sl (p.cells.map Cell.enc),.sl (p.modules.map Contract.enc),.sl (p.locks.map Lock.enc),.sl (p.threads.map Thread.enc)]) (ofThread p (-1)):=
 zqa (by simp[T.norm]) (fun n=>zbG p n)
theorem zhF (p:Prog) (c:Int):sees p (-1) c=ofThread p (-1) c:=by simp[sees]
theorem zhS (p:Prog):mayP p true (-1)=ofThread p (-1):=by funext c;simp[mayP,zhF]
theorem zeJ (p:Prog) (t:Int):mayP p true t=sees p t:=by funext c;simp[mayP]
theorem zgf (p:Prog) (t:Int):mayP p false t=ofThread p t:=by funext c;simp[mayP]
theorem ze8 (p:Prog) (e:Expr) (pair:Bool):Den Γ G 99 [(.agg [.t (.sl ((p).cells.map (Cell.enc))),.t (.sl ((p).modules.map (Contract.enc))),.t (.sl ((p).locks.map (Lock.enc))),.t (.sl ((p).threads.map (Thread.enc)))]),(.agg [.t (ti (e).op),.t (ti (e).w),.t (ti (e).n),.t (.sl ((e).kids.map (Expr.enc)))]),vb pair,.t (.fa 100 [.sl (p.cells.map Cell.enc),.sl (p.modules.map Contract.enc),.sl (p.locks.map Lock.enc),.sl (p.threads.map Thread.enc)])]=some (vb (truthOk p e pair (-1))):=by
 rw[zi5 p e pair _ _ (sharedIs p),truthOk,overOk,zhS]
theorem zgZ (p:Prog) (hs:p.sane):Den Γ G 81 [(.agg [.t (.sl ((p).cells.map (Cell.enc))),.t (.sl ((p).modules.map (Contract.enc))),.t (.sl ((p).locks.map (Lock.enc))),.t (.sl ((p).threads.map (Thread.enc)))])]=some (vi (modulesM p)):=by
 (refine den_ofY Γ81 rfl ?_;dsimp only[f81])
 simp -dsimp only[go_sem,seval];have hbi:=hs.modules;refine zaj 4611686018427385892 p.modules.length (fun i f h x=>(f 11).v=vi i/\h 2=some (.map (setS ((p.modules.take i).map Contract.name)))/\modulesM p=(feGo (modErr p) i (p.modules.drop i)).1) rfl ⟨by simp -dsimp only[go_sem,seval],by simp -dsimp only[go_sem,seval];rfl,rfl⟩ ?_;rintro i f u hh x bs hi ⟨h11,hmap,hm⟩;have hw:=zah i (by omega);simp -dsimp only[go_sem,seval,h11];refine csplit (fun h=> ?_) (fun h=> ?_)<;>(try rw[h])<;>(try simp only[zab]at h)<;>(try simp -dsimp only[go_sem,seval,h11])
 ·obtain⟨c,hc,hcm⟩:=zaf ‹i<p.modules.length›;obtain⟨_,_,s3⟩:=hs.mname c hcm
  have hstop: ∀k:Int,k≠0->modErr p i c=k->modulesM p=k:=fun k hk h0=>by
   rw[hm,fe_stop hc (by rw[h0];exact hk)];exact h0
  have hl:=zcZ c.name;have hl2:=zcZ c.owner;simp -dsimp only[go_sem,seval,h11,hc,hl];refine csplit (fun h=> ?_) (fun h=> ?_)<;>(try rw[h])<;>(try simp only[zab]at h)<;>(try simp -dsimp only[go_sem,seval,h11,hl2])
  ·rw[hstop 1 (by decide) (by simp[modErr,h])]
  ·have e1:isLabel c.name=true:=by assumption
   refine csplit (fun h=> ?_) (fun h=> ?_)<;>(try rw[h])<;>(try simp only[zab]at h)<;>(try simp -dsimp only[go_sem,seval,h11])
   ·rw[hstop 1 (by decide) (by simp[modErr,h])]
   ·have e2:isLabel c.owner=true:=by assumption
    have hraw:=fun n=>zgA 2 c.name ((p.modules.take i).map Contract.name) hh n hmap
    have hany:((p.modules.take i).map Contract.name).any (fun d=>d.toList==c.name.toList)=(p.modules.take i).any (fun d=>d.name.toList==c.name.toList):=by rw[List.any_map];rfl
    refine zav (hraw _) ?_;rintro r h' n' ⟨rfl,hk'⟩;rw[hany]at hk';simp -dsimp only[go_sem,seval,h11,hany];have hab:=zin c.rely;have ht1:=ze8 p c.rely true;have ht2:=ze8 p c.guar true;refine csplit (fun h=> ?_) (fun h=> ?_)<;>(try rw[h])<;>(try simp only[zab]at h)<;>(try simp -dsimp only[go_sem,seval,h11,hab])
    ·rw[hstop 41 (by decide) (by rw[modErr,if_neg (by simp[e1,e2]),if_pos h])]
    ·have hme:modErr p i c=if(!c.rely.absent&& !truthOk p c.rely true (-1)) || !truthOk p c.guar true (-1)then 60 else if !rising c.frame || !c.frame.all (ofThread p (-1))then 1 else 0:=by
      rw[modErr,if_neg (by simp[e1,e2]),if_neg (by simp[h])]
     have hk2:=hk' h;have hri:=zc5 c.frame (by omega);have hwi:=zbW _ _ (sharedIs p) c.frame (by omega)
     repeat'(refine csplit (fun h=> ?_) (fun h=> ?_)<;>(try rw[h])<;>(try simp only[zab]at h)<;>(try simp -dsimp only[go_sem,seval,h11,ht1,ht2,hri,hwi]))
     all_goals first
      | (rw[hstop 60 (by decide) (by rw[hme];simp[*])];done)
      | (rw[hstop 1 (by decide) (by rw[hme];simp[*])];done)
      | (refine⟨by omega,by simp -dsimp only[go_sem,seval,hw],?_,?_⟩
         ·simp -dsimp only[go_sem,seval,hk2];rw[zae hc];simp
         ·rw[hm,zbh hc (by rw[hme];simp[*])])
 ·have:i=p.modules.length:=by omega
  subst this;rw[hm,zbQ]
theorem zhO {p:Prog} {t c:Int} (h:ofThread p t c=true):0<=c/\ ∃x,p.cells[c.toNat]? =some x/\x.thread=t:=by
 unfold ofThread at h;simp only[zF,decide_eq_true_eq]at h;refine⟨h.1,?_⟩;rcases hx:p.cells[c.toNat]? with _ | x
 ·rw[hx]at h;simp at h
 ·rw[hx]at h;exact⟨x,rfl,by simpa using h.2⟩
theorem zjs (p:Prog) (hs:p.sane):Den Γ G 82 [(.agg [.t (.sl ((p).cells.map (Cell.enc))),.t (.sl ((p).modules.map (Contract.enc))),.t (.sl ((p).locks.map (Lock.enc))),.t (.sl ((p).threads.map (Thread.enc)))])]=some (vi (locksM p)):=by
 (refine den_ofY Γ82 rfl ?_;dsimp only[f82])
 simp -dsimp only[go_sem,seval];have hbi:=hs.locks;refine zaj 9444732965739290419428 p.locks.length (fun i f h x=>(f 13).v=vi i/\h 2=some (.map (setI ((p.locks.take i).map Lock.cell)))/\locksM p=(feGo (lockErr p) i (p.locks.drop i)).1) rfl ⟨by simp -dsimp only[go_sem,seval],by simp -dsimp only[go_sem,seval];rfl,rfl⟩ ?_;rintro i f u hh x bs hi ⟨h13,hmap,hm⟩;have hw:=zah i (by omega);simp -dsimp only[go_sem,seval,h13];refine csplit (fun h=> ?_) (fun h=> ?_)<;>(try rw[h])<;>(try simp only[zab]at h)<;>(try simp -dsimp only[go_sem,seval,h13])
 ·obtain⟨l,hl,hlm⟩:=zaf ‹i<p.locks.length›
  have hstop: ∀k:Int,k≠0->lockErr p i l=k->locksM p=k:=fun k hk h0=>by
   rw[hm,fe_stop hl (by rw[h0];exact hk)];exact h0
  have hsh:=zbG p l.cell;have hb:=zaL l.module p.modules.length;have ht:=ze8 p l.inv false;have hany:((p.locks.take i).map Lock.cell).any (fun d=>decide (d=l.cell))=(p.locks.take i).any (fun d=>decide (d.cell=l.cell)):=by rw[List.any_map];rfl
  have hfi:=zoR l.cell ((p.locks.take i).map Lock.cell);rw[hany]at hfi;simp -dsimp only[go_sem,seval,h13,hl,hsh];refine csplit (fun h=> ?_) (fun h=> ?_)<;>(try rw[h])<;>(try simp only[zab]at h)<;>(try simp -dsimp only[go_sem,seval,h13])
  ·rw[hstop 1 (by decide) (by simp[lockErr,h])]
  ·have o1:ofThread p (-1) l.cell=true:=by assumption
   obtain⟨d0,y,hy,_⟩:=zhO o1;have hc1:=zaH (g:=fun x=>decide (x.w=1)) hy;have hc2:=zaH (g:=Cell.ghost) hy;simp -dsimp only[go_sem,seval,h13,hl,d0,hy];refine csplit (fun h=> ?_) (fun h=> ?_)<;>(try rw[h])<;>(try simp only[zab]at h)<;>(try simp -dsimp only[go_sem,seval,h13,hl,d0,hy])
   ·rw[hstop 1 (by decide) (by rw[lockErr,if_pos (by rw[hc1];simp[h])])]
   ·have e1:y.w=1:=by assumption
    refine csplit (fun h=> ?_) (fun h=> ?_)<;>(try rw[h])<;>(try simp only[zab]at h)<;>(try simp -dsimp only[go_sem,seval,h13,hl,hmap,hfi,Option.getD_none,Option.getD_some,Option.isSome_none,zG,if_true,if_false])
    ·rw[hstop 1 (by decide) (by rw[lockErr,if_pos (by rw[hc2];simp[h])])]
    ·have e2:y.ghost=false:=by assumption
     have hle:lockErr p i l=if !inR l.module p.modules.length then 1 else if(p.locks.take i).any (fun d=>decide (d.cell=l.cell))then 1 else if !truthOk p l.inv false (-1)then 60 else 0:=by
      rw[lockErr,o1,hc1,hc2,e1,e2];simp
     cases ha:(p.locks.take i).any (fun d=>decide (d.cell=l.cell))
     ·rw[ha]at hfi hany hle;have hpu:=zsC l.cell _ hany;simp -dsimp only[go_sem,seval,h13,hl,hmap,hfi,Option.getD_none,Option.getD_some,Option.isSome_none,zG,if_true,if_false,hb];refine csplit (fun h=> ?_) (fun h=> ?_)<;>(try rw[h])<;>(try simp only[zab]at h)<;>(try simp -dsimp only[go_sem,seval,h13,hl,hmap,hpu,ht])
      ·rw[hstop 1 (by decide) (by rw[hle];simp[h])]
      ·have e3:inR l.module p.modules.length=true:=by assumption
       refine csplit (fun h=> ?_) (fun h=> ?_)<;>(try rw[h])<;>(try simp only[zab]at h)<;>(try simp -dsimp only[go_sem,seval,h13])
       ·rw[hstop 60 (by decide) (by rw[hle];simp[h,e3])]
       ·refine⟨by omega,by simp -dsimp only[go_sem,seval,hw],?_,?_⟩
        ·simp -dsimp only[go_sem,seval];rw[zae hl];simp
        ·rw[hm,zbh hl (by rw[hle];simp[h,e3])]
     ·rw[ha]at hfi hle;simp -dsimp only[go_sem,seval,h13,hl,hmap,hfi,Option.getD_none,Option.getD_some,Option.isSome_none,zG,if_true,if_false];rw[hstop 1 (by decide) (by rw[hle];simp)]
 ·have:i=p.locks.length:=by omega
  subst this;rw[hm,zbQ]
def zti (F:T) (P:Int->Bool) (D:Int->Prop):Prop:=T.norm F=F/\ ∃g a b,zwe (.t F)=some (g,a,b)/\(∀(h:Nat->Option O) (n:Int),(a++[vi n]++b).mapM (toT1 h)=some (a++[vi n]++b))/\
 (∀n:Int,(a++[vi n]++b).all V.tree=true)/\ ∀n:Int,D n->Den Γ G g (a++[vi n]++b)=some (vb (P n))
theorem IsF.on {F:T} {P:Int->Bool} (h:IsF F P):zti F P (fun _=>True):=by
 obtain⟨h1,g,a,b,h2,h3,h4,h5⟩:=h;exact⟨h1,g,a,b,h2,h3,h4,fun n _=>h5 n⟩
theorem zdb (set:List Assign) (F:T) (P:Int->Bool) (D:Int->Prop) (hP:zti F P D) (hD: ∀a∈set,D a.cell) (hl:set.length<2^48):
 Den Γ G 162 [.t (.sl (set.map Assign.enc)),.t F]=some (vb (set.all fun a=>P a.cell)):=by
 (refine den_ofY Γ162 rfl ?_;dsimp only[zrN])
 obtain⟨_,g,a,b,hf,hm,ha,hd⟩:=hP;have hK:=zly hf;simp -dsimp only[go_sem,seval];refine zaz 523856 set.length (fun i f=>(f 9).v=vi i/\(set.all fun a=>P a.cell)=(set.drop i).all fun a=>P a.cell) rfl rfl ⟨by simp -dsimp only[go_sem,seval],rfl⟩ ?_;rintro i f u kk bb hi ⟨h9,hall⟩;have hw:=zah i (by omega);simp -dsimp only[go_sem,seval,h9];refine csplit (fun h=> ?_) (fun h=> ?_)<;>(try rw[h])<;>(try simp only[zab]at h)<;>(try simp -dsimp only[go_sem,seval,h9])
 ·obtain⟨x,hx,hxm⟩:=zaf ‹i<set.length›;have hdx:=hd x.cell (hD x hxm);simp -dsimp only[go_sem,seval,h9,hx,hK,hm,ha,hdx];refine csplit (fun h=> ?_) (fun h=> ?_)<;>(try rw[h])<;>(try simp only[zab]at h)<;>(try simp -dsimp only[go_sem,seval,h9])
  ·rw[hall,zaM hx h]
  ·refine⟨by omega,by simp -dsimp only[go_sem,seval,hw],?_⟩;rw[hall,zaN hx h]
 ·have:i=set.length:=by omega
  subst this;rw[hall,za0]
theorem zda (s:Step) (F:T) (P:Int->Bool) (hP:IsF F P) (hl:s.set.length<2^48):
 Den Γ G 161 [(.agg [.t (ti (s).kind),.t (ti (s).fr),.t (ti (s).to),.t (ti ((s).guard).op),.t (ti ((s).guard).w),.t (ti ((s).guard).n),.t (.sl (((s).guard).kids.map Expr.enc)),.t (.sl ((s).set.map Assign.enc)),.t (tb (s).release),.t (ti (s).target),.t (ti (s).module)]),.t F]=some (vb (((s.guard.sup 3).all P&&(s.guard.sup 2).all P)&&s.set.all fun a=>(a.to.sup 3).all P&&(a.to.sup 2).all P)):=by
 (refine den_ofY Γ161 rfl ?_;dsimp only[zrO])
 have hn:=hP.1;simp only[T.norm]at hn;have hg:=zcy s.guard F P hP;simp -dsimp only[go_sem,seval,hg,hn];refine csplit (fun h=> ?_) (fun h=> ?_)<;>(try rw[h])<;>(try simp only[zab]at h)<;>(try simp -dsimp only[go_sem,seval])
 ·rw[h];simp
 ·rw[h,Bool.true_and];refine zaz 33521744 s.set.length (fun i f=>(f 15).v=vi i/\(s.set.all fun a=>(a.to.sup 3).all P&&(a.to.sup 2).all P)=(s.set.drop i).all fun a=>(a.to.sup 3).all P&&(a.to.sup 2).all P) rfl rfl ⟨by simp -dsimp only[go_sem,seval],rfl⟩ ?_;rintro i f u kk bb hi ⟨h15,hall⟩;have hw:=zah i (by omega);simp -dsimp only[go_sem,seval,h15];refine csplit (fun h=> ?_) (fun h=> ?_)<;>(try rw[h])<;>(try simp only[zab]at h)<;>(try simp -dsimp only[go_sem,seval,h15])
  ·obtain⟨x,hx,hxm⟩:=zaf ‹i<s.set.length›;have hox:=zcy x.to F P hP;simp -dsimp only[go_sem,seval,h15,hx,hox,hn];refine csplit (fun h=> ?_) (fun h=> ?_)<;>(try rw[h])<;>(try simp only[zab]at h)<;>(try simp -dsimp only[go_sem,seval,h15])
   ·rw[hall,zaM hx h]
   ·refine⟨by omega,by simp -dsimp only[go_sem,seval,hw],?_⟩;rw[hall,zaN hx h]
  ·have:i=s.set.length:=by omega
   subst this;rw[hall,za0]
theorem zi7 (s:Step):Den Γ G 165 [(.agg [.t (ti (s).kind),.t (ti (s).fr),.t (ti (s).to),.t (ti ((s).guard).op),.t (ti ((s).guard).w),.t (ti ((s).guard).n),.t (.sl (((s).guard).kids.map Expr.enc)),.t (.sl ((s).set.map Assign.enc)),.t (tb (s).release),.t (ti (s).target),.t (ti (s).module)])]=some (vb (s.guard.one&&decide (s.set=[]))):=by
 (refine den_ofY Γ165 rfl ?_;dsimp only[zrK])
 have h1:=zoC s.guard;simp -dsimp only[go_sem,seval,h1];refine csplit (fun h=> ?_) (fun h=> ?_)<;>(try rw[h])<;>(try simp only[zab]at h)<;>(try simp -dsimp only[go_sem,seval])
 ·rcases s.set with _ | ⟨a,r⟩
  ·simp
  ·simp;omega
 ·simp
theorem ownF (p:Prog) (t:Int):IsF (.fn 146 [] [zaF p,.ip [ti t]]) (ofThread p t):=(ownIs p t).isF
theorem seesF (p:Prog) (t:Int):IsF (.fn 134 [] [zaF p,.ip [.fn 146 [] [zaF p,.ip [ti t]]]]) (sees p t):=(visibleIs p t).isF
theorem zgm (p:Prog) (t:Int) (s:Step) (hl:s.set.length<2^48):Den Γ G 147 [(.agg [.t (.sl ((p).cells.map (Cell.enc))),.t (.sl ((p).modules.map (Contract.enc))),.t (.sl ((p).locks.map (Lock.enc))),.t (.sl ((p).threads.map (Thread.enc)))]),vi t,(.agg [.t (ti (s).kind),.t (ti (s).fr),.t (ti (s).to),.t (ti ((s).guard).op),.t (ti ((s).guard).w),.t (ti ((s).guard).n),.t (.sl (((s).guard).kids.map Expr.enc)),.t (.sl ((s).set.map Assign.enc)),.t (tb (s).release),.t (ti (s).target),.t (ti (s).module)])]=some (vb (valuesOk p s false t&&s.set.all fun a=>ofThread p t a.cell)):=by
 (refine den_ofY Γ147 rfl ?_;dsimp only[f147])
 have h1:=zga p t
 have h2:Den Γ G 161 [(.agg [.t (ti (s).kind),.t (ti (s).fr),.t (ti (s).to),.t (ti ((s).guard).op),.t (ti ((s).guard).w),.t (ti ((s).guard).n),.t (.sl (((s).guard).kids.map Expr.enc)),.t (.sl ((s).set.map Assign.enc)),.t (tb (s).release),.t (ti (s).target),.t (ti (s).module)]),.t (.fn 146 [] [zaF p,.ip [ti t]])]=some (vb (valuesOk p s false t)):=by
  rw[zda s _ _ (ownF p t) hl];simp only[valuesOk,overOk,zgf]
 have h3:=zdb s.set _ _ _ (ownF p t).on (fun _ _=>trivial) hl;simp -dsimp only[go_sem,seval,h1,h2];refine csplit (fun h=> ?_) (fun h=> ?_)<;>(try rw[h])<;>(try simp only[zab]at h)<;>(try simp -dsimp only[go_sem,seval,h3])
 ·simp
theorem zfg (p:Prog) (t:Int) (s:Step) (hl:s.set.length<2^48):Den Γ G 150 [(.agg [.t (.sl ((p).cells.map (Cell.enc))),.t (.sl ((p).modules.map (Contract.enc))),.t (.sl ((p).locks.map (Lock.enc))),.t (.sl ((p).threads.map (Thread.enc)))]),vi t,(.agg [.t (ti (s).kind),.t (ti (s).fr),.t (ti (s).to),.t (ti ((s).guard).op),.t (ti ((s).guard).w),.t (ti ((s).guard).n),.t (.sl (((s).guard).kids.map Expr.enc)),.t (.sl ((s).set.map Assign.enc)),.t (tb (s).release),.t (ti (s).target),.t (ti (s).module)])]=some (vb (valuesOk p s true t&&s.set.all fun a=>sees p t a.cell)):=by
 (refine den_ofY Γ150 rfl ?_;dsimp only[f150])
 have h1:=zc9 p t
 have h2:Den Γ G 161 [(.agg [.t (ti (s).kind),.t (ti (s).fr),.t (ti (s).to),.t (ti ((s).guard).op),.t (ti ((s).guard).w),.t (ti ((s).guard).n),.t (.sl (((s).guard).kids.map Expr.enc)),.t (.sl ((s).set.map Assign.enc)),.t (tb (s).release),.t (ti (s).target),.t (ti (s).module)]),.t (.fn 134 [] [zaF p,.ip [.fn 146 [] [zaF p,.ip [ti t]]]])]=some (vb (valuesOk p s true t)):=by
  rw[zda s _ _ (seesF p t) hl];simp only[valuesOk,overOk,zeJ]
 have h3:=zdb s.set _ _ _ (seesF p t).on (fun _ _=>trivial) hl;simp -dsimp only[go_sem,seval,h1,h2];refine csplit (fun h=> ?_) (fun h=> ?_)<;>(try rw[h])<;>(try simp only[zab]at h)<;>(try simp -dsimp only[go_sem,seval,h3])
 ·simp
theorem zgn (p:Prog) (t:Int) (s:Step):Den Γ G 151 [(.agg [.t (.sl ((p).cells.map (Cell.enc))),.t (.sl ((p).modules.map (Contract.enc))),.t (.sl ((p).locks.map (Lock.enc))),.t (.sl ((p).threads.map (Thread.enc)))]),vi t,(.agg [.t (ti (s).kind),.t (ti (s).fr),.t (ti (s).to),.t (ti ((s).guard).op),.t (ti ((s).guard).w),.t (ti ((s).guard).n),.t (.sl (((s).guard).kids.map Expr.enc)),.t (.sl ((s).set.map Assign.enc)),.t (tb (s).release),.t (ti (s).target),.t (ti (s).module)])]=some (vb (s.guard.one&&decide (s.set=[]))):=by
 (refine den_ofY Γ151 rfl ?_;dsimp only[f151])
 have h1:=zi7 s;simp -dsimp only[go_sem,seval,h1]
theorem zd4 (p:Prog) (t:Int) (s:Step):Den Γ G 153 [(.agg [.t (.sl ((p).cells.map (Cell.enc))),.t (.sl ((p).modules.map (Contract.enc))),.t (.sl ((p).locks.map (Lock.enc))),.t (.sl ((p).threads.map (Thread.enc)))]),vi t,(.agg [.t (ti (s).kind),.t (ti (s).fr),.t (ti (s).to),.t (ti ((s).guard).op),.t (ti ((s).guard).w),.t (ti ((s).guard).n),.t (.sl (((s).guard).kids.map Expr.enc)),.t (.sl ((s).set.map Assign.enc)),.t (tb (s).release),.t (ti (s).target),.t (ti (s).module)])]=some (vb (joinOk p t s)):=by
 (refine den_ofY Γ153 rfl ?_;dsimp only[f153])
 have h1:=zi7 s;have h2:=zaL s.target p.threads.length;simp -dsimp only[go_sem,seval,h1];cases hb:(s.guard.one&&decide (s.set=[]))
 ·rw[hb]at h1;simp -dsimp only[go_sem,seval,h1];simp[joinOk,hb]
 ·rw[hb]at h1;simp -dsimp only[go_sem,seval,h1];refine csplit (fun h=> ?_) (fun h=> ?_)<;>(try rw[h])<;>(try simp only[zab]at h)<;>(try simp -dsimp only[go_sem,seval,h2])
  ·simp[joinOk,hb,h]
  ·simp[joinOk,hb,h]
theorem zgl (p:Prog) (t:Int) (s:Step):Den Γ G 152 [(.agg [.t (.sl ((p).cells.map (Cell.enc))),.t (.sl ((p).modules.map (Contract.enc))),.t (.sl ((p).locks.map (Lock.enc))),.t (.sl ((p).threads.map (Thread.enc)))]),vi t,(.agg [.t (ti (s).kind),.t (ti (s).fr),.t (ti (s).to),.t (ti ((s).guard).op),.t (ti ((s).guard).w),.t (ti ((s).guard).n),.t (.sl (((s).guard).kids.map Expr.enc)),.t (.sl ((s).set.map Assign.enc)),.t (tb (s).release),.t (ti (s).target),.t (ti (s).module)])]=some (vb (joinOk p t s&&zbS p s.target)):=by
 (refine den_ofY Γ152 rfl ?_;dsimp only[f152])
 have h1:=zd4 p t s;simp -dsimp only[go_sem,seval,h1];cases hb:joinOk p t s
 ·rw[hb]at h1;simp -dsimp only[go_sem,seval];simp
 ·have hr:inR s.target p.threads.length=true:=by
   simp only[joinOk,zF]at hb;exact hb.2
  simp only[inR,decide_eq_true_eq]at hr;obtain⟨t0,t1⟩:=hr;obtain⟨y,hy⟩: ∃y,p.threads[s.target.toNat]? =some y:=⟨_,zI (by omega)⟩
  simp -dsimp only[go_sem,seval,t0,hy];simp[zbS,hy]
theorem zkO (p:Prog) (t:Int) (e:Expr):Den Γ G 108 [(.agg [.t (ti (e).op),.t (ti (e).w),.t (ti (e).n),.t (.sl ((e).kids.map (Expr.enc)))]),.t (.fn 146 [] [zaF p,.ip [ti t]])]=some (vb (overOk p e false t)):=by
 rw[zcy e _ _ (ownF p t),overOk,zgf]
theorem zfS (r:List Assign):((r.map Assign.enc).all fun x=>decide (x.length=5))=true:=by
 simp[Assign.enc,Expr.enc_eq]
theorem ziH (n:Nat):(((n+1:Nat):Int)-1).toNat=n:=by omega
theorem zis {α β:Type} (f:α->β) (r:List α):List.take r.length (r.map f)=r.map f:=List.take_of_length_le (by simp)
theorem zhe (p:Prog) (t:Int) (s:Step) (hl:s.set.length<2^48) (hr:zgw p s):Den Γ G 148 [(.agg [.t (.sl ((p).cells.map (Cell.enc))),.t (.sl ((p).modules.map (Contract.enc))),.t (.sl ((p).locks.map (Lock.enc))),.t (.sl ((p).threads.map (Thread.enc)))]),vi t,(.agg [.t (ti (s).kind),.t (ti (s).fr),.t (ti (s).to),.t (ti ((s).guard).op),.t (ti ((s).guard).w),.t (ti ((s).guard).n),.t (.sl (((s).guard).kids.map Expr.enc)),.t (.sl ((s).set.map Assign.enc)),.t (tb (s).release),.t (ti (s).target),.t (ti (s).module)])]=some (vb (loadOk p t s)):=by
 (refine den_ofY Γ148 rfl ?_;dsimp only[f148])
 have h1:=zga p t;have hg:=zkO p t s.guard;rcases hs:s.set with _ | ⟨a,r⟩
 ·simp -dsimp only[go_sem,seval,h1,hs];simp[loadOk,hs]
 ·have hne: ¬(((r.length+1:Nat):Int)=0):=by omega
  have hle:(1:Int)<=((r.length+1:Nat):Int):=by omega
  have hK:loadOk p t s=(overOk p s.guard false t&&ofThread p t a.cell&& !zaJ p a.cell Cell.ghost&&decide (a.to.op=2)&&ofThread p (-1) a.to.n&& !zaJ p a.to.n Cell.ghost&&
   r.all fun b=>ofThread p t b.cell&&zaJ p b.cell Cell.ghost&&overOk p b.to false t):=by rw[loadOk,hs]
  have ham:a∈s.set:=by rw[hs];simp
  obtain⟨d0,x,hx⟩:=zaV (hr.2 a ham).1;have ho:=zei p t a.cell;have hgh:=zcC p a.cell x d0 hx;have o2:=zaH (g:=Cell.ghost) hx;have hsh:=zbG p a.to.n;simp -dsimp only[go_sem,seval,h1,hs,hne,hg];refine csplit (fun h=> ?_) (fun h=> ?_)<;>(try rw[h])<;>(try simp only[zab]at h)<;>(try simp -dsimp only[go_sem,seval,hs,ho,zaF])
  ·rw[hK,h];simp
  ·have e0:overOk p s.guard false t=true:=by assumption
   refine csplit (fun h=> ?_) (fun h=> ?_)<;>(try rw[h])<;>(try simp only[zab]at h)<;>(try simp -dsimp only[go_sem,seval,hgh,hs])
   ·rw[hK,h];simp
   ·have e1:ofThread p t a.cell=true:=by assumption
    refine csplit (fun h=> ?_) (fun h=> ?_)<;>(try rw[h])<;>(try simp only[zab]at h)<;>(try simp -dsimp only[go_sem,seval,hs])
    ·rw[hK,o2,h];simp
    ·have e2:x.ghost=false:=by assumption
     refine csplit (fun h=> ?_) (fun h=> ?_)<;>(try rw[h])<;>(try simp only[zab]at h)<;>(try simp -dsimp only[go_sem,seval,hsh])
     ·rw[hK];simp[h]
     ·have e3:a.to.op=2:=by assumption
      obtain⟨d1,y,hy⟩:=zaV (valid_cell (hr.2 a ham).2 e3);have hgh2:=zcC p a.to.n y d1 hy;have q2:=zaH (g:=Cell.ghost) hy;refine csplit (fun h=> ?_) (fun h=> ?_)<;>(try rw[h])<;>(try simp only[zab]at h)<;>(try simp -dsimp only[go_sem,seval,hgh2])
      ·rw[hK,h];simp
      ·have e4:ofThread p (-1) a.to.n=true:=by assumption
       refine csplit (fun h=> ?_) (fun h=> ?_)<;>(try rw[h])<;>(try simp only[zab]at h)<;>(try simp -dsimp only[go_sem,seval,hs,hle])
       ·rw[hK,q2,h];simp
       ·rw[o2,q2,e0,e1,e2,e4,h]at hK;simp only[e3,decide_true,Bool.not_false,Bool.and_true,Bool.true_and]at hK;have t1:=zfS r;have t2:=ziH r.length;have t3:=zis Assign.enc r;simp -dsimp only[go_sem,seval,t1,t2,t3,Int.le_refl];refine zaz 2475879930996807960121837632 r.length (fun j f'=>(f' 67).v=vi j/\loadOk p t s=(r.drop j).all fun b=>ofThread p t b.cell&&zaJ p b.cell Cell.ghost&&overOk p b.to false t) rfl rfl ⟨by simp -dsimp only[go_sem,seval],hK⟩ ?_;rintro j f' u' kk' bb' hj ⟨h67,hall⟩;have hw':=zah j (by rw[hs]at hl;simp at hl;omega);simp -dsimp only[go_sem,seval,h67];refine csplit (fun h=> ?_) (fun h=> ?_)<;>(try rw[h])<;>(try simp only[zab]at h)<;>(try simp -dsimp only[go_sem,seval,h67])
        ·obtain⟨b,hb,hbr⟩:=zaf ‹j<r.length›;obtain⟨d2,z,hz⟩:=zaV (hr.2 b (by rw[hs];simp[hbr])).1;have hob:=zei p t b.cell;have hgz:=zcC p b.cell z d2 hz;have z2:=zaH (g:=Cell.ghost) hz;have hov:=zkO p t b.to;simp only[zaF]at hov;simp -dsimp only[go_sem,seval,h67,hb,hob,zaF]
         repeat'(refine csplit (fun h=> ?_) (fun h=> ?_)<;>(try rw[h])<;>(try simp only[zab]at h)<;>(try simp -dsimp only[go_sem,seval,h67,hgz,hov,zaF]))
         all_goals first
          | (rw[hall,zaM hb (by rw[z2];simp[*])];done)
          | (refine⟨by omega,by simp -dsimp only[go_sem,seval,hw'],?_⟩
             rw[hall,zaN hb (by rw[z2];simp[*])])
        ·have:j=r.length:=by omega
         subst this;rw[hall,za0]
theorem store1 (p:Prog) (t:Int):zti (.fn 164 [] [zaF p,.ip [.fn 134 [] [zaF p,.ip [.fn 146 [] [zaF p,.ip [ti t]]]]]]) (fun c=>zaJ p c Cell.ghost&&sees p t c) (fun c=>inR c p.cells.length=true):=by
 have hb:IsP 134 [zaF p,.ip [.fn 146 [] [zaF p,.ip [ti t]]]] (sees p t):=visibleIs p t;have hn: ∀x∈[zaF p,.ip [.fn 134 [] [zaF p,.ip [.fn 146 [] [zaF p,.ip [ti t]]]]]],T.norm x=x:=by simp[zaF,T.norm]
 refine⟨rfl,164,[],[zaF p,.ip [.fn 134 [] [zaF p,.ip [.fn 146 [] [zaF p,.ip [ti t]]]]]].map V.t,rfl,fun hh n=> ?_,fun n=> ?_,fun n hin=> ?_⟩
 ·exact zdK hh (ti n::[zaF p,.ip [.fn 134 [] [zaF p,.ip [.fn 146 [] [zaF p,.ip [ti t]]]]]]) (fun x hx=>(List.mem_cons.1 hx).elim (fun e=>by rw[e];rfl) (hn x))
 ·exact zgz (ti n::[zaF p,.ip [.fn 134 [] [zaF p,.ip [.fn 146 [] [zaF p,.ip [ti t]]]]]])
 ·obtain⟨d0,x,hx⟩:=zaV hin;have hgh:=zcC p n x d0 hx;have o2:=zaH (g:=Cell.ghost) hx;have hd:=hb.2 n;simp only[List.map_cons,List.map_nil,zaF,List.nil_append,List.cons_append]at hd⊢
  (refine den_ofY Γ164 rfl ?_;dsimp only[zrL])
  simp -dsimp only[go_sem,seval,hgh];refine csplit (fun h=> ?_) (fun h=> ?_)<;>(try rw[h])<;>(try simp only[zab]at h)<;>(try simp -dsimp only[go_sem,seval,hd])
  ·rw[o2,h];simp
  ·rw[o2,h];simp
theorem zgk (p:Prog) (t:Int) (s:Step) (hl:s.set.length<2^48) (hr:zgw p s):Den Γ G 149 [(.agg [.t (.sl ((p).cells.map (Cell.enc))),.t (.sl ((p).modules.map (Contract.enc))),.t (.sl ((p).locks.map (Lock.enc))),.t (.sl ((p).threads.map (Thread.enc)))]),vi t,(.agg [.t (ti (s).kind),.t (ti (s).fr),.t (ti (s).to),.t (ti ((s).guard).op),.t (ti ((s).guard).w),.t (ti ((s).guard).n),.t (.sl (((s).guard).kids.map Expr.enc)),.t (.sl ((s).set.map Assign.enc)),.t (tb (s).release),.t (ti (s).target),.t (ti (s).module)])]=some (vb (storeOk p t s)):=by
 (refine den_ofY Γ149 rfl ?_;dsimp only[f149])
 have h1:=zga p t
 have hv:Den Γ G 161 [(.agg [.t (ti (s).kind),.t (ti (s).fr),.t (ti (s).to),.t (ti ((s).guard).op),.t (ti ((s).guard).w),.t (ti ((s).guard).n),.t (.sl (((s).guard).kids.map Expr.enc)),.t (.sl ((s).set.map Assign.enc)),.t (tb (s).release),.t (ti (s).target),.t (ti (s).module)]),.t (.fn 146 [] [zaF p,.ip [ti t]])]=some (vb (valuesOk p s false t)):=by
  rw[zda s _ _ (ownF p t) hl];simp only[valuesOk,overOk,zgf]
 by_cases he:s.set=[]
 ·simp -dsimp only[go_sem,seval,h1,he];simp[storeOk,he]
 ·obtain⟨a,r,hs⟩: ∃a r,s.set=a::r:=by
   rcases h:s.set with _ | ⟨a,r⟩
   ·exact absurd h he
   ·exact⟨a,r,rfl⟩
  have hsl:s.set.length=r.length+1:=by rw[hs];rfl
  have h0:s.set[0]? =some a:=by rw[hs];rfl
  have hd1:List.drop 1 (s.set.map Assign.enc)=r.map Assign.enc:=by rw[hs];rfl
  have hne: ¬(((r.length+1:Nat):Int)=0):=by omega
  have hle:(1:Int)<=((r.length+1:Nat):Int):=by omega
  have hK:storeOk p t s=(valuesOk p s false t&&ofThread p (-1) a.cell&& !zaJ p a.cell Cell.ghost&&r.all fun b=>zaJ p b.cell Cell.ghost&&sees p t b.cell):=by rw[storeOk,hs]
  have ham:a∈s.set:=by rw[hs];simp
  obtain⟨d0,x,hx⟩:=zaV (hr.2 a ham).1;have hgh:=zcC p a.cell x d0 hx;have o2:=zaH (g:=Cell.ghost) hx;have hsh:=zbG p a.cell;have hvis:=zc9 p t;have hta:=zdb r _ _ _ (store1 p t) (fun b hb=>(hr.2 b (by rw[hs];simp[hb])).1) (by omega);have t1:=zfS s.set;have t2:=ziH r.length;have t3:=zis Assign.enc r;simp -dsimp only[go_sem,seval,h1,hsl,hne,hv,h0];refine csplit (fun h=> ?_) (fun h=> ?_)<;>(try rw[h])<;>(try simp only[zab]at h)<;>(try simp -dsimp only[go_sem,seval,h0,hsh])
  ·rw[hK,h];simp
  ·have e0:valuesOk p s false t=true:=by assumption
   refine csplit (fun h=> ?_) (fun h=> ?_)<;>(try rw[h])<;>(try simp only[zab]at h)<;>(try simp -dsimp only[go_sem,seval,hgh])
   ·rw[hK,h];simp
   ·have e1:ofThread p (-1) a.cell=true:=by assumption
    refine csplit (fun h=> ?_) (fun h=> ?_)<;>(try rw[h])<;>(try simp only[zab]at h)<;>(try simp -dsimp only[go_sem,seval,hvis,hsl,hd1,t1,t2,t3,hle,Int.le_refl,hta])
    ·rw[hK,o2,h];simp
    ·rw[o2,e0,e1,h]at hK;simp only[Bool.not_false,Bool.and_true,Bool.true_and]at hK;rw[hK];have hpt:T.ip [.sl (p.cells.map Cell.enc),.sl (p.modules.map Contract.enc),.sl (p.locks.map Lock.enc),.sl (p.threads.map Thread.enc)]=zaF p:=rfl;simp -dsimp only[go_sem,seval,hpt,hta]
theorem zlb:Den Γ G 135 []=some (.agg [.t .nilf,.t (.fn 147 [] []),.t (.fn 148 [] []),.t (.fn 149 [] []),.t (.fn 150 [] []),.t (.fn 151 [] []),.t (.fn 152 [] []),.t (.fn 153 [] [])]):=by
 (refine den_ofY Γ135 rfl ?_;dsimp only[f135])
 simp -dsimp only[go_sem,seval]
set_option maxHeartbeats 4000000 in
theorem zj9 (p:Prog) (t:Int) (x:Thread) (hxp: -2^48<x.points/\x.points<2^48) (s:Step) (hlen:s.set.length<2^48):
 Den Γ G 105 [(.agg [.t (.sl ((p).cells.map (Cell.enc))),.t (.sl ((p).modules.map (Contract.enc))),.t (.sl ((p).locks.map (Lock.enc))),.t (.sl ((p).threads.map (Thread.enc)))]),vi t,(.agg [.t (.str (x).name),.t (ti (x).points),.t (.sl ((x).asserts.map Expr.enc)),.t (ints (x).modules),.t (.sl ((x).steps.map Step.enc)),.t (.sl ((x).loops.map Loop.enc)),.t (tb (x).asleep)]),(.agg [.t (ti (s).kind),.t (ti (s).fr),.t (ti (s).to),.t (ti ((s).guard).op),.t (ti ((s).guard).w),.t (ti ((s).guard).n),.t (.sl (((s).guard).kids.map Expr.enc)),.t (.sl ((s).set.map Assign.enc)),.t (tb (s).release),.t (ti (s).target),.t (ti (s).module)])]=some (vi (stepErr p t x.points s)):=by
 (refine den_ofY Γ105 rfl ?_;dsimp only[zrV])
 have hw1:IntKind.i64.wrap (x.points-1)=x.points-1:=zan (by omega);have hi1:=zaL s.fr (x.points-1);have hi2:=zaL s.to x.points;have hi3:=zaL s.module p.modules.length;have hv:=zcN s.guard p.cells false;simp -dsimp only[go_sem,seval]
 by_cases hbad:zbl p x.points s=true
 ·rw[stepErr,if_pos hbad]
  repeat'(refine csplit (fun h=> ?_) (fun h=> ?_)<;>(try rw[h])<;>(try simp only[zab]at h)<;>(try simp -dsimp only[go_sem,seval,hw1,hi1,hi2,hi3]))
  all_goals(exfalso;simp only[zbl,Bool.or_eq_true,zF,Bool.not_eq_true',decide_eq_true_eq]at hbad;simp_all;try omega)
 ·have hse:stepErr p t x.points s=if !s.guard.valid p.cells false||decide (s.guard.w≠1)then 60 else if ¬(feGo (setErr p s.set) 0 s.set).1=0 then(feGo (setErr p s.set) 0 s.set).1 else if kindOk p t s then 0 else 70:=by rw[stepErr,if_neg hbad]
  have hb':zbl p x.points s=false:=by simpa using hbad
  simp only[zbl,Bool.or_eq_false_iff,Bool.and_eq_false_iff,Bool.not_eq_false',decide_eq_false_iff_not]at hb';obtain⟨⟨⟨⟨⟨⟨b1,b2⟩,b3⟩,b4⟩,b5⟩,b6⟩,b7⟩:=hb';rw[b3]at hi1;rw[b4]at hi2;rw[b5]at hi3
  have hcs: ∀Q:Prop,(∀(c3 c6 c7 r tz:Bool),decide (s.kind=6)=c6->decide (s.kind=7)=c7->decide (s.kind=3)=c3->s.release=r->decide (s.target=0)=tz->
   ((c6=true/\r=false)\/(c6=false/\c7=true/\r=false)\/(c6=false/\c7=false/\tz=true/\r=false)\/(c6=false/\c7=false/\tz=true/\r=true/\c3=true))->Q)->Q:=fun Q q=>by
   refine q _ _ _ _ _ rfl rfl rfl rfl rfl ?_;simp only[decide_eq_true_eq,decide_eq_false_iff_not]
   by_cases h6:s.kind=6<;>by_cases h7:s.kind=7<;>by_cases h3:s.kind=3<;>cases hr:s.release<;>by_cases hz:s.target=0<;>simp_all
  refine hcs _ (fun c3 c6 c7 r tz e6 e7 e3 er ez hc=> ?_);have hmid:s.guard.valid p.cells false=true->s.guard.w=1->stepErr p t x.points s=if ¬(feGo (setErr p s.set) 0 s.set).1=0 then(feGo (setErr p s.set) 0 s.set).1 else if kindOk p t s then 0 else 70:=fun g1 g2=>by rw[hse,if_neg (by simp[g1,g2])]
  have hg60:(s.guard.valid p.cells false=false\/ ¬s.guard.w=1)->stepErr p t x.points s=60:=fun g=>by rw[hse,if_pos (by rcases g with g | g<;>simp[g])]
  have b1':1<=s.kind/\s.kind<=7:=by omega
  have e3':(decide ¬s.kind=3)= !c3:=by rw[<- e3];simp
  have ez':(decide ¬s.target=0)= !tz:=by rw[<- ez];simp
  rcases hc with⟨rfl,rfl⟩ | ⟨rfl,rfl,rfl⟩ | ⟨rfl,rfl,rfl,rfl⟩ | ⟨rfl,rfl,rfl,rfl,rfl⟩
  all_goals(try cases tz)
  all_goals(try cases c3)
  all_goals(try(exfalso;simp only[decide_eq_true_eq]at e3 e6 e7;omega))
  all_goals(
   (try simp only[Bool.not_true,Bool.not_false]at e3' ez')
   simp -dsimp only[go_sem,seval,hw1,hi1,hi2,hi3,b1,b2,e6,e7,e3',ez',er,hv]
   repeat'(refine csplit (fun h=> ?_) (fun h=> ?_)<;>(try rw[h])<;>(try simp only[zab]at h)<;>(try simp -dsimp only[go_sem,seval,hv])))
  all_goals(try(rw[hg60 (.inl ‹_›)];done))
  all_goals(try(rw[hg60 (.inr ‹_›)];done))
  all_goals(
   have hgv:s.guard.valid p.cells false=true:=by assumption
   have hgw:s.guard.w=1:=by assumption
   have hmid:=hmid hgv hgw;clear hcs hg60 hse hv hi1 hi2 hi3 e3' ez' er e3 e6;refine zaj 2722258935367498036300439942420748071168 s.set.length (fun i f h y=>(f 83).v=vi i/\h 74=some (.map (setI ((s.set.take i).map Assign.cell)))/\feGo (setErr p s.set) 0 s.set=feGo (setErr p s.set) i (s.set.drop i)) rfl ⟨by simp -dsimp only[go_sem,seval],by simp -dsimp only[go_sem,seval];rfl,rfl⟩ ?_;rintro i f u hh y bs hi ⟨h83,hmap,hm⟩;have hw:=zah i (by omega);simp -dsimp only[go_sem,seval,h83];refine csplit (fun h=> ?_) (fun h=> ?_)<;>(try rw[h])<;>(try simp only[zab]at h)<;>(try simp -dsimp only[go_sem,seval,h83])
   ·obtain⟨a,ha,ham⟩:=zaf ‹i<s.set.length›;have hi1:=zaL a.cell p.cells.length
    have hstop: ∀k:Int,k≠0->setErr p s.set i a=k->stepErr p t x.points s=k:=fun k hk h0=>by
     have h2:=hm.trans (fe_stop ha (by rw[h0];exact hk));rw[hmid,h2,h0,if_pos hk]
    have hany:((s.set.take i).map Assign.cell).any (fun d=>decide (d=a.cell))=(s.set.take i).any (fun d=>decide (d.cell=a.cell)):=by rw[List.any_map];rfl
    have hfi:=zoR a.cell ((s.set.take i).map Assign.cell);rw[hany]at hfi;cases hc:(s.set.take i).any (fun d=>decide (d.cell=a.cell))
    ·rw[hc]at hfi hany;have hpu:=zsC a.cell _ hany;simp -dsimp only[go_sem,seval,h83,ha,hmap,hfi,Option.getD_none,Option.getD_some,Option.isSome_none,zG,if_true,if_false,hi1];cases hir:inR a.cell p.cells.length
     ·simp -dsimp only[go_sem,seval,h83];rw[hstop 70 (by decide) (by simp[setErr,hir])]
     ·obtain⟨d0,z,hz⟩:=zaV hir;have hv2:=zcN a.to p.cells false;have hci:=zaH (g:=fun x=>decide (a.to.w=x.w)) hz
      have hsx:setErr p s.set i a=if !a.to.valid p.cells false || !zaJ p a.cell (fun x=>decide (a.to.w=x.w))then 60 else 0:=by
       rw[setErr,if_neg (by rw[hir,hc];simp)]
      rw[hci]at hsx;simp -dsimp only[go_sem,seval,h83,hmap,hpu,d0,hz];refine csplit (fun h=> ?_) (fun h=> ?_)<;>(try rw[h])<;>(try simp only[zab]at h)<;>(try simp -dsimp only[go_sem,seval,h83,hv2])
      ·rw[hstop 60 (by decide) (by rw[hsx];simp[h])]
      ·have hvt:a.to.w=z.w:=by assumption
       refine csplit (fun h=> ?_) (fun h=> ?_)<;>(try rw[h])<;>(try simp only[zab]at h)<;>(try simp -dsimp only[go_sem,seval,h83])
       ·rw[hstop 60 (by decide) (by rw[hsx];simp[h])]
       ·refine⟨by omega,by simp -dsimp only[go_sem,seval,hw],?_,?_⟩
        ·simp -dsimp only[go_sem,seval];rw[zae ha];simp
        ·rw[hm,zbh ha (by rw[hsx];simp[h,hvt])]
    ·rw[hc]at hfi;simp -dsimp only[go_sem,seval,h83,ha,hmap,hfi,Option.getD_none,Option.getD_some,Option.isSome_none,zG,if_true,if_false];rw[hstop 70 (by decide) (by rw[setErr,if_pos (by rw[hc];simp)])]
   ·have:i=s.set.length:=by omega
    subst this;rw[zbQ]at hm;rw[hm,if_neg (by simp)]at hmid;have hr:zgw p s:=⟨hgv,zcw (i:=0) (set:=s.set) (by rw[hm])⟩
    have hkk:=zlb;have f1:=zgm p t s hlen;have f2:=zhe p t s hlen hr;have f3:=zgk p t s hlen hr;have f4:=zfg p t s hlen;have f5:=zgn p t s;have f6:=zgl p t s;have f7:=zd4 p t s;have hks:s.kind=1\/s.kind=2\/s.kind=3\/s.kind=4\/s.kind=5\/s.kind=6\/s.kind=7:=by omega
    rw[hmid];clear hmid hm hmap;rcases hks with k | k | k | k | k | k | k
    all_goals(try(exfalso;simp only[decide_eq_false_iff_not]at e7;omega))
    all_goals(
     simp only[k]at f1 f2 f3 f4 f5 f6 f7;simp -dsimp only[go_sem,seval,hkk,k,f1,f2,f3,f4,f5,f6,f7];refine csplit (fun h=> ?_) (fun h=> ?_)<;>(try rw[h])<;>(try simp only[zab]at h)<;>(try simp -dsimp only[go_sem,seval])
     all_goals(simp[kindOk,k,h])))
end Rg
end
