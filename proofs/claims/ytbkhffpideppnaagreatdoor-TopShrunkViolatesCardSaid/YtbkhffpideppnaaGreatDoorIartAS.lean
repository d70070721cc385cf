/- Part of the proof of laws of relyguardtop. No condition. -/
import Derived.Test.YtbkhffpideppnaaGreatDoorIartAN
import Derived.Test.YtbkhffpideppnaaGreatDoorIartAM
import Derived.Test.YtbkhffpideppnaaGreatDoorIartAR
set_option linter.unusedSimpArgs false
set_option linter.unusedVariables false
section
namespace Rg
open Go
def zGD (e:Expr):Bool:=decide ((e.size:Int)<=40)
def smA (a:Assign):Bool:=zGD a.to
def smS (s:Step):Bool:=decide ((s.set.length:Int)<=4)&&zGD s.guard&&s.set.all smA
def smL (l:Loop):Bool:=decide ((l.body.length:Int)<=8)&&zGD l.variant
def smT (x:Thread):Bool:=(decide (x.points<=8)&&decide ((x.asserts.length:Int)<=8)&&decide ((x.modules.length:Int)<=8)&&decide ((x.steps.length:Int)<=10)&&decide ((x.loops.length:Int)<=3))&&x.asserts.all zGD&&x.loops.all smL&&x.steps.all smS
theorem zHS (x:Thread):Den Γ G 451 [(zT x)]=some (vb (smT x)):=by
 have A3:(decide (x.points<=8)&&decide ((x.asserts.length:Int)<=8)&&decide ((x.modules.length:Int)<=8)&&decide ((x.steps.length:Int)<=10)&&decide ((x.loops.length:Int)<=3))=false->smT x=false:=fun h=>by rw[smT,h];rfl
 (refine zag Γ451 rfl ?_;dsimp only[zIH])
 simp -dsimp -implicitDefEqProofs only[go_sem,seval]
 by_cases h1:x.points>8
 ·simp -dsimp -implicitDefEqProofs only[go_sem,seval,h1];exact(A3 (by simp[show ¬x.points<=8 by omega])).symm
 by_cases h2:(x.asserts.length:Int)>8
 ·simp -dsimp -implicitDefEqProofs only[go_sem,seval,h1,h2];exact(A3 (by simp[show ¬(x.asserts.length:Int)<=8 by omega])).symm
 by_cases h3:(x.modules.length:Int)>8
 ·simp -dsimp -implicitDefEqProofs only[go_sem,seval,h1,h2,h3];exact(A3 (by simp[show ¬(x.modules.length:Int)<=8 by omega])).symm
 by_cases h4:(x.steps.length:Int)>10
 ·simp -dsimp -implicitDefEqProofs only[go_sem,seval,h1,h2,h3,h4];exact(A3 (by simp[show ¬(x.steps.length:Int)<=10 by omega])).symm
 by_cases h5:(x.loops.length:Int)>3
 ·simp -dsimp -implicitDefEqProofs only[go_sem,seval,h1,h2,h3,h4,h5];exact(A3 (by simp[show ¬(x.loops.length:Int)<=3 by omega])).symm
 have hT:smT x=(x.asserts.all zGD&&x.loops.all smL&&x.steps.all smS):=by
  rw[smT];simp only[decide_eq_true (show x.points<=8 by omega),decide_eq_true (show(x.asserts.length:Int)<=8 by omega),decide_eq_true (show(x.modules.length:Int)<=8 by omega),decide_eq_true (show(x.steps.length:Int)<=10 by omega),decide_eq_true (show(x.loops.length:Int)<=3 by omega),Bool.true_and]
 simp -dsimp -implicitDefEqProofs only[go_sem,seval,h1,h2,h3,h4,h5];refine zaT 4503462188417052 x.asserts.length (fun i f=>(f 3).v=vi i/\x.asserts.all zGD=(x.asserts.drop i).all zGD) rfl rfl ⟨by simp -dsimp -implicitDefEqProofs only[go_sem,seval],rfl⟩ ?_;rintro i f u kk bb hi ⟨g3,Aa⟩;have hw:=zan i (by omega);simp -dsimp -implicitDefEqProofs only[go_sem,seval,g3];refine zac (fun h=> ?_) (fun h=> ?_)<;>(try rw[h])<;>(try simp only[zah]at h)<;>(try simp -dsimp -implicitDefEqProofs only[go_sem,seval,g3])
 ·obtain⟨e,he,_⟩:=zai ‹i<x.asserts.length›;have hg:=zdX e 40 (by omega);simp -dsimp -implicitDefEqProofs only[go_sem,seval,g3,he,hg];refine zac (fun h=> ?_) (fun h=> ?_)<;>(try rw[h])<;>(try simp only[zah]at h)<;>(try simp -dsimp -implicitDefEqProofs only[go_sem,seval,g3])
  ·rw[hT,Aa,za6 he (by simp[zGD];omega)];rfl
  ·refine⟨by omega,by simp -dsimp -implicitDefEqProofs only[go_sem,seval,hw],?_⟩;rw[Aa,za7 he (by simp[zGD];omega)]
 ·have:i=x.asserts.length:=by omega
  subst this;rw[zbB]at Aa;clear g3 hw;refine zaT 151115722948229019467812 x.loops.length (fun i f=>(f 5).v=vi i/\x.loops.all smL=(x.loops.drop i).all smL) rfl rfl ⟨by simp -dsimp -implicitDefEqProofs only[go_sem,seval],rfl⟩ ?_;rintro i f u kk bb hi ⟨g5,Ci⟩;have hw:=zan i (by omega);simp -dsimp -implicitDefEqProofs only[go_sem,seval,g5];refine zac (fun h=> ?_) (fun h=> ?_)<;>(try rw[h])<;>(try simp only[zah]at h)<;>(try simp -dsimp -implicitDefEqProofs only[go_sem,seval,g5])
  ·obtain⟨l,hl,_⟩:=zai ‹i<x.loops.length›;have hg:=zdX l.variant 40 (by omega);have Be:smL l=false->false=smT x:=fun h0=>by rw[hT,Aa,Ci,za6 hl h0];rfl
   simp -dsimp -implicitDefEqProofs only[go_sem,seval,g5,hl,hg];refine zac (fun h=> ?_) (fun h=> ?_)<;>(try rw[h])<;>(try simp only[zah]at h)<;>(try simp -dsimp -implicitDefEqProofs only[go_sem,seval,g5,hl,hg])
   ·exact Be (by simp[smL];omega)
   ·refine zac (fun h=> ?_) (fun h=> ?_)<;>(try rw[h])<;>(try simp only[zah]at h)<;>(try simp -dsimp -implicitDefEqProofs only[go_sem,seval,g5,hl])
    ·exact Be (by simp[smL,zGD];omega)
    ·refine⟨by omega,by simp -dsimp -implicitDefEqProofs only[go_sem,seval,hw],?_⟩;rw[Ci,za7 hl (by simp[smL,zGD];omega)]
  ·have:i=x.loops.length:=by omega
   subst this;rw[zbB]at Ci;clear g5 hw;refine zaT 41538374868127505300792141986923460 x.steps.length (fun i f=>(f 6).v=vi i/\x.steps.all smS=(x.steps.drop i).all smS) rfl rfl ⟨by simp -dsimp -implicitDefEqProofs only[go_sem,seval],rfl⟩ ?_;rintro i f u kk bb hi ⟨g6,Fw⟩;have hw:=zan i (by omega);simp -dsimp -implicitDefEqProofs only[go_sem,seval,g6];refine zac (fun h=> ?_) (fun h=> ?_)<;>(try rw[h])<;>(try simp only[zah]at h)<;>(try simp -dsimp -implicitDefEqProofs only[go_sem,seval,g6])
   ·obtain⟨s,hs,_⟩:=zai ‹i<x.steps.length›;have hg:=zdX s.guard 40 (by omega);have Be:smS s=false->false=smT x:=fun h0=>by rw[hT,Aa,Ci,Fw,za6 hs h0];rfl
    simp -dsimp -implicitDefEqProofs only[go_sem,seval,g6,hs,hg];refine zac (fun h=> ?_) (fun h=> ?_)<;>(try rw[h])<;>(try simp only[zah]at h)<;>(try simp -dsimp -implicitDefEqProofs only[go_sem,seval,g6,hs,hg])
    ·exact Be (by simp[smS];omega)
    ·refine zac (fun h=> ?_) (fun h=> ?_)<;>(try rw[h])<;>(try simp only[zah]at h)<;>(try simp -dsimp -implicitDefEqProofs only[go_sem,seval,g6,hs])
     ·exact Be (by simp[smS,zGD];omega)
     ·have BA:s.set.length<=4:=by omega
      refine zaT 41537741042978506913543222282158852 s.set.length (fun k f'=>(f' 8).v=vi k/\s.set.all smA=(s.set.drop k).all smA) rfl rfl ⟨by simp -dsimp -implicitDefEqProofs only[go_sem,seval],rfl⟩ ?_;rintro k f' u' kk' bb' hk ⟨g8,G2⟩;have Aw:=zan k (by omega);simp -dsimp -implicitDefEqProofs only[go_sem,seval,g6,g8,hs];refine zac (fun h=> ?_) (fun h=> ?_)<;>(try rw[h])<;>(try simp only[zah]at h)<;>(try simp -dsimp -implicitDefEqProofs only[go_sem,seval,g6,g8])
      ·obtain⟨a,ha,_⟩:=zai ‹k<s.set.length›;have QB:=zdX a.to 40 (by omega);simp -dsimp -implicitDefEqProofs only[go_sem,seval,g6,g8,hs,ha,QB];refine zac (fun h=> ?_) (fun h=> ?_)<;>(try rw[h])<;>(try simp only[zah]at h)<;>(try simp -dsimp -implicitDefEqProofs only[go_sem,seval,g6,g8])
       ·exact Be (by rw[smS,G2,za6 ha (by simp[smA,zGD];omega)];simp)
       ·refine⟨by omega,by simp -dsimp -implicitDefEqProofs only[go_sem,seval,Aw],?_⟩;rw[G2,za7 ha (by simp[smA,zGD];omega)]
      ·have:k=s.set.length:=by omega
       subst this;rw[zbB]at G2;refine⟨by omega,by simp -dsimp -implicitDefEqProofs only[go_sem,seval,hw],?_⟩;rw[Fw,za7 hs (by rw[smS,G2];simp[zGD];omega)]
   ·have:i=x.steps.length:=by omega
    subst this;rw[zbB]at Fw;rw[hT,Aa,Ci,Fw];rfl
def smM (m:Contract):Bool:=decide ((m.frame.length:Int)<=12)&&zGD m.rely&&zGD m.guar
def smK (l:Lock):Bool:=zGD l.inv
def zH8 (p:Prog):Bool:=(decide ((p.cells.length:Int)<=12)&&decide ((p.modules.length:Int)<=3)&&decide ((p.locks.length:Int)<=2)&&decide ((p.threads.length:Int)<=3))&&p.modules.all smM&&p.locks.all smK&&p.threads.all smT&&decide ((zbM p).1=0)
theorem zGX (p:Prog) (hs:p.sane):Den Γ G 443 [(zP p)]=some (vb (zH8 p)):=by
 have A3:(decide ((p.cells.length:Int)<=12)&&decide ((p.modules.length:Int)<=3)&&decide ((p.locks.length:Int)<=2)&&decide ((p.threads.length:Int)<=3))=false->zH8 p=false:=fun h=>by rw[zH8,h];rfl
 have BP:=zhk p hs
 (refine zag Γ443 rfl ?_;dsimp only[zIN])
 simp -dsimp -implicitDefEqProofs only[go_sem,seval]
 by_cases h1:(p.cells.length:Int)>12
 ·simp -dsimp -implicitDefEqProofs only[go_sem,seval,h1];exact(A3 (by simp[show ¬(p.cells.length:Int)<=12 by omega])).symm
 by_cases h2:(p.modules.length:Int)>3
 ·simp -dsimp -implicitDefEqProofs only[go_sem,seval,h1,h2];exact(A3 (by simp[show ¬(p.modules.length:Int)<=3 by omega])).symm
 by_cases h3:(p.locks.length:Int)>2
 ·simp -dsimp -implicitDefEqProofs only[go_sem,seval,h1,h2,h3];exact(A3 (by simp[show ¬(p.locks.length:Int)<=2 by omega])).symm
 by_cases h4:(p.threads.length:Int)>3
 ·simp -dsimp -implicitDefEqProofs only[go_sem,seval,h1,h2,h3,h4];exact(A3 (by simp[show ¬(p.threads.length:Int)<=3 by omega])).symm
 have hT:zH8 p=(p.modules.all smM&&p.locks.all smK&&p.threads.all smT&&decide ((zbM p).1=0)):=by
  rw[zH8];simp only[decide_eq_true (show(p.cells.length:Int)<=12 by omega),decide_eq_true (show(p.modules.length:Int)<=3 by omega),decide_eq_true (show(p.locks.length:Int)<=2 by omega),decide_eq_true (show(p.threads.length:Int)<=3 by omega),Bool.true_and]
 simp -dsimp -implicitDefEqProofs only[go_sem,seval,h1,h2,h3,h4];refine zaT 4611686001247518748 p.modules.length (fun i f=>(f 3).v=vi i/\p.modules.all smM=(p.modules.drop i).all smM) rfl rfl ⟨by simp -dsimp -implicitDefEqProofs only[go_sem,seval],rfl⟩ ?_;rintro i f u kk bb hi ⟨g3,Aa⟩;have hw:=zan i (by omega);simp -dsimp -implicitDefEqProofs only[go_sem,seval,g3];refine zac (fun h=> ?_) (fun h=> ?_)<;>(try rw[h])<;>(try simp only[zah]at h)<;>(try simp -dsimp -implicitDefEqProofs only[go_sem,seval,g3])
 ·obtain⟨m,hm,_⟩:=zai ‹i<p.modules.length›;have L9:=zdX m.rely 40 (by omega);have GS:=zdX m.guar 40 (by omega);have Be:smM m=false->false=zH8 p:=fun h0=>by rw[hT,Aa,za6 hm h0];rfl
  simp -dsimp -implicitDefEqProofs only[go_sem,seval,g3,hm];refine zac (fun h=> ?_) (fun h=> ?_)<;>(try rw[h])<;>(try simp only[zah]at h)<;>(try simp -dsimp -implicitDefEqProofs only[go_sem,seval,g3,hm,L9])
  ·exact Be (by simp[smM];omega)
  ·refine zac (fun h=> ?_) (fun h=> ?_)<;>(try rw[h])<;>(try simp only[zah]at h)<;>(try simp -dsimp -implicitDefEqProofs only[go_sem,seval,g3,hm,L9,GS])
   ·exact Be (by simp[smM,zGD];omega)
   ·refine zac (fun h=> ?_) (fun h=> ?_)<;>(try rw[h])<;>(try simp only[zah]at h)<;>(try simp -dsimp -implicitDefEqProofs only[go_sem,seval,g3,hm,GS])
    ·exact Be (by simp[smM,zGD];omega)
    ·refine⟨by omega,by simp -dsimp -implicitDefEqProofs only[go_sem,seval,hw],?_⟩;rw[Aa,za7 hm (by simp[smM,zGD];omega)]
 ·have:i=p.modules.length:=by omega
  subst this;rw[zbB]at Aa;clear g3 hw;refine zaT 302226843217638866288740 p.locks.length (fun i f=>(f 5).v=vi i/\p.locks.all smK=(p.locks.drop i).all smK) rfl rfl ⟨by simp -dsimp -implicitDefEqProofs only[go_sem,seval],rfl⟩ ?_;rintro i f u kk bb hi ⟨g5,Ci⟩;have hw:=zan i (by omega);simp -dsimp -implicitDefEqProofs only[go_sem,seval,g5];refine zac (fun h=> ?_) (fun h=> ?_)<;>(try rw[h])<;>(try simp only[zah]at h)<;>(try simp -dsimp -implicitDefEqProofs only[go_sem,seval,g5])
  ·obtain⟨l,hl,_⟩:=zai ‹i<p.locks.length›;have hg:=zdX l.inv 40 (by omega);simp -dsimp -implicitDefEqProofs only[go_sem,seval,g5,hl,hg];refine zac (fun h=> ?_) (fun h=> ?_)<;>(try rw[h])<;>(try simp only[zah]at h)<;>(try simp -dsimp -implicitDefEqProofs only[go_sem,seval,g5])
   ·rw[hT,Aa,Ci,za6 hl (by simp[smK,zGD];omega)];rfl
   ·refine⟨by omega,by simp -dsimp -implicitDefEqProofs only[go_sem,seval,hw],?_⟩;rw[Ci,za7 hl (by simp[smK,zGD];omega)]
  ·have:i=p.locks.length:=by omega
   subst this;rw[zbB]at Ci;clear g5 hw;refine zaT 9903218082828138541899317636 p.threads.length (fun i f=>(f 7).v=vi i/\p.threads.all smT=(p.threads.drop i).all smT) rfl rfl ⟨by simp -dsimp -implicitDefEqProofs only[go_sem,seval],rfl⟩ ?_;rintro i f u kk bb hi ⟨g7,Fw⟩;have hw:=zan i (by omega);simp -dsimp -implicitDefEqProofs only[go_sem,seval,g7];refine zac (fun h=> ?_) (fun h=> ?_)<;>(try rw[h])<;>(try simp only[zah]at h)<;>(try simp -dsimp -implicitDefEqProofs only[go_sem,seval,g7])
   ·obtain⟨x,hx,_⟩:=zai ‹i<p.threads.length›;have hg:=zHS x;simp -dsimp -implicitDefEqProofs only[go_sem,seval,g7,hx,hg];refine zac (fun h=> ?_) (fun h=> ?_)<;>(try rw[h])<;>(try simp only[zah]at h)<;>(try simp -dsimp -implicitDefEqProofs only[go_sem,seval,g7])
    ·rw[hT,Aa,Ci,Fw,za6 hx (by simpa using‹_›)];rfl
    ·refine⟨by omega,by simp -dsimp -implicitDefEqProofs only[go_sem,seval,hw],?_⟩;rw[Fw,za7 hx (by simpa using‹_›)]
   ·have:i=p.threads.length:=by omega
    subst this;rw[zbB]at Fw;simp -dsimp -implicitDefEqProofs only[go_sem,seval,BP];rw[hT,Aa,Ci,Fw];rfl
end Rg
end
section
namespace Rg
open Go
theorem zM4:zH7:=by
 intro l hl;refine zs3 Γ459 rfl rfl ?_;show(if _ then _ else _)=_;rw[if_pos (by rw[zxe];omega)];simp only[zxf];rfl
theorem zL8 (run:List Choice) (hr: ∀x∈run,zGI x=true) (hl:run.length<=120):Den Γ G 448 [.t (.str (bs (zGn run)))]=some (.tup [.t (.sl (run.map Choice.enc)),vi 0]):=by
 cases run with
 | nil=>exact zHl
 | cons x r=>exact zHE zM4 _ hr hl (by simp)
theorem zL0 {p:Prog} (hf:zak p=true) {k:Int} {X:List Choice} {v:Viol} (G:GoodX p k X v): ∀x∈X,zGI x=true:=by
 intro x hx;obtain⟨n,hn,e⟩:=List.getElem_of_mem hx;have hl:=G.len;obtain⟨d,hd,_⟩:=zai (show n<(zGm p k (zcm p) X).1.length by simp[zKk]at hl;omega);obtain⟨b,y,h1,h2,h3,h4,h5⟩:=zK5 hf X _ (zfq hf k) n d hd;rw[zI hn,e]at h2;cases h2;exact zG6 hf h3 h4
set_option maxRecDepth 100000
set_option maxHeartbeats 4000000 in
theorem zLq (p:Prog) (hs:p.sane) (m:Int) (hm:0<=m/\m<256) (run:List Choice) (Bb:run.length<2^48):
 Den Γ G 469 [(zP p),.t (.int .u8 m),.t (.sl (run.map Choice.enc))]=some (vb true):=by
 have h1:=zMo;have h2:=zGX p hs;have SD:(run.map Choice.enc).length=run.length:=by simp
 have h4:=zhk p hs
 (refine zag Γ469 rfl ?_;dsimp only[zNA])
 cases F3:zH8 p
 ·rw[F3]at h2;simp -dsimp -implicitDefEqProofs only[go_sem,seval,h1,h2]
  done
 rw[F3]at h2
 by_cases IL:(run.length:Int)>24
 ·simp -dsimp -implicitDefEqProofs only[go_sem,seval,h1,h2,SD,IL]
  done
 have h0:(zbM p).1=0:=by
  rw[zH8]at F3;simp only[zF,decide_eq_true_eq]at F3;exact F3.2
 have hf:zak p=true:=by simpa[zak]using h0
 have EI:(IntKind.i64.wrap m).tmod 3=m % 3:=by rw[zaH (by omega),Int.tmod_eq_emod_of_nonneg hm.1]
 have hk:0<=m % 3/\m % 3<=2:=by omega
 generalize m % 3=k at EI hk
 obtain⟨s1,s2⟩:=zLg p hs hf k hk run (by omega)
 cases hL:zKm p k run with
 | nil=>
   have h5:=s1 hL;have h6:=zKT p hs hf k hk run (by omega);rw[hL]at h6;simp -dsimp -implicitDefEqProofs only[go_sem,seval,h1,h2,SD,IL,h4,h0,EI,h5,h6,zKl]
   done
 | cons v0 L0=>
   obtain⟨X,v,hG,Ti,-,-,h5⟩:=s2 v0 L0 hL (fun _=>True) trivial (fun _ _ _ _ _ _ _ _ _=>trivial);have TD:X.length<=24:=by omega
   have T5:(X.map Choice.enc).length=X.length:=by simp
   have hT:=zGO X (zL0 hf hG) (by omega);have hP:=zL8 X (zL0 hf hG) (by omega);have hR:=zLo p hs hf k hk X (by omega);rw[hG.ok]at hR;simp only[if_true]at hR;have hF:=zK9 p hs hf k hk X (by omega);obtain⟨L,hw⟩:=hG.hd;rw[hG.ok,if_pos rfl,hw,zL2]at hF;have hS:=zGY X (by omega);obtain⟨c,hc,hB,hV⟩:=zNE hs hf hG;have T3:=zLK p hs hf X (by omega) (zKk p k X) hG.len hc hB hV;have Mv:((zKk p k X).map Config.enc).length=X.length+1:=by rw[List.length_map,hG.len]
   have w1:IntKind.i64.wrap ((X.length:Int)+1)=((X.length+1:Nat):Int):=zan X.length (by omega);have w2:IntKind.i64.wrap ((X.length:Int)-1)=(X.length:Int)-1:=zaH (by omega);have Bj:=hG.at_;simp only[Viol.enc,List.map_cons,List.map_nil]at hF T3;rw[Bj]at hF T3;simp -dsimp -implicitDefEqProofs only[go_sem,seval,h1,h2,SD,IL,h4,h0,EI,h5,hT,hP,hR,hF,hS,T3,Mv,T5,w1,w2];have Aa:((X.map Choice.enc).all fun r=>decide (r.length=3))=true:=by simp[Choice.enc]
   refine zaT 182676554293763599463889836230399053276473458752 X.length (fun i f=>(f 143).v=vi i) rfl rfl (by simp -dsimp -implicitDefEqProofs only[go_sem,seval]) ?_;rintro i f u kk bb hi g143;have hw:=zan i (by omega)
   by_cases AV:i<X.length
   ·have DB:=eq_true AV;have Rl:=zK9 p hs hf k hk (X.take i) (by rw[List.length_take];omega);rw[hG.no i AV,ite_self,zL2]at Rl;have ht:List.take ((i:Int)-0).toNat (X.map Choice.enc)=(X.take i).map Choice.enc:=by rw[show((i:Int)-0).toNat=i by omega];exact List.map_take.symm
    have A5:((i:Int)<=(X.length:Int))=True:=eq_true (by omega);simp -dsimp -implicitDefEqProofs only[go_sem,seval,g143,DB,T5,Aa,A5,ht,Rl];exact⟨AV,by simp -dsimp -implicitDefEqProofs only[go_sem,seval,hw]⟩
   ·have DB:=eq_false AV;simp -dsimp -implicitDefEqProofs only[go_sem,seval,g143,DB]
end Rg
end
