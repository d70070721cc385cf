/- Part of the proof of laws of relyguardtop. No condition. -/
import Derived.Test.YtoidcnbdndioaaaGreatDoorKartAL
set_option linter.unusedSimpArgs false
set_option linter.unusedVariables false
section
-- FULL
namespace Rg
open Go
set_option maxHeartbeats 4000000 in
theorem znD (p:Prog) (hs:p.sane) (By:zce p=0) (t:Nat) (x:Thread) (hx:p.threads[t]? =some x) (K7:x.points<2^48):
 Den Γ G 88 [(zP p),vi t]=some (.tup [vi (zap p t x).1,vi (zap p t x).2]):=by
 (refine zag Γ88 rfl ?_;dsimp only[f88])
 have Ez:=zfL By;have C1:=zL hx;obtain⟨s1,s2,s3,s4,s5⟩:=hs.thr x C1;have hl:=zf1 x.name s1;have Mo:(0:Int)<=(t:Int):=by omega
 have Dd:t<p.threads.length:=(zH.1 hx).1;have BL:=hs.threads;have Dc:p.threads[(t:Int).toNat]? =some x:=by simpa using hx
 simp -dsimp [go_sem,Mo,hx,hl];refine zac (fun h=> ?_) (fun h=> ?_)<;>(try rw[h])<;>(try simp only[zah]at h)<;>(try simp -dsimp [go_sem])
 ·have:zap p t x=(1,-1):=by rw[zap,if_pos (by simp[h])]
  rw[this];simp
 ·have e1:zbA x.name=true:=by assumption
  refine zaT 274861129904 t (fun k f=>(f 7).v=vi k/\(p.threads.take k).any (fun d=>d.name.toList==x.name.toList)=false) rfl rfl ⟨by simp -dsimp [go_sem],by simp⟩ ?_;rintro k f u kk bb hk ⟨h7,A9⟩;have hw:=zan k (by omega);simp -dsimp [go_sem,h7];refine zac (fun h=> ?_) (fun h=> ?_)<;>(try rw[h])<;>(try simp only[zah]at h)<;>(try simp -dsimp [go_sem,h7])
  ·obtain⟨d,hd,JP⟩:=zai (show k<p.threads.length by omega);simp -dsimp [go_sem,h7,hd];refine zac (fun h=> ?_) (fun h=> ?_)<;>(try rw[h])<;>(try simp only[zah]at h)<;>(try simp -dsimp [go_sem,h7])
   ·have:zap p t x=(41,-1):=by rw[zap,if_neg (by simp[e1]),if_pos (zcx hd ‹k<t› (by simpa using h))]
    rw[this];simp
   ·refine⟨by omega,by simp -dsimp [go_sem,hw],?_⟩;rw[zda hd,A9];simpa using h
  ·have:k=t:=by omega
   subst this
   by_cases Fg:x.points<1\/ ¬(x.asserts.length:Int)=x.points\/ ¬(x.modules.length:Int)=x.points
   ·have:zap p k x=(1,-1):=by rw[zap,if_neg (by simp[e1]),if_neg (by simp[A9]),if_pos Fg]
    rw[this]
    repeat'(refine zac (fun h=> ?_) (fun h=> ?_)<;>(try rw[h])<;>(try simp only[zah]at h)<;>(try simp -dsimp [go_sem]))
    all_goals(exfalso;omega)
   ·have g1: ¬x.points<1:=by omega
    have g2:(x.asserts.length:Int)=x.points:=by omega
    have g3:(x.modules.length:Int)=x.points:=by omega
    have BG:zap p k x=if !x.modules.all (fun m=>inR m p.modules.length)then(1,-1)
     else if !x.asserts.all (fun e=>zaR p e false k)then(60,-1)
     else if ¬(zco (fun _ s=>zaS p k x.points s) 0 x.steps).1=0 then zco (fun _ s=>zaS p k x.points s) 0 x.steps
     else((zco (fun _ l=>zbp p k x.points l) 0 x.loops).1,-1):=by
     rw[zap,if_neg (by simp[e1]),if_neg (by simp[A9]),if_neg Fg]
    have g2':decide (¬(x.asserts.length:Int)=x.points)=false:=by simp[g2]
    have g3':decide (¬(x.modules.length:Int)=x.points)=false:=by simp[g3]
    simp -dsimp [go_sem,g1,g2',g3'];refine zaT 18889321816290504999216 x.modules.length (fun i f=>(f 8).v=vi i/\x.modules.all (fun m=>inR m p.modules.length)=(x.modules.drop i).all (fun m=>inR m p.modules.length)) rfl rfl ⟨by simp -dsimp [go_sem],rfl⟩ ?_;rintro i f u kk bb hi ⟨h8,Aa⟩;have hw:=zan i (by omega);simp -dsimp [go_sem,h8];refine zac (fun h=> ?_) (fun h=> ?_)<;>(try rw[h])<;>(try simp only[zah]at h)<;>(try simp -dsimp [go_sem,h8])
    ·obtain⟨m,hm,_⟩:=zai ‹i<x.modules.length›;have Aj:=zej m p.modules.length;simp -dsimp [go_sem,h8,hm,Aj];refine zac (fun h=> ?_) (fun h=> ?_)<;>(try rw[h])<;>(try simp only[zah]at h)<;>(try simp -dsimp [go_sem,h8])
     ·have:zap p k x=(1,-1):=by rw[BG,Aa,za6 hm h];simp
      rw[this];simp
     ·refine⟨by omega,by simp -dsimp [go_sem,hw],?_⟩;rw[Aa,za7 hm h]
    ·have:i=x.modules.length:=by omega
     subst this;rw[zbB]at Aa;rw[Aa]at BG;simp only[Bool.not_true,zG,if_false]at BG;clear Aa h8 hw;refine zaT 1237921149819448796318270000 x.asserts.length (fun i f=>(f 9).v=vi i/\x.asserts.all (fun e=>zaR p e false k)=(x.asserts.drop i).all (fun e=>zaR p e false k)) rfl rfl ⟨by simp -dsimp [go_sem],rfl⟩ ?_;rintro i f u kk bb hi ⟨h9,Aa⟩;have hw:=zan i (by omega);simp -dsimp [go_sem,h9];refine zac (fun h=> ?_) (fun h=> ?_)<;>(try rw[h])<;>(try simp only[zah]at h)<;>(try simp -dsimp [go_sem,h9])
     ·obtain⟨e,he,_⟩:=zai ‹i<x.asserts.length›;have FS:=zfU Ez e false k (by omega);simp -dsimp [go_sem,h9,he,FS];refine zac (fun h=> ?_) (fun h=> ?_)<;>(try rw[h])<;>(try simp only[zah]at h)<;>(try simp -dsimp [go_sem,h9])
      ·have:zap p k x=(60,-1):=by rw[BG,Aa,za6 he h];simp
       rw[this];simp
      ·refine⟨by omega,by simp -dsimp [go_sem,hw],?_⟩;rw[Aa,za7 he h]
     ·have:i=x.asserts.length:=by omega
      subst this;rw[zbB]at Aa;rw[Aa]at BG;simp only[Bool.not_true,zG,if_false]at BG;clear Aa h9 hw;refine zaT 649035869376814168186037142031408 x.steps.length (fun i f=>(f 10).v=vi i/\zco (fun _ s=>zaS p k x.points s) 0 x.steps=zco (fun _ s=>zaS p k x.points s) i (x.steps.drop i)) rfl rfl ⟨by simp -dsimp [go_sem],rfl⟩ ?_;rintro i f u kk bb hi ⟨DL,hm⟩;have hw:=zan i (by omega);simp -dsimp [go_sem,DL];refine zac (fun h=> ?_) (fun h=> ?_)<;>(try rw[h])<;>(try simp only[zah]at h)<;>(try simp -dsimp [go_sem,DL])
      ·obtain⟨s,DW,F3⟩:=zai ‹i<x.steps.length›;have AE:=zrr p Ez k Mo x Dc ⟨by omega,K7⟩ s (hs.sets x C1 s F3);simp -dsimp [go_sem,DL,DW,AE];refine zac (fun h=> ?_) (fun h=> ?_)<;>(try rw[h])<;>(try simp only[zah]at h)<;>(try simp -dsimp [go_sem,DL])
       ·have h2:=hm.trans (zcC DW (by simpa using h));have:zap p k x=(zaS p k x.points s,(i:Int)):=by rw[BG,h2,if_pos (by simpa using h)]
        rw[this];simp
       ·refine⟨by omega,by simp -dsimp [go_sem,hw],?_⟩;rw[hm,zc6 DW (by simpa using h)]
      ·have:i=x.steps.length:=by omega
       subst this;rw[zel]at hm;rw[hm,if_neg (by simp)]at BG;clear hm DL hw;refine zaT 11972621413014756705275549042294937043455087350935600 x.loops.length (fun i f=>(f 12).v=vi i/\zco (fun _ l=>zbp p k x.points l) 0 x.loops=zco (fun _ l=>zbp p k x.points l) i (x.loops.drop i)) rfl rfl ⟨by simp -dsimp [go_sem],rfl⟩ ?_;rintro i f u kk bb hi ⟨Hq,hm⟩;have hw:=zan i (by omega);simp -dsimp [go_sem,Hq];refine zac (fun h=> ?_) (fun h=> ?_)<;>(try rw[h])<;>(try simp only[zah]at h)<;>(try simp -dsimp [go_sem,Hq])
       ·obtain⟨l,Jy,Hy⟩:=zai ‹i<x.loops.length›;have D4:=hs.loops x C1 l Hy
        have Ai: ∀k':Int,k'≠0->zbp p k x.points l=k'->zap p k x=(k',-1):=fun k' Ah h0=>by
         have h2:=hm.trans (zcC (f:=fun _ l=>zbp p k x.points l) Jy (by rw[h0];exact Ah));rw[BG,h2,h0]
        have Aj:=zej l.head x.points;have RI:=zkr l.body (by omega);simp -dsimp [go_sem,Hq,Jy,Aj];refine zac (fun h=> ?_) (fun h=> ?_)<;>(try rw[h])<;>(try simp only[zah]at h)<;>(try simp -dsimp [go_sem,Hq,RI])
        ·rw[Ai 1 (by decide) (by simp[zbp,h])];simp
        ·have f1:inR l.head x.points=true:=by assumption
         refine zac (fun h=> ?_) (fun h=> ?_)<;>(try rw[h])<;>(try simp only[zah]at h)<;>(try simp -dsimp [go_sem,Hq])
         ·rw[Ai 1 (by decide) (by simp[zbp,h])];simp
         ·have f2:zc0 l.body=true:=by assumption
          refine zaT 730750807776415717631811585530154072011383521328 l.body.length (fun j f'=>(f' 14).v=vi j/\l.body.all (fun q=>inR q x.points&&decide (q≠l.head))=(l.body.drop j).all (fun q=>inR q x.points&&decide (q≠l.head))) rfl rfl ⟨by simp -dsimp [go_sem],rfl⟩ ?_;rintro j f' u' kk' bb' hj ⟨C0,Aa⟩;have Aw:=zan j (by omega);simp -dsimp [go_sem,C0];refine zac (fun h=> ?_) (fun h=> ?_)<;>(try rw[h])<;>(try simp only[zah]at h)<;>(try simp -dsimp [go_sem,C0])
          ·obtain⟨q,hq,_⟩:=zai ‹j<l.body.length›;have NN:=zej q x.points;simp -dsimp [go_sem,C0,hq,NN]
           repeat'(refine zac (fun h=> ?_) (fun h=> ?_)<;>(try rw[h])<;>(try simp only[zah]at h)<;>(try simp -dsimp [go_sem,C0,hq]))
           all_goals first
            | (rw[Ai 1 (by decide) (by rw[zbp,if_pos (by rw[Aa,za6 hq (by simp_all)];simp)])];simp;done)
            | (refine⟨by omega,by simp -dsimp [go_sem,Aw],?_⟩
               rw[Aa,za7 hq (by simp_all)])
          ·have:j=l.body.length:=by omega
           subst this;rw[zbB]at Aa
           have A5:zbp p k x.points l=if !l.variant.valid p.cells false || !zbE p l.variant true k then 60 else 0:=by
            rw[zbp,if_neg (by rw[Aa,f1,f2];simp)]
           have hv:=zfT l.variant p.cells false;cases Bs:l.variant.valid p.cells false
           ·rw[Bs]at hv;simp -dsimp [go_sem,Hq,hv];rw[Ai 60 (by decide) (by rw[A5];simp[Bs])];simp
           ·rw[Bs]at hv;have De:=zgW Ez (zfR Bs) true k (by omega) (.inl rfl);simp -dsimp [go_sem,Hq,hv,De];refine zac (fun h=> ?_) (fun h=> ?_)<;>(try rw[h])<;>(try simp only[zah]at h)<;>(try simp -dsimp [go_sem,Hq])
            ·rw[Ai 60 (by decide) (by rw[A5];simp[h])];simp
            ·refine⟨by omega,by simp -dsimp [go_sem,hw],?_⟩;rw[hm,zc6 Jy (by rw[A5];simp[h,Bs])]
       ·have:i=x.loops.length:=by omega
        subst this;rw[zel]at hm;rw[BG,hm];simp
end Rg
end
section
-- FULL
namespace Rg
open Go
theorem zal {p:Prog} (h:(zaV p).1=0):(p.cells.length<=32/\p.modules.length<=6/\p.locks.length<=4/\p.threads.length<=4)/\ ∀x∈p.threads,x.points<=48/\x.steps.length<=64/\x.loops.length<=8:=by
 unfold zaV at h;split at h
 ·simp at h
 ·rename_i hb;refine⟨by omega,?_⟩
  have key: ∀(l:List Thread) (i:Nat),(zco (fun _ x=>if zaP x then 2 else 0) i l).1=0-> ∀x∈l,zaP x=false:=by
   intro l
   induction l with
   | nil=>intro i _ c hc;simp at hc
   | cons x r ih=>
     intro i h c hc;rw[zco]at h;cases hb:zaP x
     ·rw[hb,if_pos (by simp)]at h;rcases List.mem_cons.1 hc with rfl | hc
      ·exact hb
      ·exact ih _ h c hc
     ·rw[hb,if_neg (by simp)]at h;simp at h
  intro x hx;have:=key _ 0 h x hx;simp only[zaP,Bool.or_eq_false_iff,decide_eq_false_iff_not]at this;omega
theorem zhk (p:Prog) (hs:p.sane):Den Γ G 65 [(zP p)]=some (.tup [vi (zbM p).1,vi (zbM p).2.1,vi (zbM p).2.2]):=by
 (refine zag Γ65 rfl ?_;dsimp only[f65])
 have h1:=zn3 p hs;simp -dsimp [go_sem,h1];refine zac (fun h=> ?_) (fun h=> ?_)<;>(try rw[h])<;>(try simp only[zah]at h)<;>(try simp -dsimp [go_sem])
 ·have h0: ¬(zaV p).1=0:=by simpa using h
  have:zbM p=((zaV p).1,(zaV p).2,-1):=by rw[zbM,if_pos h0]
  rw[this];simp
 ·have h0:(zaV p).1=0:=by simpa using h
  obtain⟨⟨l1,l2,l3,l4⟩,l5⟩:=zal h0
  have AX:zbM p=if ¬zce p=0 then(zce p,-1,-1)else if ¬zbm p=0 then(zbm p,-1,-1)else if ¬zcT p=0 then(zcT p,-1,-1)else zep p 0 p.threads:=by
   rw[zbM,if_neg (by simpa using h0)]
  have c1:=zqS p hs;refine zaD ?_;simp -dsimp [go_sem,c1];refine zac (fun h=> ?_) (fun h=> ?_)<;>(try rw[h])<;>(try simp only[zah]at h)<;>(try simp -dsimp [go_sem])
  ·have:zbM p=(zce p,-1,-1):=by rw[AX,if_pos (by simpa using h)]
   rw[this];simp
  ·have h2:zce p=0:=by simpa using h
   have c2:=zmP p hs h2;have c3:=zqs p hs h2;rw[if_neg (by simpa using h2)]at AX;refine zaD ?_;simp -dsimp [go_sem,c2];refine zac (fun h=> ?_) (fun h=> ?_)<;>(try rw[h])<;>(try simp only[zah]at h)<;>(try simp -dsimp [go_sem])
   ·have:zbM p=(zbm p,-1,-1):=by rw[AX,if_pos (by simpa using h)]
    rw[this];simp
   ·have h3:zbm p=0:=by simpa using h
    rw[if_neg (by simpa using h3)]at AX;refine zaD ?_;simp -dsimp [go_sem,c3];refine zac (fun h=> ?_) (fun h=> ?_)<;>(try rw[h])<;>(try simp only[zah]at h)<;>(try simp -dsimp [go_sem])
    ·have:zbM p=(zcT p,-1,-1):=by rw[AX,if_pos (by simpa using h)]
     rw[this];simp
    ·have h4:zcT p=0:=by simpa using h
     rw[if_neg (by simpa using h4)]at AX;refine zaD ?_;simp -dsimp [go_sem];refine zaT 288229276640085788 p.threads.length (fun i f=>(f 8).v=vi i/\zbM p=zep p i (p.threads.drop i)) rfl rfl ⟨by simp -dsimp [go_sem],AX⟩ ?_;rintro i f u kk bb hi ⟨h8,hm⟩;have hw:=zan i (by omega);simp -dsimp [go_sem,h8];refine zac (fun h=> ?_) (fun h=> ?_)<;>(try rw[h])<;>(try simp only[zah]at h)<;>(try simp -dsimp [go_sem,h8])
     ·obtain⟨x,hx,C1⟩:=zai ‹i<p.threads.length›;have BG:=znD p hs h2 i x hx (by have:=(l5 x C1).1;omega);simp -dsimp [go_sem,h8,BG];refine zac (fun h=> ?_) (fun h=> ?_)<;>(try rw[h])<;>(try simp only[zah]at h)<;>(try simp -dsimp [go_sem,h8])
      ·rw[hm,zoJ hx (by simpa using h)];simp
      ·refine⟨by omega,by simp -dsimp [go_sem,hw],?_⟩;rw[hm,zoK hx (by simpa using h)]
     ·have:i=p.threads.length:=by omega
      subst this;rw[hm,zrl];simp
end Rg
end
section
namespace Rg
open Go
def zjR (l:List ByteArray):List (T×V):=l.map fun b=>(T.str b,V.agg [])
def ztX (l:List Int):List (T×V):=l.map fun b=>(ti b,V.agg [])
theorem zjF (a b:ByteArray):(a==b)=(a.toList==b.toList):=by
 rw[ByteArray.toList_eq,ByteArray.toList_eq];show(a.data==b.data)=_;rw[Array.beq_toList]
@[go_sem]theorem zBI (b:ByteArray):zj1 2 (.t (.str b))=some (.str b):=rfl
@[go_sem]theorem zBJ (k:IntKind) (n:Int):zj1 0 (.t (.int k n))=some (.int k n):=rfl
theorem zyM (b:ByteArray): ∀l:List ByteArray,zbo (.str b) (zjR l)=some (if l.any (fun c=>c.toList==b.toList)then some (.agg [])else none)
 | []=>rfl
 | c::l=>by
   rw[zjR,List.map_cons,zbo,zeu,zjF];rw[show(b.toList==c.toList)=(c.toList==b.toList)from Bool.beq_comm];cases h:(c.toList==b.toList)
   ·simp only[];rw[show(l.map fun b=>(T.str b,V.agg []))=zjR l from rfl,zyM b l,List.any_cons,h,Bool.false_or]
   ·simp[h]
theorem zCE (b:ByteArray): ∀l:List ByteArray,l.any (fun c=>c.toList==b.toList)=false->zbF (.str b) (.agg []) (zjR l)=some (zjR (l++[b]))
 | [],_=>rfl
 | c::l,h=>by
   rw[List.any_cons,Bool.or_eq_false_iff]at h;rw[zjR,List.map_cons,zbF,zeu,zjF,show(b.toList==c.toList)=(c.toList==b.toList)from Bool.beq_comm,h.1];simp only[];rw[show(l.map fun b=>(T.str b,V.agg []))=zjR l from rfl,zCE b l h.2];rfl
theorem zyn (b:ByteArray): ∀l:List ByteArray,∃es,zbF (.str b) (.agg []) (zjR l)=some es
 | []=>⟨_,rfl⟩
 | c::l=>by
   rw[zjR,List.map_cons,zbF,zeu];cases h:(b==c)
   ·simp only[];rw[show(l.map fun b=>(T.str b,V.agg []))=zjR l from rfl];obtain⟨es,he⟩:=zyn b l;exact⟨_,by rw[he];rfl⟩
   ·exact⟨_,rfl⟩
theorem zw1 (b:Int): ∀l:List Int,zbo (ti b) (ztX l)=some (if l.any (fun c=>decide (c=b))then some (.agg [])else none)
 | []=>rfl
 | c::l=>by
   rw[ztX,List.map_cons,zbo,zeu,if_pos rfl]
   by_cases h:c=b
   ·subst h;simp
   ·have e:(b==c)=false:=by simpa using fun h'=>h h'.symm
    rw[e];simp only[];rw[show(l.map fun b=>(ti b,V.agg []))=ztX l from rfl,zw1 b l,List.any_cons];simp[h]
theorem zBs (b:Int): ∀l:List Int,l.any (fun c=>decide (c=b))=false->zbF (ti b) (.agg []) (ztX l)=some (ztX (l++[b]))
 | [],_=>rfl
 | c::l,h=>by
   rw[List.any_cons,Bool.or_eq_false_iff]at h;have e:(b==c)=false:=by simpa using fun h'=>(by simpa using h.1: ¬c=b) h'.symm
   rw[ztX,List.map_cons,zbF,zeu,if_pos rfl,e];simp only[];rw[show(l.map fun b=>(ti b,V.agg []))=ztX l from rfl,zBs b l h.2];rfl
theorem zkb (k:Nat) (b:ByteArray) (l:List ByteArray) (H:Nat->Option O) (n:Nat) (hk:H k=some (.map (zjR l))):
 ∃r h' n',DenR Γ G 97 [.mm k,.t (.str b)] H n=some (r,h',n')/\(n<=n'/\r=vb (l.any (fun c=>c.toList==b.toList)))/\
  ∃es,h'=updC H k (some (.map es))/\(l.any (fun c=>c.toList==b.toList)=false->es=zjR (l++[b])):=by
 (refine zay Γ97 rfl ?_;dsimp only[f97])
 have h1:=zyM b l;cases ha:l.any (fun c=>c.toList==b.toList)
 ·rw[ha]at h1;have h2:=zCE b l ha;simp -dsimp only[go_sem,seval,hk,h1,h2,Option.getD_none,Option.getD_some,Option.isSome_none,zG,if_true,if_false];refine⟨⟨by simp -dsimp only[go_sem,seval];omega,by simp -dsimp only[go_sem,seval]⟩,_,by simp -dsimp only[go_sem,seval],fun _=>rfl⟩
 ·rw[ha]at h1;obtain⟨es,h2⟩:=zyn b l;simp -dsimp only[go_sem,seval,hk,h1,h2,Option.getD_none,Option.getD_some,Option.isSome_none,zG,if_true,if_false];refine⟨⟨by simp -dsimp only[go_sem,seval];omega,by simp -dsimp only[go_sem,seval]⟩,es,by simp -dsimp only[go_sem,seval],fun h=>by simp at h⟩
theorem zmg (k:Nat) (b:ByteArray) (l:List ByteArray) (H:Nat->Option O) (n:Nat) (hk:H k=some (.map (zjR l))):
 ∃r h' n',DenR Γ G 97 [.mm k,.t (.str b)] H n=some (r,h',n')/\r=vb (l.any (fun c=>c.toList==b.toList))/\(l.any (fun c=>c.toList==b.toList)=false->h' k=some (.map (zjR (l++[b])))):=by
 obtain⟨r,h',n',hd,⟨_,hr⟩,es,rfl,he⟩:=zkb k b l H n hk;exact⟨r,_,n',hd,hr,fun h=>by rw[he h,zaa,if_pos rfl]⟩
theorem zaF.toT1 {h:Nat->Option O} {x:Nat} {v:V} {l:List Int} (o:zaF h x v 1 (zae l)):Rg.toT1 h v=some (.t (ints l)):=by
 have:=zcc o (zbP _);rcases o with⟨rfl,he⟩ | ⟨k,rfl,_,_⟩
 ·have:l=[]:=by simpa[zae]using he
  subst this;rfl
 ·simp only[Rg.toT1,this,Option.map_some]
theorem zft (e:Expr) (F:T) (P:Int->Bool) (hP:IsF F P):Den Γ G 108 [(.agg [.t (ti (e).op),.t (ti (e).w),.t (ti (e).n),.t (.sl ((e).kids.map (Expr.enc)))]),.t F]=some (vb ((e.sup 3).all P&&(e.sup 2).all P)):=by
 (refine zag Γ108 rfl ?_;dsimp only[f108])
 have hn:=hP.1;simp only[T.norm]at hn;have l3:=zfp 3 e;have l2:=zfp 2 e;have h2:=zeC F P hP (e.sup 3) (by omega);have h3:=zeC F P hP (e.sup 2) (by omega);simp -dsimp only[go_sem,seval];refine zas (zfo e _ _) ?_;rintro r h' n' ⟨v3,v2,rfl,o3,o2,_,_⟩;have x3:=o3.valOf;have x2:=o2.valOf;have y3:=o3.toT1;have y2:=o2.toT1;simp only[Rg.toT1]at y3 y2;cases ha:(e.sup 3).all P
 ·rw[ha]at h2;simp -dsimp only[go_sem,seval,h2,hn,x3,x2,y3,y2];simp
 ·rw[ha]at h2;simp -dsimp only[go_sem,seval,h2,h3,hn,x3,x2,y3,y2,Bool.true_and]
theorem zpS (p:Prog) (e:Expr) (pair:Bool) (F:T) (P:Int->Bool) (hP:IsF F P):Den Γ G 99 [(zP p),(.agg [.t (ti (e).op),.t (ti (e).w),.t (ti (e).n),.t (.sl ((e).kids.map (Expr.enc)))]),vb pair,.t F]=
 some (vb (e.valid p.cells pair&&decide (e.w=1)&&((e.sup 3).all P&&(e.sup 2).all P))):=by
 (refine zag Γ99 rfl ?_;dsimp only[f99])
 have hn:=hP.1;simp only[T.norm]at hn;have h1:=zfS e p.cells pair;have h2:=zft e F P hP
 by_cases hw:e.w=1
 ·cases hv:e.valid p.cells pair
  ·rw[hv]at h1;simp -dsimp only[go_sem,seval,hw];rw[hw]at h1;simp -dsimp only[go_sem,seval,h1];simp
  ·rw[hv]at h1;rw[hw]at h1 h2;simp -dsimp only[go_sem,seval,hw,h1,h2,hn,Bool.true_and,Bool.and_true]
 ·simp -dsimp only[go_sem,seval,hw];simp
theorem zn4 (p:Prog) (hs:p.sane):Den Γ G 79 [(zP p)]=some (.tup [vi (zaV p).1,vi (zaV p).2]):=by
 (refine zag Γ79 rfl ?_;dsimp only[f79])
 simp -dsimp only[go_sem,seval]
 by_cases CH:(p.cells.length:Int)>32\/(p.modules.length:Int)>6\/(p.locks.length:Int)>4\/(p.threads.length:Int)>4
 ·have hm:zaV p=(2,-1):=by rw[zaV,if_pos CH]
  rw[hm]
  repeat'(refine zac (fun h=> ?_) (fun h=> ?_)<;>(try rw[h])<;>(try simp only[zah]at h)<;>(try simp -dsimp only[go_sem,seval]))
  all_goals omega
 ·have hm:zaV p=zco (fun _ x=>if zaP x then 2 else 0) 0 p.threads:=by rw[zaV,if_neg CH]
  have g1: ¬(p.cells.length:Int)>32:=by omega
  have g2: ¬(p.modules.length:Int)>6:=by omega
  have g3: ¬(p.locks.length:Int)>4:=by omega
  have g4: ¬(p.threads.length:Int)>4:=by omega
  simp -dsimp only[go_sem,seval,g1,g2,g3,g4];refine zaT 72057576858058860 p.threads.length (fun i f=>(f 34).v=vi i/\zaV p=zco (fun _ x=>if zaP x then 2 else 0) i (p.threads.drop i)) rfl rfl ⟨by simp -dsimp only[go_sem,seval],hm⟩ ?_;clear hm;rintro i f u kk bb hi ⟨h4,hm⟩;have hw:=zan i (by omega);simp -dsimp only[go_sem,seval,h4];refine zac (fun h=> ?_) (fun h=> ?_)<;>(try rw[h])<;>(try simp only[zah]at h)<;>(try simp -dsimp only[go_sem,seval,h4])
  ·obtain⟨x,hx,_⟩:=zai ‹i<p.threads.length›;have AU:zaP x=true->zaV p=(2,(i:Int)):=fun h0=>by rw[hm,zcC hx (by simp[h0])];simp[h0]
   simp -dsimp only[go_sem,seval,h4,hx]
   repeat'(refine zac (fun h=> ?_) (fun h=> ?_)<;>(try rw[h])<;>(try simp only[zah]at h)<;>(try simp -dsimp only[go_sem,seval,h4]))
   ·rw[AU (by simp[zaP, *])];simp
   ·rw[AU (by simp[zaP, *])];simp
   ·rw[AU (by simp[zaP, *])];simp
   ·refine⟨by omega,by simp -dsimp only[go_sem,seval,hw],?_⟩;rw[hm,zc6 hx (by simp[zaP, *])]
  ·have:i=p.threads.length:=by omega
   subst this;rw[hm,zel];simp
theorem ziH {w:Int} (h:0<=w/\w<=62):IntKind.i64.wrap (1*2^min w.toNat 64)=2^w.toNat:=by
 have:min w.toNat 64=w.toNat:=Nat.min_eq_left (by omega);rw[this,Int.one_mul];have h2:(2:Int)^w.toNat<=2^62:=zes (by omega);have h3:=zcn w.toNat;exact zaH (by omega)
theorem zvD {w:Int} (h:0<=w/\w<=62):IntKind.u64.wrap w=w:=by
 have h1:IntKind.u64.wrap w=w % 2^64:=by simp[IntKind.wrap,IntKind.signed,IntKind.bits]
 rw[h1];omega
theorem zqT (p:Prog) (hs:p.sane):Den Γ G 80 [(zP p)]=some (vi (zce p)):=by
 (refine zag Γ80 rfl ?_;dsimp only[f80])
 simp -dsimp only[go_sem,seval];have He:=hs.cells;refine zaq 4611686018427385892 p.cells.length (fun i f h x=>(f 11).v=vi i/\h 2=some (.map (zjR ((p.cells.take i).map Cell.name)))/\zce p=(zco (zci p) i (p.cells.drop i)).1) rfl ⟨by simp -dsimp only[go_sem,seval],by simp -dsimp only[go_sem,seval];rfl,rfl⟩ ?_;rintro i f u hh x bs hi ⟨Bg,Bk,hm⟩;have hw:=zan i (by omega);simp -dsimp only[go_sem,seval,Bg];refine zac (fun h=> ?_) (fun h=> ?_)<;>(try rw[h])<;>(try simp only[zah]at h)<;>(try simp -dsimp only[go_sem,seval,Bg])
 ·obtain⟨c,hc,BI⟩:=zai ‹i<p.cells.length›;have hl:=zf2 c.name;have Cx:=zbR c.init (2^c.w.toNat);have BM:=zbR c.thread p.threads.length;have H9:=zbR c.module p.modules.length
  have AU:zcj p c=true->zce p=1:=fun h0=>by
   have:zci p i c=1:=by simp[zci,h0]
   rw[hm,zcC hc (by simp[this])];exact this
  by_cases hb:zcj p c=true
  ·rw[AU hb]
   by_cases PG:1<=c.w/\c.w<=8
   ·have s1:=ziH (w:=c.w) (by omega);have s2:=zvD (w:=c.w) (by omega);have s3: ¬c.w<0:=by omega
    simp -dsimp only[go_sem,seval,Bg,hc,hl]
    repeat'(refine zac (fun h=> ?_) (fun h=> ?_)<;>(try rw[h])<;>(try simp only[zah]at h)<;>(try simp -dsimp only[go_sem,seval,Bg,Cx,BM,H9,s1,s2,s3]))
    all_goals(exfalso;simp only[zcj,inR,Bool.or_eq_true,Bool.not_eq_true',decide_eq_true_eq,decide_eq_false_iff_not]at *;simp_all;(try omega);done)
   ·have s3:c.w<1\/c.w>8:=by omega
    simp -dsimp only[go_sem,seval,Bg,hc,hl];refine zac (fun h=> ?_) (fun h=> ?_)<;>(try rw[h])<;>(try simp only[zah]at h)<;>(try simp -dsimp only[go_sem,seval,Bg])
    refine zac (fun h=> ?_) (fun h=> ?_)<;>(try rw[h])<;>(try simp only[zah]at h)<;>(try simp -dsimp only[go_sem,seval,Bg])
    refine zac (fun h=> ?_) (fun h=> ?_)<;>(try rw[h])<;>(try simp only[zah]at h)<;>(try simp -dsimp only[go_sem,seval,Bg])
    all_goals(exfalso;omega)
  ·have Bf:zcj p c=false:=by simpa using hb
   obtain⟨b1,b2,b3,b4,b5,b6,b7,b8⟩:=zfc Bf;have s1:=ziH (w:=c.w) (by omega);have s2:=zvD (w:=c.w) (by omega);have s3: ¬c.w<0:=by omega
   have s4: ¬c.w<1:=by omega
   have s5: ¬c.w>8:=by omega
   have e1:inR c.init (2^c.w.toNat)=true:=by simp[inR];omega
   rw[b1]at hl;rw[e1]at Cx;rw[b8]at H9;have Ct:=fun n=>zmg 2 c.name ((p.cells.take i).map Cell.name) hh n Bk
   have A9:((p.cells.take i).map Cell.name).any (fun d=>d.toList==c.name.toList)=(p.cells.take i).any (fun d=>d.name.toList==c.name.toList):=by rw[List.any_map];rfl
   have AL: ∀Q:Prop,(c.thread= -1->Q)->(¬c.thread= -1->inR c.thread p.threads.length=true->Q)->Q:=fun Q q1 q2=>by
    by_cases h:c.thread= -1
    ·exact q1 h
    ·exact q2 h (by simp[inR];omega)
   refine AL _ (fun t1=> ?_) (fun t1 t2=> ?_)
   all_goals(
    (try rw[t2]at BM)
    simp -dsimp only[go_sem,seval,Bg,hc,hl,Cx,BM,H9,s1,s2,s3,s4,s5,t1];refine zas (Ct _) ?_;rintro r h' n' ⟨rfl,Ah⟩;rw[A9]at Ah;simp -dsimp only[go_sem,seval,Bg,A9];refine zac (fun h=> ?_) (fun h=> ?_)<;>(try rw[h])<;>(try simp only[zah]at h)<;>(try simp -dsimp only[go_sem,seval,Bg])
    ·have:zci p i c=41:=by rw[zci,if_neg hb,if_pos h]
     rw[hm,zcC hc (by simp[this])];exact this.symm
    ·refine⟨by omega,by simp -dsimp only[go_sem,seval,hw],?_,?_⟩
     ·have AF:=Ah h;simp -dsimp only[go_sem,seval,AF];rw[zaf hc];simp
     ·rw[hm,zc6 hc (by rw[zci,if_neg hb,if_neg (by simp[h])])])
 ·have:i=p.cells.length:=by omega
  subst this;rw[hm,zel]
theorem zoU (p:Prog):IsF (.fa 100 [.sl (p.cells.map Cell.enc),.sl (p.modules.map Contract.enc),.sl (p.locks.map Lock.enc),.sl (p.threads.map Thread.enc)]) (zar p (-1)):=
 zyI (by simp[T.norm]) (fun n=>zdY p n)
theorem znK (p:Prog) (c:Int):zjW p (-1) c=zar p (-1) c:=by simp[zjW]
theorem zn2 (p:Prog):ztz p true (-1)=zar p (-1):=by funext c;simp[ztz,znK]
theorem zi4 (p:Prog) (t:Int):ztz p true t=zjW p t:=by funext c;simp[ztz]
theorem zlv (p:Prog) (t:Int):ztz p false t=zar p t:=by funext c;simp[ztz]
theorem zjK (p:Prog) (e:Expr) (pair:Bool):Den Γ G 99 [(zP p),(.agg [.t (ti (e).op),.t (ti (e).w),.t (ti (e).n),.t (.sl ((e).kids.map (Expr.enc)))]),vb pair,.t (.fa 100 [.sl (p.cells.map Cell.enc),.sl (p.modules.map Contract.enc),.sl (p.locks.map Lock.enc),.sl (p.threads.map Thread.enc)])]=some (vb (zaR p e pair (-1))):=by
 rw[zpS p e pair _ _ (zoU p),zaR,zbE,zn2]
theorem zmQ (p:Prog) (hs:p.sane):Den Γ G 81 [(zP p)]=some (vi (zbm p)):=by
 (refine zag Γ81 rfl ?_;dsimp only[f81])
 simp -dsimp only[go_sem,seval];have He:=hs.modules;refine zaq 4611686018427385892 p.modules.length (fun i f h x=>(f 11).v=vi i/\h 2=some (.map (zjR ((p.modules.take i).map Contract.name)))/\zbm p=(zco (zdH p) i (p.modules.drop i)).1) rfl ⟨by simp -dsimp only[go_sem,seval],by simp -dsimp only[go_sem,seval];rfl,rfl⟩ ?_;rintro i f u hh x bs hi ⟨Bg,Bk,hm⟩;have hw:=zan i (by omega);simp -dsimp only[go_sem,seval,Bg];refine zac (fun h=> ?_) (fun h=> ?_)<;>(try rw[h])<;>(try simp only[zah]at h)<;>(try simp -dsimp only[go_sem,seval,Bg])
 ·obtain⟨c,hc,BI⟩:=zai ‹i<p.modules.length›;obtain⟨_,_,s3⟩:=hs.mname c BI
  have Ai: ∀k:Int,k≠0->zdH p i c=k->zbm p=k:=fun k hk h0=>by
   rw[hm,zcC hc (by rw[h0];exact hk)];exact h0
  have hl:=zf2 c.name;have C7:=zf2 c.owner;simp -dsimp only[go_sem,seval,Bg,hc,hl];refine zac (fun h=> ?_) (fun h=> ?_)<;>(try rw[h])<;>(try simp only[zah]at h)<;>(try simp -dsimp only[go_sem,seval,Bg,C7])
  ·rw[Ai 1 (by decide) (by simp[zdH,h])]
  ·have e1:zbA c.name=true:=by assumption
   refine zac (fun h=> ?_) (fun h=> ?_)<;>(try rw[h])<;>(try simp only[zah]at h)<;>(try simp -dsimp only[go_sem,seval,Bg])
   ·rw[Ai 1 (by decide) (by simp[zdH,h])]
   ·have e2:zbA c.owner=true:=by assumption
    have Ct:=fun n=>zmg 2 c.name ((p.modules.take i).map Contract.name) hh n Bk
    have A9:((p.modules.take i).map Contract.name).any (fun d=>d.toList==c.name.toList)=(p.modules.take i).any (fun d=>d.name.toList==c.name.toList):=by rw[List.any_map];rfl
    refine zas (Ct _) ?_;rintro r h' n' ⟨rfl,Ah⟩;rw[A9]at Ah;simp -dsimp only[go_sem,seval,Bg,A9];have Ca:=zoB c.rely;have Hw:=zjK p c.rely true;have HI:=zjK p c.guar true;refine zac (fun h=> ?_) (fun h=> ?_)<;>(try rw[h])<;>(try simp only[zah]at h)<;>(try simp -dsimp only[go_sem,seval,Bg,Ca])
    ·rw[Ai 41 (by decide) (by rw[zdH,if_neg (by simp[e1,e2]),if_pos h])]
    ·have Fk:zdH p i c=if(!c.rely.absent&& !zaR p c.rely true (-1)) || !zaR p c.guar true (-1)then 60 else if !zc0 c.frame || !c.frame.all (zar p (-1))then 1 else 0:=by
      rw[zdH,if_neg (by simp[e1,e2]),if_neg (by simp[h])]
     have AF:=Ah h;have RI:=zgi c.frame (by omega);have BF:=zeC _ _ (zoU p) c.frame (by omega)
     repeat'(refine zac (fun h=> ?_) (fun h=> ?_)<;>(try rw[h])<;>(try simp only[zah]at h)<;>(try simp -dsimp only[go_sem,seval,Bg,Hw,HI,RI,BF]))
     all_goals first
      | (rw[Ai 60 (by decide) (by rw[Fk];simp[*])];done)
      | (rw[Ai 1 (by decide) (by rw[Fk];simp[*])];done)
      | (refine⟨by omega,by simp -dsimp only[go_sem,seval,hw],?_,?_⟩
         ·simp -dsimp only[go_sem,seval,AF];rw[zaf hc];simp
         ·rw[hm,zc6 hc (by rw[Fk];simp[*])])
 ·have:i=p.modules.length:=by omega
  subst this;rw[hm,zel]
theorem ziZ {p:Prog} {t c:Int} (h:zar p t c=true):0<=c/\ ∃x,p.cells[c.toNat]? =some x/\x.thread=t:=by
 unfold zar at h;simp only[zF,decide_eq_true_eq]at h;refine⟨h.1,?_⟩;rcases hx:p.cells[c.toNat]? with _ | x
 ·rw[hx]at h;simp at h
 ·rw[hx]at h;exact⟨x,rfl,by simpa using h.2⟩
theorem zqt (p:Prog) (hs:p.sane):Den Γ G 82 [(zP p)]=some (vi (zcT p)):=by
 (refine zag Γ82 rfl ?_;dsimp only[f82])
 simp -dsimp only[go_sem,seval];have He:=hs.locks;refine zaq 9444732965739290419428 p.locks.length (fun i f h x=>(f 13).v=vi i/\h 2=some (.map (ztX ((p.locks.take i).map Lock.cell)))/\zcT p=(zco (zcM p) i (p.locks.drop i)).1) rfl ⟨by simp -dsimp only[go_sem,seval],by simp -dsimp only[go_sem,seval];rfl,rfl⟩ ?_;rintro i f u hh x bs hi ⟨Du,Bk,hm⟩;have hw:=zan i (by omega);simp -dsimp only[go_sem,seval,Du];refine zac (fun h=> ?_) (fun h=> ?_)<;>(try rw[h])<;>(try simp only[zah]at h)<;>(try simp -dsimp only[go_sem,seval,Du])
 ·obtain⟨l,hl,Hy⟩:=zai ‹i<p.locks.length›
  have Ai: ∀k:Int,k≠0->zcM p i l=k->zcT p=k:=fun k hk h0=>by
   rw[hm,zcC hl (by rw[h0];exact hk)];exact h0
  have Bo:=zdY p l.cell;have hb:=zbR l.module p.modules.length;have ht:=zjK p l.inv false;have A9:((p.locks.take i).map Lock.cell).any (fun d=>decide (d=l.cell))=(p.locks.take i).any (fun d=>decide (d.cell=l.cell)):=by rw[List.any_map];rfl
  have BJ:=zw1 l.cell ((p.locks.take i).map Lock.cell);rw[A9]at BJ;simp -dsimp only[go_sem,seval,Du,hl,Bo];refine zac (fun h=> ?_) (fun h=> ?_)<;>(try rw[h])<;>(try simp only[zah]at h)<;>(try simp -dsimp only[go_sem,seval,Du])
  ·rw[Ai 1 (by decide) (by simp[zcM,h])]
  ·have o1:zar p (-1) l.cell=true:=by assumption
   obtain⟨d0,y,hy,_⟩:=ziZ o1;have Dr:=zaZ (g:=fun x=>decide (x.w=1)) hy;have CG:=zaZ (g:=Cell.ghost) hy;simp -dsimp only[go_sem,seval,Du,hl,d0,hy];refine zac (fun h=> ?_) (fun h=> ?_)<;>(try rw[h])<;>(try simp only[zah]at h)<;>(try simp -dsimp only[go_sem,seval,Du,hl,d0,hy])
   ·rw[Ai 1 (by decide) (by rw[zcM,if_pos (by rw[Dr];simp[h])])]
   ·have e1:y.w=1:=by assumption
    refine zac (fun h=> ?_) (fun h=> ?_)<;>(try rw[h])<;>(try simp only[zah]at h)<;>(try simp -dsimp only[go_sem,seval,Du,hl,Bk,BJ,Option.getD_none,Option.getD_some,Option.isSome_none,zG,if_true,if_false])
    ·rw[Ai 1 (by decide) (by rw[zcM,if_pos (by rw[CG];simp[h])])]
    ·have e2:y.ghost=false:=by assumption
     have A5:zcM p i l=if !inR l.module p.modules.length then 1 else if(p.locks.take i).any (fun d=>decide (d.cell=l.cell))then 1 else if !zaR p l.inv false (-1)then 60 else 0:=by
      rw[zcM,o1,Dr,CG,e1,e2];simp
     cases ha:(p.locks.take i).any (fun d=>decide (d.cell=l.cell))
     ·rw[ha]at BJ A9 A5;have Jj:=zBs l.cell _ A9;simp -dsimp only[go_sem,seval,Du,hl,Bk,BJ,Option.getD_none,Option.getD_some,Option.isSome_none,zG,if_true,if_false,hb];refine zac (fun h=> ?_) (fun h=> ?_)<;>(try rw[h])<;>(try simp only[zah]at h)<;>(try simp -dsimp only[go_sem,seval,Du,hl,Bk,Jj,ht])
      ·rw[Ai 1 (by decide) (by rw[A5];simp[h])]
      ·have e3:inR l.module p.modules.length=true:=by assumption
       refine zac (fun h=> ?_) (fun h=> ?_)<;>(try rw[h])<;>(try simp only[zah]at h)<;>(try simp -dsimp only[go_sem,seval,Du])
       ·rw[Ai 60 (by decide) (by rw[A5];simp[h,e3])]
       ·refine⟨by omega,by simp -dsimp only[go_sem,seval,hw],?_,?_⟩
        ·simp -dsimp only[go_sem,seval];rw[zaf hl];simp
        ·rw[hm,zc6 hl (by rw[A5];simp[h,e3])]
     ·rw[ha]at BJ A5;simp -dsimp only[go_sem,seval,Du,hl,Bk,BJ,Option.getD_none,Option.getD_some,Option.isSome_none,zG,if_true,if_false];rw[Ai 1 (by decide) (by rw[A5];simp)]
 ·have:i=p.locks.length:=by omega
  subst this;rw[hm,zel]
def zB3 (F:T) (P:Int->Bool) (D:Int->Prop):Prop:=T.norm F=F/\ ∃g a b,zfC (.t F)=some (g,a,b)/\(∀(h:Nat->Option O) (n:Int),(a++[vi n]++b).mapM (toT1 h)=some (a++[vi n]++b))/\
 (∀n:Int,(a++[vi n]++b).all V.tree=true)/\ ∀n:Int,D n->Den Γ G g (a++[vi n]++b)=some (vb (P n))
theorem IsF.on {F:T} {P:Int->Bool} (h:IsF F P):zB3 F P (fun _=>True):=by
 obtain⟨h1,g,a,b,h2,h3,h4,h5⟩:=h;exact⟨h1,g,a,b,h2,h3,h4,fun n _=>h5 n⟩
theorem zgq (set:List Assign) (F:T) (P:Int->Bool) (D:Int->Prop) (hP:zB3 F P D) (hD: ∀a∈set,D a.cell) (hl:set.length<2^48):
 Den Γ G 162 [.t (.sl (set.map Assign.enc)),.t F]=some (vb (set.all fun a=>P a.cell)):=by
 (refine zag Γ162 rfl ?_;dsimp only[zQW])
 obtain⟨_,g,a,b,hf,hm,ha,hd⟩:=hP;have hK:=zsE hf;simp -dsimp only[go_sem,seval];refine zaT 523856 set.length (fun i f=>(f 9).v=vi i/\(set.all fun a=>P a.cell)=(set.drop i).all fun a=>P a.cell) rfl rfl ⟨by simp -dsimp only[go_sem,seval],rfl⟩ ?_;rintro i f u kk bb hi ⟨h9,Aa⟩;have hw:=zan i (by omega);simp -dsimp only[go_sem,seval,h9];refine zac (fun h=> ?_) (fun h=> ?_)<;>(try rw[h])<;>(try simp only[zah]at h)<;>(try simp -dsimp only[go_sem,seval,h9])
 ·obtain⟨x,hx,C1⟩:=zai ‹i<set.length›;have QF:=hd x.cell (hD x C1);simp -dsimp only[go_sem,seval,h9,hx,hK,hm,ha,QF];refine zac (fun h=> ?_) (fun h=> ?_)<;>(try rw[h])<;>(try simp only[zah]at h)<;>(try simp -dsimp only[go_sem,seval,h9])
  ·rw[Aa,za6 hx h]
  ·refine⟨by omega,by simp -dsimp only[go_sem,seval,hw],?_⟩;rw[Aa,za7 hx h]
 ·have:i=set.length:=by omega
  subst this;rw[Aa,zbB]
theorem zgo (s:Step) (F:T) (P:Int->Bool) (hP:IsF F P) (hl:s.set.length<2^48):
 Den Γ G 161 [(zS s),.t F]=some (vb (((s.guard.sup 3).all P&&(s.guard.sup 2).all P)&&s.set.all fun a=>(a.to.sup 3).all P&&(a.to.sup 2).all P)):=by
 (refine zag Γ161 rfl ?_;dsimp only[zQX])
 have hn:=hP.1;simp only[T.norm]at hn;have hg:=zft s.guard F P hP;simp -dsimp only[go_sem,seval,hg,hn];refine zac (fun h=> ?_) (fun h=> ?_)<;>(try rw[h])<;>(try simp only[zah]at h)<;>(try simp -dsimp only[go_sem,seval])
 ·rw[h];simp
 ·rw[h,Bool.true_and];refine zaT 33521744 s.set.length (fun i f=>(f 15).v=vi i/\(s.set.all fun a=>(a.to.sup 3).all P&&(a.to.sup 2).all P)=(s.set.drop i).all fun a=>(a.to.sup 3).all P&&(a.to.sup 2).all P) rfl rfl ⟨by simp -dsimp only[go_sem,seval],rfl⟩ ?_;rintro i f u kk bb hi ⟨Cy,Aa⟩;have hw:=zan i (by omega);simp -dsimp only[go_sem,seval,Cy];refine zac (fun h=> ?_) (fun h=> ?_)<;>(try rw[h])<;>(try simp only[zah]at h)<;>(try simp -dsimp only[go_sem,seval,Cy])
  ·obtain⟨x,hx,C1⟩:=zai ‹i<s.set.length›;have Qj:=zft x.to F P hP;simp -dsimp only[go_sem,seval,Cy,hx,Qj,hn];refine zac (fun h=> ?_) (fun h=> ?_)<;>(try rw[h])<;>(try simp only[zah]at h)<;>(try simp -dsimp only[go_sem,seval,Cy])
   ·rw[Aa,za6 hx h]
   ·refine⟨by omega,by simp -dsimp only[go_sem,seval,hw],?_⟩;rw[Aa,za7 hx h]
  ·have:i=s.set.length:=by omega
   subst this;rw[Aa,zbB]
theorem zpU (s:Step):Den Γ G 165 [(zS s)]=some (vb (s.guard.one&&decide (s.set=[]))):=by
 (refine zag Γ165 rfl ?_;dsimp only[f165])
 have h1:=zwI s.guard;simp -dsimp only[go_sem,seval,h1];refine zac (fun h=> ?_) (fun h=> ?_)<;>(try rw[h])<;>(try simp only[zah]at h)<;>(try simp -dsimp only[go_sem,seval])
 ·rcases s.set with _ | ⟨a,r⟩
  ·simp
  ·simp;omega
 ·simp
theorem zzJ (p:Prog) (t:Int):IsF (.fn 146 [] [zbx p,.ip [ti t]]) (zar p t):=(zBt p t).isF
theorem ztY (p:Prog) (t:Int):IsF (.fn 134 [] [zbx p,.ip [.fn 146 [] [zbx p,.ip [ti t]]]]) (zjW p t):=(zmb p t).isF
theorem zlD (p:Prog) (t:Int) (s:Step) (hl:s.set.length<2^48):Den Γ G 147 [(.agg [.t (.sl ((p).cells.map (Cell.enc))),.t (.sl ((p).modules.map (Contract.enc))),.t (.sl ((p).locks.map (Lock.enc))),.t (.sl ((p).threads.map (Thread.enc)))]),vi t,(.agg [.t (ti (s).kind),.t (ti (s).fr),.t (ti (s).to),.t (ti ((s).guard).op),.t (ti ((s).guard).w),.t (ti ((s).guard).n),.t (.sl (((s).guard).kids.map Expr.enc)),.t (.sl ((s).set.map Assign.enc)),.t (tb (s).release),.t (ti (s).target),.t (ti (s).module)])]=some (vb (zbz p s false t&&s.set.all fun a=>zar p t a.cell)):=by
 (refine zag Γ147 rfl ?_;dsimp only[f147])
 have h1:=zlp p t
 have h2:Den Γ G 161 [(zS s),.t (.fn 146 [] [zbx p,.ip [ti t]])]=some (vb (zbz p s false t)):=by
  rw[zgo s _ _ (zzJ p t) hl];simp only[zbz,zbE,zlv]
 have h3:=zgq s.set _ _ _ (zzJ p t).on (fun _ _=>trivial) hl;simp -dsimp only[go_sem,seval,h1,h2];refine zac (fun h=> ?_) (fun h=> ?_)<;>(try rw[h])<;>(try simp only[zah]at h)<;>(try simp -dsimp only[go_sem,seval,h3])
 ·simp
theorem zj4 (p:Prog) (t:Int) (s:Step) (hl:s.set.length<2^48):Den Γ G 150 [(.agg [.t (.sl ((p).cells.map (Cell.enc))),.t (.sl ((p).modules.map (Contract.enc))),.t (.sl ((p).locks.map (Lock.enc))),.t (.sl ((p).threads.map (Thread.enc)))]),vi t,(.agg [.t (ti (s).kind),.t (ti (s).fr),.t (ti (s).to),.t (ti ((s).guard).op),.t (ti ((s).guard).w),.t (ti ((s).guard).n),.t (.sl (((s).guard).kids.map Expr.enc)),.t (.sl ((s).set.map Assign.enc)),.t (tb (s).release),.t (ti (s).target),.t (ti (s).module)])]=some (vb (zbz p s true t&&s.set.all fun a=>zjW p t a.cell)):=by
 (refine zag Γ150 rfl ?_;dsimp only[zQY])
 have h1:=zgn p t
 have h2:Den Γ G 161 [(zS s),.t (.fn 134 [] [zbx p,.ip [.fn 146 [] [zbx p,.ip [ti t]]]])]=some (vb (zbz p s true t)):=by
  rw[zgo s _ _ (ztY p t) hl];simp only[zbz,zbE,zi4]
 have h3:=zgq s.set _ _ _ (ztY p t).on (fun _ _=>trivial) hl;simp -dsimp only[go_sem,seval,h1,h2];refine zac (fun h=> ?_) (fun h=> ?_)<;>(try rw[h])<;>(try simp only[zah]at h)<;>(try simp -dsimp only[go_sem,seval,h3])
 ·simp
theorem zlE (p:Prog) (t:Int) (s:Step):Den Γ G 151 [(.agg [.t (.sl ((p).cells.map (Cell.enc))),.t (.sl ((p).modules.map (Contract.enc))),.t (.sl ((p).locks.map (Lock.enc))),.t (.sl ((p).threads.map (Thread.enc)))]),vi t,(.agg [.t (ti (s).kind),.t (ti (s).fr),.t (ti (s).to),.t (ti ((s).guard).op),.t (ti ((s).guard).w),.t (ti ((s).guard).n),.t (.sl (((s).guard).kids.map Expr.enc)),.t (.sl ((s).set.map Assign.enc)),.t (tb (s).release),.t (ti (s).target),.t (ti (s).module)])]=some (vb (s.guard.one&&decide (s.set=[]))):=by
 (refine zag Γ151 rfl ?_;dsimp only[f151])
 have h1:=zpU s;simp -dsimp only[go_sem,seval,h1]
theorem zhX (p:Prog) (t:Int) (s:Step):Den Γ G 153 [(.agg [.t (.sl ((p).cells.map (Cell.enc))),.t (.sl ((p).modules.map (Contract.enc))),.t (.sl ((p).locks.map (Lock.enc))),.t (.sl ((p).threads.map (Thread.enc)))]),vi t,(.agg [.t (ti (s).kind),.t (ti (s).fr),.t (ti (s).to),.t (ti ((s).guard).op),.t (ti ((s).guard).w),.t (ti ((s).guard).n),.t (.sl (((s).guard).kids.map Expr.enc)),.t (.sl ((s).set.map Assign.enc)),.t (tb (s).release),.t (ti (s).target),.t (ti (s).module)])]=some (vb (zdd p t s)):=by
 (refine zag Γ153 rfl ?_;dsimp only[f153])
 have h1:=zpU s;have h2:=zbR s.target p.threads.length;simp -dsimp only[go_sem,seval,h1];cases hb:(s.guard.one&&decide (s.set=[]))
 ·rw[hb]at h1;simp -dsimp only[go_sem,seval,h1];simp[zdd,hb]
 ·rw[hb]at h1;simp -dsimp only[go_sem,seval,h1];refine zac (fun h=> ?_) (fun h=> ?_)<;>(try rw[h])<;>(try simp only[zah]at h)<;>(try simp -dsimp only[go_sem,seval,h2])
  ·simp[zdd,hb,h]
  ·simp[zdd,hb,h]
theorem zlC (p:Prog) (t:Int) (s:Step):Den Γ G 152 [(.agg [.t (.sl ((p).cells.map (Cell.enc))),.t (.sl ((p).modules.map (Contract.enc))),.t (.sl ((p).locks.map (Lock.enc))),.t (.sl ((p).threads.map (Thread.enc)))]),vi t,(.agg [.t (ti (s).kind),.t (ti (s).fr),.t (ti (s).to),.t (ti ((s).guard).op),.t (ti ((s).guard).w),.t (ti ((s).guard).n),.t (.sl (((s).guard).kids.map Expr.enc)),.t (.sl ((s).set.map Assign.enc)),.t (tb (s).release),.t (ti (s).target),.t (ti (s).module)])]=some (vb (zdd p t s&&zf7 p s.target)):=by
 (refine zag Γ152 rfl ?_;dsimp only[f152])
 have h1:=zhX p t s;simp -dsimp only[go_sem,seval,h1];cases hb:zdd p t s
 ·rw[hb]at h1;simp -dsimp only[go_sem,seval];simp
 ·have hr:inR s.target p.threads.length=true:=by
   simp only[zdd,zF]at hb;exact hb.2
  simp only[inR,decide_eq_true_eq]at hr;obtain⟨t0,t1⟩:=hr;obtain⟨y,hy⟩: ∃y,p.threads[s.target.toNat]? =some y:=⟨_,zI (by omega)⟩
  simp -dsimp only[go_sem,seval,t0,hy];simp[zf7,hy]
theorem zr3 (p:Prog) (t:Int) (e:Expr):Den Γ G 108 [(.agg [.t (ti (e).op),.t (ti (e).w),.t (ti (e).n),.t (.sl ((e).kids.map (Expr.enc)))]),.t (.fn 146 [] [zbx p,.ip [ti t]])]=some (vb (zbE p e false t)):=by
 rw[zft e _ _ (zzJ p t),zbE,zlv]
theorem zk3 (r:List Assign):((r.map Assign.enc).all fun x=>decide (x.length=5))=true:=by
 simp[Assign.enc,Expr.enc_eq]
theorem zpc (n:Nat):(((n+1:Nat):Int)-1).toNat=n:=by omega
theorem zoL {α β:Type} (f:α->β) (r:List α):List.take r.length (r.map f)=r.map f:=List.take_of_length_le (by simp)
theorem zm1 (p:Prog) (t:Int) (s:Step) (hl:s.set.length<2^48) (hr:zjN p s):Den Γ G 148 [(.agg [.t (.sl ((p).cells.map (Cell.enc))),.t (.sl ((p).modules.map (Contract.enc))),.t (.sl ((p).locks.map (Lock.enc))),.t (.sl ((p).threads.map (Thread.enc)))]),vi t,(.agg [.t (ti (s).kind),.t (ti (s).fr),.t (ti (s).to),.t (ti ((s).guard).op),.t (ti ((s).guard).w),.t (ti ((s).guard).n),.t (.sl (((s).guard).kids.map Expr.enc)),.t (.sl ((s).set.map Assign.enc)),.t (tb (s).release),.t (ti (s).target),.t (ti (s).module)])]=some (vb (zg1 p t s)):=by
 (refine zag Γ148 rfl ?_;dsimp only[f148])
 have h1:=zlp p t;have hg:=zr3 p t s.guard;rcases hs:s.set with _ | ⟨a,r⟩
 ·simp -dsimp only[go_sem,seval,h1,hs];simp[zg1,hs]
 ·have Az: ¬(((r.length+1:Nat):Int)=0):=by omega
  have A5:(1:Int)<=((r.length+1:Nat):Int):=by omega
  have hK:zg1 p t s=(zbE p s.guard false t&&zar p t a.cell&& !zby p a.cell Cell.ghost&&decide (a.to.op=2)&&zar p (-1) a.to.n&& !zby p a.to.n Cell.ghost&&
   r.all fun b=>zar p t b.cell&&zby p b.cell Cell.ghost&&zbE p b.to false t):=by rw[zg1,hs]
  have Cp:a∈s.set:=by rw[hs];simp
  obtain⟨d0,x,hx⟩:=zch (hr.2 a Cp).1;have ho:=zis p t a.cell;have L8:=zfA p a.cell x d0 hx;have o2:=zaZ (g:=Cell.ghost) hx;have Bo:=zdY p a.to.n;simp -dsimp only[go_sem,seval,h1,hs,Az,hg];refine zac (fun h=> ?_) (fun h=> ?_)<;>(try rw[h])<;>(try simp only[zah]at h)<;>(try simp -dsimp only[go_sem,seval,hs,ho,zbx])
  ·rw[hK,h];simp
  ·have e0:zbE p s.guard false t=true:=by assumption
   refine zac (fun h=> ?_) (fun h=> ?_)<;>(try rw[h])<;>(try simp only[zah]at h)<;>(try simp -dsimp only[go_sem,seval,L8,hs])
   ·rw[hK,h];simp
   ·have e1:zar p t a.cell=true:=by assumption
    refine zac (fun h=> ?_) (fun h=> ?_)<;>(try rw[h])<;>(try simp only[zah]at h)<;>(try simp -dsimp only[go_sem,seval,hs])
    ·rw[hK,o2,h];simp
    ·have e2:x.ghost=false:=by assumption
     refine zac (fun h=> ?_) (fun h=> ?_)<;>(try rw[h])<;>(try simp only[zah]at h)<;>(try simp -dsimp only[go_sem,seval,Bo])
     ·rw[hK];simp[h]
     ·have e3:a.to.op=2:=by assumption
      obtain⟨d1,y,hy⟩:=zch (zj7 (hr.2 a Cp).2 e3);have NU:=zfA p a.to.n y d1 hy;have q2:=zaZ (g:=Cell.ghost) hy;refine zac (fun h=> ?_) (fun h=> ?_)<;>(try rw[h])<;>(try simp only[zah]at h)<;>(try simp -dsimp only[go_sem,seval,NU])
      ·rw[hK,h];simp
      ·have e4:zar p (-1) a.to.n=true:=by assumption
       refine zac (fun h=> ?_) (fun h=> ?_)<;>(try rw[h])<;>(try simp only[zah]at h)<;>(try simp -dsimp only[go_sem,seval,hs,A5])
       ·rw[hK,q2,h];simp
       ·rw[o2,q2,e0,e1,e2,e4,h]at hK;simp only[e3,decide_true,Bool.not_false,Bool.and_true,Bool.true_and]at hK;have t1:=zk3 r;have t2:=zpc r.length;have t3:=zoL Assign.enc r;simp -dsimp only[go_sem,seval,t1,t2,t3,Int.le_refl];refine zaT 2475879930996807960121837632 r.length (fun j f'=>(f' 67).v=vi j/\zg1 p t s=(r.drop j).all fun b=>zar p t b.cell&&zby p b.cell Cell.ghost&&zbE p b.to false t) rfl rfl ⟨by simp -dsimp only[go_sem,seval],hK⟩ ?_;rintro j f' u' kk' bb' hj ⟨IJ,Aa⟩;have Aw:=zan j (by rw[hs]at hl;simp at hl;omega);simp -dsimp only[go_sem,seval,IJ];refine zac (fun h=> ?_) (fun h=> ?_)<;>(try rw[h])<;>(try simp only[zah]at h)<;>(try simp -dsimp only[go_sem,seval,IJ])
        ·obtain⟨b,hb,LN⟩:=zai ‹j<r.length›;obtain⟨d2,z,hz⟩:=zch (hr.2 b (by rw[hs];simp[LN])).1;have HQ:=zis p t b.cell;have Q9:=zfA p b.cell z d2 hz;have z2:=zaZ (g:=Cell.ghost) hz;have De:=zr3 p t b.to;simp only[zbx]at De;simp -dsimp only[go_sem,seval,IJ,hb,HQ,zbx]
         repeat'(refine zac (fun h=> ?_) (fun h=> ?_)<;>(try rw[h])<;>(try simp only[zah]at h)<;>(try simp -dsimp only[go_sem,seval,IJ,Q9,De,zbx]))
         all_goals first
          | (rw[Aa,za6 hb (by rw[z2];simp[*])];done)
          | (refine⟨by omega,by simp -dsimp only[go_sem,seval,Aw],?_⟩
             rw[Aa,za7 hb (by rw[z2];simp[*])])
        ·have:j=r.length:=by omega
         subst this;rw[Aa,zbB]
theorem zxS (p:Prog) (t:Int):zB3 (.fn 164 [] [zbx p,.ip [.fn 134 [] [zbx p,.ip [.fn 146 [] [zbx p,.ip [ti t]]]]]]) (fun c=>zby p c Cell.ghost&&zjW p t c) (fun c=>inR c p.cells.length=true):=by
 have hb:IsP 134 [zbx p,.ip [.fn 146 [] [zbx p,.ip [ti t]]]] (zjW p t):=zmb p t;have hn: ∀x∈[zbx p,.ip [.fn 134 [] [zbx p,.ip [.fn 146 [] [zbx p,.ip [ti t]]]]]],T.norm x=x:=by simp[zbx,T.norm]
 refine⟨rfl,164,[],[zbx p,.ip [.fn 134 [] [zbx p,.ip [.fn 146 [] [zbx p,.ip [ti t]]]]]].map V.t,rfl,fun hh n=> ?_,fun n=> ?_,fun n Aj=> ?_⟩
 ·exact zhl hh (ti n::[zbx p,.ip [.fn 134 [] [zbx p,.ip [.fn 146 [] [zbx p,.ip [ti t]]]]]]) (fun x hx=>(List.mem_cons.1 hx).elim (fun e=>by rw[e];rfl) (hn x))
 ·exact zme (ti n::[zbx p,.ip [.fn 134 [] [zbx p,.ip [.fn 146 [] [zbx p,.ip [ti t]]]]]])
 ·obtain⟨d0,x,hx⟩:=zch Aj;have L8:=zfA p n x d0 hx;have o2:=zaZ (g:=Cell.ghost) hx;have hd:=hb.2 n;simp only[List.map_cons,List.map_nil,zbx,List.nil_append,List.cons_append]at hd⊢
  (refine zag Γ164 rfl ?_;dsimp only[f164])
  simp -dsimp only[go_sem,seval,L8];refine zac (fun h=> ?_) (fun h=> ?_)<;>(try rw[h])<;>(try simp only[zah]at h)<;>(try simp -dsimp only[go_sem,seval,hd])
  ·rw[o2,h];simp
  ·rw[o2,h];simp
theorem zlB (p:Prog) (t:Int) (s:Step) (hl:s.set.length<2^48) (hr:zjN p s):Den Γ G 149 [(.agg [.t (.sl ((p).cells.map (Cell.enc))),.t (.sl ((p).modules.map (Contract.enc))),.t (.sl ((p).locks.map (Lock.enc))),.t (.sl ((p).threads.map (Thread.enc)))]),vi t,(.agg [.t (ti (s).kind),.t (ti (s).fr),.t (ti (s).to),.t (ti ((s).guard).op),.t (ti ((s).guard).w),.t (ti ((s).guard).n),.t (.sl (((s).guard).kids.map Expr.enc)),.t (.sl ((s).set.map Assign.enc)),.t (tb (s).release),.t (ti (s).target),.t (ti (s).module)])]=some (vb (zeY p t s)):=by
 (refine zag Γ149 rfl ?_;dsimp only[zQZ])
 have h1:=zlp p t
 have hv:Den Γ G 161 [(zS s),.t (.fn 146 [] [zbx p,.ip [ti t]])]=some (vb (zbz p s false t)):=by
  rw[zgo s _ _ (zzJ p t) hl];simp only[zbz,zbE,zlv]
 by_cases he:s.set=[]
 ·simp -dsimp only[go_sem,seval,h1,he];simp[zeY,he]
 ·obtain⟨a,r,hs⟩: ∃a r,s.set=a::r:=by
   rcases h:s.set with _ | ⟨a,r⟩
   ·exact absurd h he
   ·exact⟨a,r,rfl⟩
  have BA:s.set.length=r.length+1:=by rw[hs];rfl
  have h0:s.set[0]? =some a:=by rw[hs];rfl
  have Kx:List.drop 1 (s.set.map Assign.enc)=r.map Assign.enc:=by rw[hs];rfl
  have Az: ¬(((r.length+1:Nat):Int)=0):=by omega
  have A5:(1:Int)<=((r.length+1:Nat):Int):=by omega
  have hK:zeY p t s=(zbz p s false t&&zar p (-1) a.cell&& !zby p a.cell Cell.ghost&&r.all fun b=>zby p b.cell Cell.ghost&&zjW p t b.cell):=by rw[zeY,hs]
  have Cp:a∈s.set:=by rw[hs];simp
  obtain⟨d0,x,hx⟩:=zch (hr.2 a Cp).1;have L8:=zfA p a.cell x d0 hx;have o2:=zaZ (g:=Cell.ghost) hx;have Bo:=zdY p a.cell;have IT:=zgn p t;have OU:=zgq r _ _ _ (zxS p t) (fun b hb=>(hr.2 b (by rw[hs];simp[hb])).1) (by omega);have t1:=zk3 s.set;have t2:=zpc r.length;have t3:=zoL Assign.enc r;simp -dsimp only[go_sem,seval,h1,BA,Az,hv,h0];refine zac (fun h=> ?_) (fun h=> ?_)<;>(try rw[h])<;>(try simp only[zah]at h)<;>(try simp -dsimp only[go_sem,seval,h0,Bo])
  ·rw[hK,h];simp
  ·have e0:zbz p s false t=true:=by assumption
   refine zac (fun h=> ?_) (fun h=> ?_)<;>(try rw[h])<;>(try simp only[zah]at h)<;>(try simp -dsimp only[go_sem,seval,L8])
   ·rw[hK,h];simp
   ·have e1:zar p (-1) a.cell=true:=by assumption
    refine zac (fun h=> ?_) (fun h=> ?_)<;>(try rw[h])<;>(try simp only[zah]at h)<;>(try simp -dsimp only[go_sem,seval,IT,BA,Kx,t1,t2,t3,A5,Int.le_refl,OU])
    ·rw[hK,o2,h];simp
    ·rw[o2,e0,e1,h]at hK;simp only[Bool.not_false,Bool.and_true,Bool.true_and]at hK;rw[hK];have Fg:T.ip [.sl (p.cells.map Cell.enc),.sl (p.modules.map Contract.enc),.sl (p.locks.map Lock.enc),.sl (p.threads.map Thread.enc)]=zbx p:=rfl;simp -dsimp only[go_sem,seval,Fg,OU]
theorem zsl:Den Γ G 135 []=some (.agg [.t .nilf,.t (.fn 147 [] []),.t (.fn 148 [] []),.t (.fn 149 [] []),.t (.fn 150 [] []),.t (.fn 151 [] []),.t (.fn 152 [] []),.t (.fn 153 [] [])]):=by
 (refine zag Γ135 rfl ?_;dsimp only[f135])
 simp -dsimp only[go_sem,seval]
set_option maxHeartbeats 4000000 in
theorem zrs (p:Prog) (t:Int) (x:Thread) (K7: -2^48<x.points/\x.points<2^48) (s:Step) (Ac:s.set.length<2^48):
 Den Γ G 105 [(zP p),vi t,(zT x),(zS s)]=some (vi (zaS p t x.points s)):=by
 (refine zag Γ105 rfl ?_;dsimp only[f105])
 have Cj:IntKind.i64.wrap (x.points-1)=x.points-1:=zaH (by omega);have B8:=zbR s.fr (x.points-1);have Cq:=zbR s.to x.points;have C8:=zbR s.module p.modules.length;have hv:=zfS s.guard p.cells false;simp -dsimp only[go_sem,seval]
 by_cases AU:zdW p x.points s=true
 ·rw[zaS,if_pos AU]
  repeat'(refine zac (fun h=> ?_) (fun h=> ?_)<;>(try rw[h])<;>(try simp only[zah]at h)<;>(try simp -dsimp only[go_sem,seval,Cj,B8,Cq,C8]))
  all_goals(exfalso;simp only[zdW,Bool.or_eq_true,zF,Bool.not_eq_true',decide_eq_true_eq]at AU;simp_all;try omega)
 ·have Dx:zaS p t x.points s=if !s.guard.valid p.cells false||decide (s.guard.w≠1)then 60 else if ¬(zco (zbC p s.set) 0 s.set).1=0 then(zco (zbC p s.set) 0 s.set).1 else if zbG p t s then 0 else 70:=by rw[zaS,if_neg AU]
  have Bf:zdW p x.points s=false:=by simpa using AU
  simp only[zdW,Bool.or_eq_false_iff,Bool.and_eq_false_iff,Bool.not_eq_false',decide_eq_false_iff_not]at Bf;obtain⟨⟨⟨⟨⟨⟨b1,b2⟩,b3⟩,b4⟩,b5⟩,b6⟩,b7⟩:=Bf;rw[b3]at B8;rw[b4]at Cq;rw[b5]at C8
  have AL: ∀Q:Prop,(∀(c3 c6 c7 r tz:Bool),decide (s.kind=6)=c6->decide (s.kind=7)=c7->decide (s.kind=3)=c3->s.release=r->decide (s.target=0)=tz->
   ((c6=true/\r=false)\/(c6=false/\c7=true/\r=false)\/(c6=false/\c7=false/\tz=true/\r=false)\/(c6=false/\c7=false/\tz=true/\r=true/\c3=true))->Q)->Q:=fun Q q=>by
   refine q _ _ _ _ _ rfl rfl rfl rfl rfl ?_;simp only[decide_eq_true_eq,decide_eq_false_iff_not]
   by_cases h6:s.kind=6<;>by_cases h7:s.kind=7<;>by_cases h3:s.kind=3<;>cases hr:s.release<;>by_cases hz:s.target=0<;>simp_all
  refine AL _ (fun c3 c6 c7 r tz e6 e7 e3 er ez hc=> ?_);have C3:s.guard.valid p.cells false=true->s.guard.w=1->zaS p t x.points s=if ¬(zco (zbC p s.set) 0 s.set).1=0 then(zco (zbC p s.set) 0 s.set).1 else if zbG p t s then 0 else 70:=fun g1 g2=>by rw[Dx,if_neg (by simp[g1,g2])]
  have EP:(s.guard.valid p.cells false=false\/ ¬s.guard.w=1)->zaS p t x.points s=60:=fun g=>by rw[Dx,if_pos (by rcases g with g | g<;>simp[g])]
  have b1':1<=s.kind/\s.kind<=7:=by omega
  have e3':(decide ¬s.kind=3)= !c3:=by rw[<- e3];simp
  have ez':(decide ¬s.target=0)= !tz:=by rw[<- ez];simp
  rcases hc with⟨rfl,rfl⟩ | ⟨rfl,rfl,rfl⟩ | ⟨rfl,rfl,rfl,rfl⟩ | ⟨rfl,rfl,rfl,rfl,rfl⟩
  all_goals(try cases tz)
  all_goals(try cases c3)
  all_goals(try(exfalso;simp only[decide_eq_true_eq]at e3 e6 e7;omega))
  all_goals(
   (try simp only[Bool.not_true,Bool.not_false]at e3' ez')
   simp -dsimp only[go_sem,seval,Cj,B8,Cq,C8,b1,b2,e6,e7,e3',ez',er,hv]
   repeat'(refine zac (fun h=> ?_) (fun h=> ?_)<;>(try rw[h])<;>(try simp only[zah]at h)<;>(try simp -dsimp only[go_sem,seval,hv])))
  all_goals(try(rw[EP (.inl ‹_›)];done))
  all_goals(try(rw[EP (.inr ‹_›)];done))
  all_goals(
   have M1:s.guard.valid p.cells false=true:=by assumption
   have QA:s.guard.w=1:=by assumption
   have C3:=C3 M1 QA;clear AL EP Dx hv B8 Cq C8 e3' ez' er e3 e6;refine zaq 2722258935367498036300439942420748071168 s.set.length (fun i f h y=>(f 83).v=vi i/\h 74=some (.map (ztX ((s.set.take i).map Assign.cell)))/\zco (zbC p s.set) 0 s.set=zco (zbC p s.set) i (s.set.drop i)) rfl ⟨by simp -dsimp only[go_sem,seval],by simp -dsimp only[go_sem,seval];rfl,rfl⟩ ?_;rintro i f u hh y bs hi ⟨II,Bk,hm⟩;have hw:=zan i (by omega);simp -dsimp only[go_sem,seval,II];refine zac (fun h=> ?_) (fun h=> ?_)<;>(try rw[h])<;>(try simp only[zah]at h)<;>(try simp -dsimp only[go_sem,seval,II])
   ·obtain⟨a,ha,Cp⟩:=zai ‹i<s.set.length›;have B8:=zbR a.cell p.cells.length
    have Ai: ∀k:Int,k≠0->zbC p s.set i a=k->zaS p t x.points s=k:=fun k hk h0=>by
     have h2:=hm.trans (zcC ha (by rw[h0];exact hk));rw[C3,h2,h0,if_pos hk]
    have A9:((s.set.take i).map Assign.cell).any (fun d=>decide (d=a.cell))=(s.set.take i).any (fun d=>decide (d.cell=a.cell)):=by rw[List.any_map];rfl
    have BJ:=zw1 a.cell ((s.set.take i).map Assign.cell);rw[A9]at BJ;cases hc:(s.set.take i).any (fun d=>decide (d.cell=a.cell))
    ·rw[hc]at BJ A9;have Jj:=zBs a.cell _ A9;simp -dsimp only[go_sem,seval,II,ha,Bk,BJ,Option.getD_none,Option.getD_some,Option.isSome_none,zG,if_true,if_false,B8];cases I6:inR a.cell p.cells.length
     ·simp -dsimp only[go_sem,seval,II];rw[Ai 70 (by decide) (by simp[zbC,I6])]
     ·obtain⟨d0,z,hz⟩:=zch I6;have DT:=zfS a.to p.cells false;have Id:=zaZ (g:=fun x=>decide (a.to.w=x.w)) hz
      have DW:zbC p s.set i a=if !a.to.valid p.cells false || !zby p a.cell (fun x=>decide (a.to.w=x.w))then 60 else 0:=by
       rw[zbC,if_neg (by rw[I6,hc];simp)]
      rw[Id]at DW;simp -dsimp only[go_sem,seval,II,Bk,Jj,d0,hz];refine zac (fun h=> ?_) (fun h=> ?_)<;>(try rw[h])<;>(try simp only[zah]at h)<;>(try simp -dsimp only[go_sem,seval,II,DT])
      ·rw[Ai 60 (by decide) (by rw[DW];simp[h])]
      ·have Ke:a.to.w=z.w:=by assumption
       refine zac (fun h=> ?_) (fun h=> ?_)<;>(try rw[h])<;>(try simp only[zah]at h)<;>(try simp -dsimp only[go_sem,seval,II])
       ·rw[Ai 60 (by decide) (by rw[DW];simp[h])]
       ·refine⟨by omega,by simp -dsimp only[go_sem,seval,hw],?_,?_⟩
        ·simp -dsimp only[go_sem,seval];rw[zaf ha];simp
        ·rw[hm,zc6 ha (by rw[DW];simp[h,Ke])]
    ·rw[hc]at BJ;simp -dsimp only[go_sem,seval,II,ha,Bk,BJ,Option.getD_none,Option.getD_some,Option.isSome_none,zG,if_true,if_false];rw[Ai 70 (by decide) (by rw[zbC,if_pos (by rw[hc];simp)])]
   ·have:i=s.set.length:=by omega
    subst this;rw[zel]at hm;rw[hm,if_neg (by simp)]at C3;have hr:zjN p s:=⟨M1,zed (i:=0) (set:=s.set) (by rw[hm])⟩
    have AB:=zsl;have f1:=zlD p t s Ac;have f2:=zm1 p t s Ac hr;have f3:=zlB p t s Ac hr;have f4:=zj4 p t s Ac;have f5:=zlE p t s;have f6:=zlC p t s;have f7:=zhX p t s;have Dn:s.kind=1\/s.kind=2\/s.kind=3\/s.kind=4\/s.kind=5\/s.kind=6\/s.kind=7:=by omega
    rw[C3];clear C3 hm Bk;rcases Dn with k | k | k | k | k | k | k
    all_goals(try(exfalso;simp only[decide_eq_false_iff_not]at e7;omega))
    all_goals(
     simp only[k]at f1 f2 f3 f4 f5 f6 f7;simp -dsimp only[go_sem,seval,AB,k,f1,f2,f3,f4,f5,f6,f7];refine zac (fun h=> ?_) (fun h=> ?_)<;>(try rw[h])<;>(try simp only[zah]at h)<;>(try simp -dsimp only[go_sem,seval])
     all_goals(simp[zbG,k,h])))
end Rg
end
section
namespace Rg
open Go
theorem zrk (p:Prog):IsF (.fn 103 [] [zbx p]) (fun m=>inR m p.modules.length):=by
 refine IsP.isF ⟨by simp[zbx,T.norm],fun n=> ?_⟩;simp only[List.map_cons,List.map_nil,zbx]
 (refine zag Γ103 rfl ?_;dsimp only[f103])
 have h1:=zbR n p.modules.length;simp -dsimp only[go_sem,seval,h1]
def zzB (x:Thread):T:=.ip [.str x.name,ti x.points,.sl (x.asserts.map Expr.enc),ints x.modules,.sl (x.steps.map Step.enc),.sl (x.loops.map Loop.enc),tb x.asleep]
def zuy (l:Loop):T:=.ip [ti l.head,ints l.body,ti l.variant.op,ti l.variant.w,ti l.variant.n,.sl (l.variant.kids.map Expr.enc)]
theorem zrj (x:Thread) (l:Loop):IsF (.fn 106 [] [zzB x,zuy l]) (fun q=>inR q x.points&&decide (q≠l.head)):=by
 refine IsP.isF ⟨by simp[zzB,zuy,T.norm],fun n=> ?_⟩;simp only[List.map_cons,List.map_nil,zzB,zuy]
 (refine zag Γ106 rfl ?_;dsimp only[f106])
 have h1:=zbR n x.points;simp -dsimp only[go_sem,seval,h1]
 repeat'(refine zac (fun h=> ?_) (fun h=> ?_)<;>(try rw[h])<;>(try simp only[zah]at h)<;>(try simp -dsimp only[go_sem,seval]))
 all_goals(simp[*])
theorem zxg (p:Prog) (t:Int) (e:Expr) (pair:Bool):Den Γ G 99 [(zP p),(.agg [.t (ti (e).op),.t (ti (e).w),.t (ti (e).n),.t (.sl ((e).kids.map (Expr.enc)))]),vb pair,.t (.fn 134 [] [zbx p,.ip [.fn 146 [] [zbx p,.ip [ti t]]]])]=some (vb (zaR p e pair t)):=by
 rw[zpS p e pair _ _ (ztY p t),zaR,zbE,zi4]
theorem zus (p:Prog) (t:Int) (e:Expr):Den Γ G 108 [(.agg [.t (ti (e).op),.t (ti (e).w),.t (ti (e).n),.t (.sl ((e).kids.map (Expr.enc)))]),.t (.fn 134 [] [zbx p,.ip [.fn 146 [] [zbx p,.ip [ti t]]]])]=some (vb (zbE p e true t)):=by
 rw[zft e _ _ (ztY p t),zbE,zi4]
def HT (p:Prog) (x:Thread) (n k:Nat) (es:List (T×V)) (h:Nat->Option O) (y:Nat):Prop:=
 h (n+0)=some (.rows 4 [[.t (.sl (p.cells.map Cell.enc)),.t (.sl (p.modules.map Contract.enc)),.t (.sl (p.locks.map Lock.enc)),.t (.sl (p.threads.map Thread.enc))]] false)/\
 h (n+1)=some (.rows 7 [[.t (.str x.name),.t (ti x.points),.t (.sl (x.asserts.map Expr.enc)),.t (ints x.modules),.t (.sl (x.steps.map Step.enc)),.t (.sl (x.loops.map Loop.enc)),.t (tb x.asleep)]] false)/\
 h k=some (.map es)/\n+2<=y
set_option maxHeartbeats 4000000 in
theorem znE (p:Prog) (hs:p.sane) (i:Nat) (x:Thread) (hx:p.threads[i]? =some x) (K7:x.points<2^48) (H:Nat->Option O) (n k:Nat) (EK:k<n) (Bk:H k=some (.map (zjR ((p.threads.take i).map Thread.name)))):
 ∃r h' n',DenR Γ G 83 [(zP p),vi i,(zT x),.mm k] H n=some (r,h',n')/\(n<=n'/\r= .tup [vi (zap p i x).1,vi (zap p i x).2])/\((zap p i x).1=0->h' k=some (.map (zjR ((p.threads.take (i+1)).map Thread.name)))):=by
 have C1:=zL hx;obtain⟨s1,s2,s3,s4,s5⟩:=hs.thr x C1;have hl:=zf2 x.name;have Qr: ¬k=n:=by omega
 have Js:=zsd EK;have Qq:=zn1 EK;have Ct:=fun H' n' Ri=>zkb k x.name ((p.threads.take i).map Thread.name) H' n' Ri
 have A9:((p.threads.take i).map Thread.name).any (fun d=>d.toList==x.name.toList)=(p.threads.take i).any (fun d=>d.name.toList==x.name.toList):=by rw[List.any_map];rfl
 (refine zay Γ83 rfl ?_;dsimp only[f83])
 simp -dsimp only[go_sem,seval,hl];refine zac (fun h=> ?_) (fun h=> ?_)<;>(try rw[h])<;>(try simp only[zah]at h)<;>(try simp -dsimp only[go_sem,seval])
 ·have:zap p i x=(1,-1):=by rw[zap,if_pos (by simp[h])]
  rw[this];exact⟨⟨by simp -dsimp only[go_sem,seval];omega,by simp -dsimp only[go_sem,seval]⟩,fun h0=>by simp at h0⟩
 ·have e1:zbA x.name=true:=by assumption
  refine zas (Ct _ _ (by simp -dsimp only[go_sem,seval,Js,Bk])) ?_;rintro r h' n' ⟨⟨Jt,rfl⟩,es,he,Ey⟩;rw[A9]at Ey;have q1: ¬n+1=k:=by omega
  have q2: ¬n+0=k:=by omega
  have q3: ¬n+0=n+1:=by omega
  have g4:h' (n+0)=some (.rows 4 [[.t (.sl (p.cells.map Cell.enc)),.t (.sl (p.modules.map Contract.enc)),.t (.sl (p.locks.map Lock.enc)),.t (.sl (p.threads.map Thread.enc))]] false):=by
   rw[he];simp -dsimp only[go_sem,seval,q2,q3]
  have g6:h' (n+1)=some (.rows 7 [[.t (.str x.name),.t (ti x.points),.t (.sl (x.asserts.map Expr.enc)),.t (ints x.modules),.t (.sl (x.steps.map Step.enc)),.t (.sl (x.loops.map Loop.enc)),.t (tb x.asleep)]] false):=by
   rw[he];simp -dsimp only[go_sem,seval,q1]
  have gk:h' k=some (.map es):=by rw[he];simp -dsimp only[go_sem,seval]
  clear he;simp -dsimp only[go_sem,seval,A9];refine zac (fun h=> ?_) (fun h=> ?_)<;>(try rw[h])<;>(try simp only[zah]at h)<;>(try simp -dsimp only[go_sem,seval,g6])
  ·have:zap p i x=(41,-1):=by rw[zap,if_neg (by simp[e1]),if_pos h]
   rw[this];exact⟨⟨by simp -dsimp only[go_sem,seval];omega,by simp -dsimp only[go_sem,seval]⟩,fun h0=>by simp at h0⟩
  ·have e2:(p.threads.take i).any (fun d=>d.name.toList==x.name.toList)=false:=by assumption
   rw[Ey e2,show(p.threads.take i).map Thread.name++[x.name]=(p.threads.take (i+1)).map Thread.name from by rw[zaf hx];simp]at gk;clear Ey Ct Bk
   by_cases Fg:x.points<1\/ ¬(x.asserts.length:Int)=x.points\/ ¬(x.modules.length:Int)=x.points
   ·have:zap p i x=(1,-1):=by rw[zap,if_neg (by simp[e1]),if_neg (by simp[e2]),if_pos Fg]
    rw[this]
    repeat'(refine zac (fun h=> ?_) (fun h=> ?_)<;>(try rw[h])<;>(try simp only[zah]at h)<;>(try simp -dsimp only[go_sem,seval,g6]))
    all_goals first
     | (exfalso;omega)
     | exact⟨⟨by simp -dsimp only[go_sem,seval];omega,by simp -dsimp only[go_sem,seval]⟩,fun h0=>by simp at h0⟩
   ·have f1: ¬x.points<1:=by omega
    have f2:(x.asserts.length:Int)=x.points:=by omega
    have f3:(x.modules.length:Int)=x.points:=by omega
    have BG:zap p i x=if !x.modules.all (fun m=>inR m p.modules.length)then(1,-1)
     else if !x.asserts.all (fun e=>zaR p e false i)then(60,-1)
     else if ¬(zco (fun _ s=>zaS p i x.points s) 0 x.steps).1=0 then zco (fun _ s=>zaS p i x.points s) 0 x.steps
     else((zco (fun _ l=>zbp p i x.points l) 0 x.loops).1,-1):=by
     rw[zap,if_neg (by simp[e1]),if_neg (by simp[e2]),if_neg Fg]
    have f2':decide (¬(x.asserts.length:Int)=x.points)=false:=by simp[f2]
    have f3':decide (¬(x.modules.length:Int)=x.points)=false:=by simp[f3]
    have BF:=zeC _ _ (zrk p) x.modules (by omega);simp only[zbx]at BF;simp -dsimp only[go_sem,seval,f1,f2',f3',g6,g4,BF];have IT:=zgn p i;refine zac (fun h=> ?_) (fun h=> ?_)<;>(try rw[h])<;>(try simp only[zah]at h)<;>(try simp -dsimp only[go_sem,seval,g4,IT,g6])
    ·have:zap p i x=(1,-1):=by rw[BG];simp[h]
     rw[this];exact⟨⟨by simp -dsimp only[go_sem,seval];omega,by simp -dsimp only[go_sem,seval]⟩,fun h0=>by simp at h0⟩
    ·rw[h]at BG;simp only[Bool.not_true,zG,if_false]at BG;clear BF h;refine zaq 147429837401600561920 x.asserts.length (fun j f h y=>(f 57).v=vi j/\HT p x n k (zjR ((p.threads.take (i+1)).map Thread.name)) h y/\x.asserts.all (fun e=>zaR p e false i)=(x.asserts.drop j).all (fun e=>zaR p e false i)) rfl ⟨by simp -dsimp only[go_sem,seval],⟨g4,g6,gk,by simp -dsimp only[go_sem,seval];omega⟩,rfl⟩ ?_;clear g4 g6 gk;rintro j f u hh y bs hj ⟨HE,⟨g4,g6,gk,gn⟩,Aa⟩;have hw:=zan j (by omega);simp -dsimp only[go_sem,seval,HE];refine zac (fun h=> ?_) (fun h=> ?_)<;>(try rw[h])<;>(try simp only[zah]at h)<;>(try simp -dsimp only[go_sem,seval,HE])
     ·obtain⟨e,he,_⟩:=zai ‹j<x.asserts.length›;have hb:=zxg p i e false;simp -dsimp only[go_sem,seval,HE,he,g4,hb];refine zac (fun h=> ?_) (fun h=> ?_)<;>(try rw[h])<;>(try simp only[zah]at h)<;>(try simp -dsimp only[go_sem,seval,HE])
      ·have:zap p i x=(60,-1):=by rw[BG,Aa,za6 he h];simp
       rw[this];exact⟨⟨by simp -dsimp only[go_sem,seval];omega,by simp -dsimp only[go_sem,seval]⟩,fun h0=>by simp at h0⟩
      ·refine⟨by omega,by simp -dsimp only[go_sem,seval,hw],⟨by simp -dsimp only[go_sem,seval,g4],by simp -dsimp only[go_sem,seval,g6],by simp -dsimp only[go_sem,seval,gk],by simp -dsimp only[go_sem,seval];omega⟩,?_⟩;rw[Aa,za7 he h]
     ·have:j=x.asserts.length:=by omega
      subst this;rw[zbB]at Aa;rw[Aa]at BG;simp only[Bool.not_true,zG,if_false]at BG;clear Aa HE hw;simp -dsimp only[go_sem,seval,g6];refine zaq 38684445636047416179352320 x.steps.length (fun j f h y=>(f 70).v=vi j/\HT p x n k (zjR ((p.threads.take (i+1)).map Thread.name)) h y/\zco (fun _ s=>zaS p i x.points s) 0 x.steps=zco (fun _ s=>zaS p i x.points s) j (x.steps.drop j)) rfl ⟨by simp -dsimp only[go_sem,seval],⟨by simp -dsimp only[go_sem,seval,g4],by simp -dsimp only[go_sem,seval,g6],by simp -dsimp only[go_sem,seval,gk],by simp -dsimp only[go_sem,seval];omega⟩,rfl⟩ ?_;clear g4 g6 gk;rintro j f u hh y bs hj ⟨Md,⟨g4,g6,gk,gn⟩,hm⟩;have hw:=zan j (by omega);simp -dsimp only[go_sem,seval,Md];refine zac (fun h=> ?_) (fun h=> ?_)<;>(try rw[h])<;>(try simp only[zah]at h)<;>(try simp -dsimp only[go_sem,seval,Md])
      ·obtain⟨s,DW,F3⟩:=zai ‹j<x.steps.length›;have AE:=zrs p i x ⟨by omega,K7⟩ s (hs.sets x C1 s F3);simp -dsimp only[go_sem,seval,Md,DW,g4,g6,AE];refine zac (fun h=> ?_) (fun h=> ?_)<;>(try rw[h])<;>(try simp only[zah]at h)<;>(try simp -dsimp only[go_sem,seval,Md])
       ·have h2:=hm.trans (zcC (f:=fun _ s=>zaS p i x.points s) DW (by simpa using h));have:zap p i x=(zaS p i x.points s,(j:Int)):=by rw[BG,h2,if_pos (by simpa using h)]
        rw[this];exact⟨⟨by simp -dsimp only[go_sem,seval];omega,by simp -dsimp only[go_sem,seval]⟩,fun h0=>absurd h0 h⟩
       ·refine⟨by omega,by simp -dsimp only[go_sem,seval,hw],⟨by simp -dsimp only[go_sem,seval,g4],by simp -dsimp only[go_sem,seval,g6],by simp -dsimp only[go_sem,seval,gk],by simp -dsimp only[go_sem,seval];omega⟩,?_⟩;rw[hm,zc6 DW (by simpa using h)]
      ·have:j=x.steps.length:=by omega
       subst this;rw[zel]at hm;rw[hm,if_neg (by simp)]at BG;clear hm Md hw;simp -dsimp only[go_sem,seval,g6];refine zaq 10633823965969841973409111413518369536 x.loops.length (fun j f h y=>(f 88).v=vi j/\HT p x n k (zjR ((p.threads.take (i+1)).map Thread.name)) h y/\zco (fun _ l=>zbp p i x.points l) 0 x.loops=zco (fun _ l=>zbp p i x.points l) j (x.loops.drop j)) rfl ⟨by simp -dsimp only[go_sem,seval],⟨by simp -dsimp only[go_sem,seval,g4],by simp -dsimp only[go_sem,seval,g6],by simp -dsimp only[go_sem,seval,gk],by simp -dsimp only[go_sem,seval];omega⟩,rfl⟩ ?_;clear g4 g6 gk;rintro j f u hh y bs hj ⟨IH,⟨g4,g6,gk,gn⟩,hm⟩;have hw:=zan j (by omega);simp -dsimp only[go_sem,seval,IH];refine zac (fun h=> ?_) (fun h=> ?_)<;>(try rw[h])<;>(try simp only[zah]at h)<;>(try simp -dsimp only[go_sem,seval,IH])
       ·obtain⟨l,Jy,Hy⟩:=zai ‹j<x.loops.length›;have D4:=hs.loops x C1 l Hy
        have Ai: ∀k':Int,k'≠0->zbp p i x.points l=k'->zap p i x=(k',-1):=fun k' Ah h0=>by
         have h2:=hm.trans (zcC (f:=fun _ l=>zbp p i x.points l) Jy (by rw[h0];exact Ah));rw[BG,h2,h0]
        have Aj:=zbR l.head x.points;have RI:=zgi l.body (by omega);have BF:=zeC _ _ (zrj x l) l.body (by omega);simp only[zzB,zuy]at BF;have hv:=zfS l.variant p.cells false;have De:=zus p i l.variant;have r1: ¬n=y+2:=by omega
        have r2: ∀a b:Nat,¬n+0=y+a+b:=by intros;omega
        have r3: ∀a b:Nat,¬k=y+a+b:=by intros;omega
        simp -dsimp only[go_sem,seval,IH,Jy,g4,g6,r1,r2,Aj];refine zac (fun h=> ?_) (fun h=> ?_)<;>(try rw[h])<;>(try simp only[zah]at h)<;>(try simp -dsimp only[go_sem,seval,IH,r1,r2,g4,g6,RI])
        ·rw[Ai 1 (by decide) (by simp[zbp,h])];exact⟨⟨by simp -dsimp only[go_sem,seval];omega,by simp -dsimp only[go_sem,seval]⟩,fun h0=>by simp at h0⟩
        ·have u1:inR l.head x.points=true:=by assumption
         refine zac (fun h=> ?_) (fun h=> ?_)<;>(try rw[h])<;>(try simp only[zah]at h)<;>(try simp -dsimp only[go_sem,seval,IH,r1,r2,g4,g6,BF])
         ·rw[Ai 1 (by decide) (by simp[zbp,h])];exact⟨⟨by simp -dsimp only[go_sem,seval];omega,by simp -dsimp only[go_sem,seval]⟩,fun h0=>by simp at h0⟩
         ·have u2:zc0 l.body=true:=by assumption
          refine zac (fun h=> ?_) (fun h=> ?_)<;>(try rw[h])<;>(try simp only[zah]at h)<;>(try simp -dsimp only[go_sem,seval,IH,r1,r2,g4,g6,hv])
          ·rw[Ai 1 (by decide) (by rw[zbp,if_pos (by rw[h];simp)])];exact⟨⟨by simp -dsimp only[go_sem,seval];omega,by simp -dsimp only[go_sem,seval]⟩,fun h0=>by simp at h0⟩
          ·have u3:(l.body.all fun q=>inR q x.points&&decide (q≠l.head))=true:=by assumption
           have A5:zbp p i x.points l=if !l.variant.valid p.cells false || !zbE p l.variant true i then 60 else 0:=by
            rw[zbp,if_neg (by rw[u1,u2,u3];simp)]
           refine zac (fun h=> ?_) (fun h=> ?_)<;>(try rw[h])<;>(try simp only[zah]at h)<;>(try simp -dsimp only[go_sem,seval,IH,r1,r2,g4,g6,De])
           ·rw[Ai 60 (by decide) (by rw[A5];simp[h])];exact⟨⟨by simp -dsimp only[go_sem,seval];omega,by simp -dsimp only[go_sem,seval]⟩,fun h0=>by simp at h0⟩
           ·have u4:l.variant.valid p.cells false=true:=by assumption
            refine zac (fun h=> ?_) (fun h=> ?_)<;>(try rw[h])<;>(try simp only[zah]at h)<;>(try simp -dsimp only[go_sem,seval,IH])
            ·rw[Ai 60 (by decide) (by rw[A5];simp[h])];exact⟨⟨by simp -dsimp only[go_sem,seval];omega,by simp -dsimp only[go_sem,seval]⟩,fun h0=>by simp at h0⟩
            ·refine⟨by omega,by simp -dsimp only[go_sem,seval,hw],⟨by simp -dsimp only[go_sem,seval,g4,r2],by simp -dsimp only[go_sem,seval,g6,r1],by simp -dsimp only[go_sem,seval,gk,r3],by simp -dsimp only[go_sem,seval];omega⟩,?_⟩;rw[hm,zc6 Jy (by rw[A5];simp[h,u4])]
       ·have:j=x.loops.length:=by omega
        subst this;rw[zel]at hm;rw[BG,hm];exact⟨⟨by simp -dsimp only[go_sem,seval];omega,by simp -dsimp only[go_sem,seval]⟩,fun _=>by simp -dsimp only[go_sem,seval,gk]⟩
end Rg
end
section
namespace Rg
open Go
@[go_sem]theorem zCG (g:Nat) (c:List T) (K:Nat->List V->List V->Prop) (w:WK K):fnK (some (.t (.fa g c))) K w=K g [.agg (c.map V.t)] []:=rfl
theorem zeV (p:Prog) (hs:p.sane):Den Γ G 64 [(zP p)]=some (.tup [vi (zbM p).1,vi (zbM p).2.1,vi (zbM p).2.2]):=by
 (refine zag Γ64 rfl ?_;dsimp only[f64])
 have h1:=zn4 p hs;simp -dsimp only[go_sem,seval,h1];refine zac (fun h=> ?_) (fun h=> ?_)<;>(try rw[h])<;>(try simp only[zah]at h)<;>(try simp -dsimp only[go_sem,seval])
 ·have h0: ¬(zaV p).1=0:=by simpa using h
  have:zbM p=((zaV p).1,(zaV p).2,-1):=by rw[zbM,if_pos h0]
  rw[this];simp
 ·have h0:(zaV p).1=0:=by simpa using h
  obtain⟨⟨l1,l2,l3,l4⟩,l5⟩:=zal h0
  have AX:zbM p=if ¬zce p=0 then(zce p,-1,-1)else if ¬zbm p=0 then(zbm p,-1,-1)else if ¬zcT p=0 then(zcT p,-1,-1)else zep p 0 p.threads:=by
   rw[zbM,if_neg (by simpa using h0)]
  have c1:=zqT p hs;have c2:=zmQ p hs;have c3:=zqt p hs;refine zaD ?_;simp -dsimp only[go_sem,seval,c1];refine zac (fun h=> ?_) (fun h=> ?_)<;>(try rw[h])<;>(try simp only[zah]at h)<;>(try simp -dsimp only[go_sem,seval])
  ·have:zbM p=(zce p,-1,-1):=by rw[AX,if_pos (by simpa using h)]
   rw[this];simp
  ·have h2:zce p=0:=by simpa using h
   rw[if_neg (by simpa using h2)]at AX;refine zaD ?_;simp -dsimp only[go_sem,seval,c2];refine zac (fun h=> ?_) (fun h=> ?_)<;>(try rw[h])<;>(try simp only[zah]at h)<;>(try simp -dsimp only[go_sem,seval])
   ·have:zbM p=(zbm p,-1,-1):=by rw[AX,if_pos (by simpa using h)]
    rw[this];simp
   ·have h3:zbm p=0:=by simpa using h
    rw[if_neg (by simpa using h3)]at AX;refine zaD ?_;simp -dsimp only[go_sem,seval,c3];refine zac (fun h=> ?_) (fun h=> ?_)<;>(try rw[h])<;>(try simp only[zah]at h)<;>(try simp -dsimp only[go_sem,seval])
    ·have:zbM p=(zcT p,-1,-1):=by rw[AX,if_pos (by simpa using h)]
     rw[this];simp
    ·have h4:zcT p=0:=by simpa using h
     rw[if_neg (by simpa using h4)]at AX;refine zaD ?_;simp -dsimp only[go_sem,seval];refine zaq 73786835557349912604 p.threads.length (fun i f h y=>(f 47).v=vi i/\56<y/\h 56=some (.map (zjR ((p.threads.take i).map Thread.name)))/\zbM p=zep p i (p.threads.drop i)) rfl ⟨by simp -dsimp only[go_sem,seval],by simp -dsimp only[go_sem,seval],by simp -dsimp only[go_sem,seval];rfl,AX⟩ ?_;rintro i f u hh y bs hi ⟨Me,hy,Bk,hm⟩;have hw:=zan i (by omega);simp -dsimp only[go_sem,seval,Me];refine zac (fun h=> ?_) (fun h=> ?_)<;>(try rw[h])<;>(try simp only[zah]at h)<;>(try simp -dsimp only[go_sem,seval,Me])
     ·obtain⟨x,hx,C1⟩:=zai ‹i<p.threads.length›;simp -dsimp only[go_sem,seval,Me,hx];refine zas (znE p hs i x hx (by have:=(l5 x C1).1;omega) hh _ 56 (by omega) Bk) ?_;rintro r h' n' ⟨⟨hn,rfl⟩,hk⟩;simp -dsimp only[go_sem,seval,Me];refine zac (fun h=> ?_) (fun h=> ?_)<;>(try rw[h])<;>(try simp only[zah]at h)<;>(try simp -dsimp only[go_sem,seval,Me])
      ·rw[hm,zoJ hx (by simpa using h)];simp
      ·have Ah:=hk (by simpa using h);refine⟨by omega,by simp -dsimp only[go_sem,seval,hw],by simp -dsimp only[go_sem,seval];omega,by simp -dsimp only[go_sem,seval,Ah],?_⟩;rw[hm,zoK hx (by simpa using h)]
     ·have:i=p.threads.length:=by omega
      subst this;rw[hm,zrl];simp
theorem zHM (h:Nat->Option O) (d:Nat) (l:List Int):(zae l).mapM (fun row=>row.mapM (toT h d))=some (l.map fun n=>[ti n]):=zdJ h d (l.map fun n=>[ti n]) (zbP _)
def zak (p:Prog):Bool:=decide ((zbM p).1=0)
end Rg
end
section
namespace Rg
open Go
structure Config.sane (c:Config):Prop where
 mem:c.mem.length<2^48
 at_:c.at_.length<2^48
 buf:c.buf.length<2^48
end Rg
end
section
namespace Rg
open Go
theorem zaF.cells {h:Nat->Option O} {x:Nat} {v:V} {sz:Nat} {rows:List (List V)} (o:zaF h x v sz rows):v.cells=some [v]:=by
 rcases o with⟨rfl,_⟩ | ⟨k,rfl,_,_⟩<;>rfl
def zcm (p:Prog):Config:=
 if zak p then⟨p.cells.map Cell.init,p.threads.map fun x=>if x.asleep then -1 else 0,p.threads.map fun _=>[]⟩else⟨[],[],[]⟩
end Rg
end
section
-- FULL
namespace Rg
open Go
end Rg
end
section
-- FULL
namespace Rg
open Go
end Rg
end
section
namespace Rg
open Go
end Rg
end
section
namespace Rg
open Go
end Rg
end
section
-- FULL
namespace Rg
open Go
structure Prog.lite (p:Prog):Prop where
 steps: ∀x∈p.threads,x.steps.length<2^50
 cname: ∀c∈p.cells,c.name.size<2^50
 mname: ∀m∈p.modules,m.name.size<2^50/\m.owner.size<2^50
 tname: ∀t∈p.threads,t.name.size<2^50
end Rg
end
section
namespace Rg
open Go
end Rg
end
section
-- FULL
namespace Rg
open Go
end Rg
end
section
-- FULL
namespace Rg
open Go
end Rg
end
section
namespace Rg
open Go
end Rg
end
