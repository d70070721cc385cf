/- Part of the proof of laws of relyguardlaw36. No condition. -/
import Derived.Test.YtaiokglcgiemnaaGreatDoorFartAT
import Derived.Test.YtaiokglcgiemnaaGreatDoorFartAP
import Derived.Test.YtaiokglcgiemnaaGreatDoorFartAR
import Derived.Test.YtaiokglcgiemnaaGreatDoorFartAS
import Derived.Test.YtaiokglcgiemnaaGreatDoorFartAU
import Derived.Test.YtaiokglcgiemnaaGreatDoorFartAO
set_option linter.unusedSimpArgs false
set_option linter.unusedVariables false
set_option linter.defProp false
section
namespace Rg
open Go
theorem Zb (c:RK) (p:Prog) (hs:p.sane) (E:aM p=true) (k:Int) (hk:0<=k/\k<=2) (a:Nat) (h1:1<=a) (h2:a<=20000) (env:Nat->V) (H:ae) (nx:Nat)
 (DA:H c.ky=some (.loop env [11] jT .ready)) (e3:env 3= .mp c.k3 0 0) (e4:env 4= .mp c.k4 0 0) (e5:env 5= .mp c.k5 0 0) (e6:env 6= .mp c.k6 0 0) (e7:env 7= .mp c.k7 0 0)
 (h3:H c.k3=some (.rows 1 [[.mp c.kS 0 0]] false)) (h4:H c.k4=some (.rows 1 [[vi a]] false)) (h5:H c.k5=some (.rows 1 [[.fn 376 [] [.mp c.kL 0 0]]] false)) (h6:H c.k6=some (.rows 1 [[vi 0]] false)) (h7:H c.k7=some (.rows 1 [[vi 0]] false)) (n67:c.k6≠c.k7)
 (J:H c.kSV=some (.rows 1 [[.mp c.kS 0 0]] false)) (hS:H c.kS=some (.rows 6 [[.t (.sl (p.cells.map Cell.enc)),.t (.sl (p.modules.map Contract.enc)),.t (.sl (p.locks.map Lock.enc)),.t (.sl (p.threads.map Thread.enc)),vi k,.t .nils]] false))
 (hL:H c.kL=some (.rows 1 [[.t .nils]] false)) (bd:c.ky<nx/\c.k3<nx/\c.k4<nx/\c.k5<nx/\c.k6<nx/\c.k7<nx/\c.kL<nx/\c.kS<nx/\c.kSV<nx):
 ∃r h' o,DenR Γ G 392 [.yl c.ky,.mp c.kSV 0 0] H nx=some (r,h',o)/\(nx<=o/\
  ((∃l vL,ek p k a=some l/\h' c.ky=some (.loop env [11] jT .ready)/\h' c.k6=some (.rows 1 [[vi 0]] false)/\h' c.k7=some (.rows 1 [[vi 0]] false)/\h' c.kL=some (.rows 1 [[vL]] false)/\aw h' o vL 3 (dH l))\/
   (ek p k a=none/\pe c env h'))):=by
 have AE:=AZ p hs;obtain⟨b1,b2,b3,b4,b5,b6,b7,b8,b9⟩:=bd;have FT:=nQ E k
 refine bO (q:=?_)
 have u1:(c.kSV=nx+1+1)=False:=aI aa;have u2:(c.kSV=nx+1+0)=False:=aI aa;have u3:(c.kSV=nx+0)=False:=aI aa;have u4:(c.kS=nx+1+1)=False:=aI aa;have u5:(c.kS=nx+1+0)=False:=aI aa;have u6:(c.kS=nx+0)=False:=aI aa;simp -dsimp only[go_sem,seval,J,hS,AE,u1,u2,u3,u4,u5,u6];obtain⟨K,hK⟩: ∃K:RK,K= { c with kY:=nx+0,kSe:=nx+1+1,kM:=nx+1+0 }:=⟨_,rfl⟩
 have keyS:K.ky=c.ky/\K.k6=c.k6/\K.k7=c.k7/\K.kL=c.kL/\K.kSV=c.kSV/\K.kS=c.kS/\K.kY=nx+0/\K.kSe=nx+1+1:=by rw[hK];exact⟨rfl,rfl,rfl,rfl,rfl,rfl,rfl,rfl⟩
 obtain⟨t1,t2,t3,t4,t5,Z,t7,t8⟩:=keyS
 have R0: ∀z,nx+1+2<=z->RI K p k a env (updC (updC (updC (updC H (nx+0) (some (O.rows 1 [[V.yl c.ky]] false))) (nx+1+0) (some (O.map []))) (nx+1+1) (some (O.rows 1 [[V.t T.nilm]] false))) (nx+1+1) (some (O.rows 1 [[V.mm (nx+1+0)]] false))) z [] [] (.t .nils) (.t .nils):=fun z hz=>by
  have q: ∀j,j<nx->updC (updC (updC (updC H (nx+0) (some (O.rows 1 [[V.yl c.ky]] false))) (nx+1+0) (some (O.map []))) (nx+1+1) (some (O.rows 1 [[V.t T.nilm]] false))) (nx+1+1) (some (O.rows 1 [[V.mm (nx+1+0)]] false)) j=H j:=fun j hj=>by
   rw[aq,ac aa,aq,ac aa,aq,ac aa,aq,ac aa]
  rw[hK];refine⟨(q _ b1).trans DA,e3,e4,e5,e6,e7,(q _ b2).trans h3,(q _ b3).trans h4,(q _ b4).trans h5,(q _ b5).trans h6,(q _ b6).trans h7,n67,(q _ b9).trans J,?_,?_,?_,(q _ b8).trans hS,.inl ⟨rfl,rfl⟩,(q _ b7).trans hL,.inl ⟨rfl,rfl⟩,?_⟩
  ·show updC _ _ _ (nx+0)=_;rw[aq,ac aa,aq,ac aa,aq,ac aa,aq,ah rfl]
  ·show updC _ _ _ (nx+1+1)=_;rw[aq,ah rfl]
  ·show updC _ _ _ (nx+1+0)=_;rw[aq,ac aa,aq,ac aa,aq,ah rfl];rfl
  ·simp only;omega
 have DE: ∀{H':ae} {A:Nat} {l:List Vis} {w vL:V},RI K p k a env H' A l l w vL-> ∀d:Vis,IsB p d.c->(∀v∈l,IsB p v.c)->l.length<=a->
  ∃r h' o,DenR Γ G 393 [.agg [.t (ints d.c.mem),.t (ints d.c.at_),.t (.sl (d.c.buf.map fun b=>[.sl (b.map Entry.enc)])),vi d.fr,vi d.x.thread,vi d.x.step,vi d.x.cell],.mp (nx+1+1) 0 0,.mp c.kSV 0 0,.mp (nx+0) 0 0] H' A=some (r,h',o)/\(A<=o/\if hW l d.c then r=vb true/\ ∃g e,RI K p k a env h' o l l g e
  else if l.length=a then r=vb false/\pe K env h' else r=vb true/\ ∃g e,RI K p k a env h' o (l++[d]) (l++[d]) g e):=fun R d X Aa hl=>by
  have:=YI E R d X Aa aa;rw[t5,t7,t8]at this;exact this
 have Ai: ∀h':ae,pe K env h'->pe c env h':=fun h' ⟨q1,q2,q3⟩=>⟨t1▸q1,t2▸q2,t3▸q3⟩
 refine be (DE (R0 _ aa) (v0 p) FT.b af af) ?_;rintro r h' o ⟨Jt,n⟩;rw[ac (by simp[hW]),ac (by simp;omega)]at n;obtain⟨rfl,w,vL,R⟩:=n;rw[eG]at R;clear R0;simp -dsimp only[go_sem,seval]
 refine aS 1208925819614629170513760 (a+1) (fun i f h x=>(f 5).v=vi i/\nx<=x/\ ∃(l:List Vis) (w vL:V),RI K p k a env h x l l w vL/\i<=l.length/\1<=l.length/\l.length<=a/\(∀v∈l,IsK p k v.c)/\ek p k a=goV p k a (a+1-i) i l) rfl
  ⟨am,av,[v0 p],w,vL,by simp -dsimp only[go_sem,seval];exact R.le aa,af,af,ak h1,fun v s=>by simp only[bD]at s;subst s;exact FT,rfl⟩ ?_
 clear R;rintro i f u H2 x bs hi ⟨U,ED,l,w,vL,R,g1,g2,g3,g4,g5⟩;have hw:=ay i aa;have r1:=R.hSV;have Y:=R.hS;rw[t5,Z]at r1;rw[Z]at Y;rcases R.oV with⟨_,e1⟩ | ⟨kV,rfl,e2,I⟩
 ·have:=mA l;rw[e1]at this;simp at this;omega
 rw[mA]at R Y
 by_cases Ad:i<l.length
 ·have Af:=aW Ad;obtain⟨v,s,Kg⟩:=au Ad;have F:=g4 v Kg;have Ch:=Jx p hs E k hk v.c F;have Ap:=Q3 s;have i0:(0:Int)<=(i:Int):=aa
  have i1:(i:Int)<(l.length:Int):=aa
  simp -dsimp only[go_sem,seval,U,r1,Y,I,Af,i0,i1,Ap,mA,Ch]
  generalize AL:cw p k v.c=cs at *
  have By:=tZ E (k:=k) F.b;rw[<- rh F,AL]at By;have G8:e_ p k v.c i=cs.map fun x=>⟨(dw p k v.c x).1,i,x⟩:=by rw[e_,AL]
  have N:ek p k a=(jr a l (e_ p k v.c i)).bind fun l'=>goV p k a (a-i) (i+1) l':=by
   rw[g5,show a+1-i=a-i+1 from aa,goV,s]
  refine aS 1208925818488729267865344 cs.length (fun j f h x=>(f 50).v=vi j/\nx<=x/\ ∃(l':List Vis) (w vL:V),RI K p k a env h x l' l' w vL/\l'[i]? =some v/\l'.length<=a/\(∀v∈l',IsK p k v.c)/\jr a l (e_ p k v.c i)=jr a l' ((e_ p k v.c i).drop j)) rfl
   ⟨am,av,l,_,vL,by simp -dsimp only[go_sem,seval];exact R.le aa,s,g3,g4,by rw[il]⟩ ?_
  rintro j f2 u2 H3 x2 bs2 hj ⟨S,Qn,l',g,e,W,D,CE,Q,m⟩;have BO:=ay j aa;have L:=W.hSV;have M:=W.hS;rw[t5,Z]at L;rw[Z]at M
  by_cases AN:j<cs.length
  ·have Ba:=aW AN;obtain⟨y,hy,Eq⟩:=au AN;have Hs:y∈cw p k v.c:=by rw[AL];exact Eq
   have ED:=sK p hs E k hk v.c F y;obtain⟨d,Bt,X⟩:=l0 E F Hs;rw[Bt]at ED
   have Gb:(e_ p k v.c i).drop j=⟨d,i,y⟩::(e_ p k v.c i).drop (j+1):=by
    have:(e_ p k v.c i)[j]? =some ⟨d,i,y⟩:=by rw[G8,zJ,hy];simp[Bt]
    exact iQ this
   rw[Gb,jr,pq]at m;simp -dsimp only[go_sem,seval,S,U,L,M,Ba,hy,ED];refine be (DE (W.le aa) ⟨d,i,y⟩ X.b (fun v s=>(Q v s).b) CE) ?_;rintro r h' o ⟨Jt,n⟩;have AV:=(zH.1 D).1;cases P:hW l' d
   ·rw[ac (by simp only[P];simp)]at n;rw[ac (by simp[P])]at m
    by_cases AC:l'.length=a
    ·rw[ah AC]at n;rw[ah aa,sQ]at m;rw[m,sQ]at N;obtain⟨rfl,Dk⟩:=n;simp -dsimp only[go_sem,seval];exact⟨aa,.inr ⟨N,Ai _ Dk⟩⟩
    ·rw[ac AC]at n;rw[ac aa,zD]at m;obtain⟨rfl,C,B,R2⟩:=n;simp -dsimp only[go_sem,seval,S];refine⟨aa,al BO,av,l'++ [⟨d,i,y⟩],C,B,by simp -dsimp only[go_sem,seval];exact R2.le aa,?_,by rw[zM,fR];omega,fun v' D=> ?_,m⟩
     ·rw[bR AV];exact D
     ·rcases cA.1 D with h | h
      ·exact Q v' h
      ·rw[bD]at h;subst h;exact X
   ·rw[ah (by simp only[P])]at n;rw[ah (by simp only[P]),zD]at m;obtain⟨rfl,C,B,R2⟩:=n;simp -dsimp only[go_sem,seval,S];exact⟨aa,al BO,av,l',C,B,by simp -dsimp only[go_sem,seval];exact R2.le aa,D,CE,Q,m⟩
  ·have Ba:=aI AN;have:j=cs.length:=aa
   subst this;rw[show(e_ p k v.c i).drop cs.length=[]from oH (by rw[G8,cO];omega),jr]at m;rw[m,zD]at N;have AV:=(zH.1 D).1;simp -dsimp only[go_sem,seval,S,U,Ba];exact⟨aa,al hw,av,l',g,e,by simp -dsimp only[go_sem,seval];exact W.le aa,aa,aa,CE,Q,by rw[N,show a+1-(i+1)=a-i by omega]⟩
 ·have Af:=aI Ad
  have hb:ek p k a=some l:=by
   rw[g5]
   cases a+1-i with
   | zero=>rfl
   | succ f=>rw[goV,gt aa]
  simp -dsimp only[go_sem,seval,U,r1,Y,I,Af,mA];refine⟨av,.inl ⟨l,vL,hb,?_,?_,?_,?_,?_⟩⟩
  ·rw[<- t1];exact R.hk
  ·rw[<- t2];exact R.h6
  ·rw[<- t3];exact R.h7
  ·rw[<- t4];exact R.hL
  ·simp -dsimp only[go_sem,seval];exact R.oL.le aa
theorem ZR (a:Nat) (H:ae) (n:Nat): ∃r h' b,DenR Γ G 386 [.mp a 0 0] H n=some (r,h',b)/\(r= .fn 392 [] [.mp n 0 0]/\h'=updC H n (some (.rows 1 [[.mp a 0 0]] false))/\n<b):=by
 refine bO (q:=aE ?_);refine⟨rfl,by simp -dsimp only[go_sem,seval];rfl,av⟩
theorem YL (p:Prog) (S:p.sane) (N:aM p=true) (k:Int) (R:0<=k/\k<=2) (c:Nat) (J:1<=c) (K:c<=20000) (f g:Nat) (H:ae) (nx:Nat)
 (M:H f=some (.rows 6 [[.t (.sl (p.cells.map Cell.enc)),.t (.sl (p.modules.map Contract.enc)),.t (.sl (p.locks.map Lock.enc)),.t (.sl (p.threads.map Thread.enc)),vi k,.t .nils]] false))
 (L:H g=some (.rows 1 [[.t .nils]] false)) (bS:f<nx) (bL:g<nx):
 ∃r h' d,DenR Γ G 375 [.mp f 0 0,vi c,.fn 376 [] [.mp g 0 0]] H nx=some (r,h',d)/\
  ((∃l vL,ek p k c=some l/\r= .tup [vi 0,vi 4]/\h' g=some (.rows 1 [[vL]] false)/\aw h' d vL 3 (dH l))\/(ek p k c=none/\r= .tup [vi 0,vi 2])):=by
 have u: ∀a b:Nat,a≠b->(nx+a=nx+b)=False:=fun a b h=>aI aa
 have D:=u 0 4 aG;have E:=u 0 3 aG;have F:=u 0 2 aG;have I:=u 0 1 aG
 refine bO (q:=?_)
 simp -dsimp only[go_sem,seval,D,E,F,I];refine be (ZR f _ _) ?_;rintro r h' d ⟨rfl,rfl,v⟩;simp -dsimp only[go_sem,seval]
 refine yU (P:=fun e h' n=>nx+5+2<d/\d+1<=n/\((e= .normal/\ ∃l vL,ek p k c=some l/\(∀rs,h' d≠some (.rows 3 rs false))/\h' (nx+3)=some (.rows 1 [[vi 0]] false)/\h' (nx+4)=some (.rows 1 [[vi 0]] false)/\h' g=some (.rows 1 [[vL]] false)/\aw h' n vL 3 (dH l))\/
  (e= .ret/\ek p k c=none/\h' (nx+3)=some (.rows 1 [[vi 0]] false)/\h' (nx+4)=some (.rows 1 [[vi 2]] false)))) ?_ ?_
 ·have Q:=Zb ⟨d,nx+0,nx+1,nx+2,nx+3,nx+4,g,f,nx+5+2,0,0,0⟩ p S N k R c J K (envC (updC (updC (begC (updC (updC (updC (updC (updC (begC (slotsC [V.mp f 0 0,vi c,V.fn 376 [] [V.mp g 0 0]] 0)) 3 ⟨V.mp (nx+0) 0 0,none,none⟩) 4 ⟨V.mp (nx+1) 0 0,none,none⟩) 5 ⟨V.mp (nx+2) 0 0,none,none⟩) 6 ⟨V.mp (nx+3) 0 0,none,none⟩) 7 ⟨V.mp (nx+4) 0 0,none,none⟩)) 9 ⟨V.mp f 0 0,none,none⟩) 10 ⟨V.fn 392 [] [V.mp (nx+5+2) 0 0],none,none⟩))
   (updC (updC (updC (updC (updC (updC (updC H (nx+0) (some (O.rows 1 [[V.mp f 0 0]] false))) (nx+1) (some (O.rows 1 [[vi c]] false))) (nx+2) (some (O.rows 1 [[V.fn 376 [] [V.mp g 0 0]]] false))) (nx+3) (some (O.rows 1 [[vi 0]] false))) (nx+4) (some (O.rows 1 [[vi 0]] false))) (nx+5+2) (some (O.rows 1 [[V.mp f 0 0]] false))) d (some (O.loop _ [11] jT LSt.ready))) (d+1)
   (by rw[aq,ah rfl]) am am am am am
   (by simp only[aq];repeat(first | rw[ac aa] | rw[ah (by trivial)])) (by simp only[aq];repeat(first | rw[ac aa] | rw[ah (by trivial)])) (by simp only[aq];repeat(first | rw[ac aa] | rw[ah (by trivial)]))
   (by simp only[aq];repeat(first | rw[ac aa] | rw[ah (by trivial)])) (by simp only[aq];repeat(first | rw[ac aa] | rw[ah (by trivial)])) af
   (by simp only[aq];repeat(first | rw[ac aa] | rw[ah (by trivial)])) (by simp only[aq];(repeat(first | rw[ac aa] | rw[ah (by trivial)]));exact M) (by simp only[aq];(repeat(first | rw[ac aa] | rw[ah (by trivial)]));exact L) (by simp only;omega)
  obtain⟨r,h',n,o,m,⟨l,vL,i,s,j,y,X,Y⟩ | ⟨i,s,j,y⟩⟩:=Q
  ·exact⟨r,h',n,o,_,_,_,_,_,s,rfl,v,m,.inl ⟨rfl,l,vL,i,(fun rs e=>by rw[show h' d=some _ from s]at e;cases e),j,y,X,Y⟩⟩
  ·exact⟨r,h',n,o,_,_,_,_,_,s,rfl,v,m,.inr ⟨rfl,i,j,y⟩⟩
 ·rintro e h' n ⟨v,Z,⟨rfl,l,vL,o,W,m,i,s,j⟩ | ⟨rfl,o,m,i⟩⟩
  ·have w:(nx+3=d)=False:=aI aa;have x:(nx+4=d)=False:=aI aa;have T:(nx+4=nx+3)=False:=aI aa;have U:(nx+3=nx+4)=False:=aI aa;simp -dsimp only[go_sem,seval,m,i,w,x,T,U];refine .inl ⟨l,vL,o,rfl,?_,?_⟩
   ·simp only[cB,bE,aq];rw[ac aa,ac aa,ac aa];exact s
   ·refine j.keep (by simp[nD]) fun q r1 z=> ?_
    have A:q≠d:=by rintro rfl;exact z (j.offAt W)
    have B:q≠nx+3:=by rintro rfl;exact z (j.offAt fun rs e=>by rw[m]at e;cases e)
    have C:q≠nx+4:=by rintro rfl;exact z (j.offAt fun rs e=>by rw[i]at e;cases e)
    simp only[cB,bE,aq];rw[ac C,ac B,ac A]
  ·have w:(nx+3=d)=False:=aI aa;have x:(nx+4=d)=False:=aI aa;simp -dsimp only[go_sem,seval,m,i,w,x];exact .inr ⟨o,rfl⟩
theorem XR (p:Prog) (g:p.sane) (f:aM p=true) (k:Int) (j:0<=k/\k<=2) (a:Nat) (h:1<=a) (i:a<=20000):Den Γ G 374 [(zP p),vi k,vi a]=some (vb true):=by
 have b:Den Γ G 385 [(zP p)]=some (vb true):=by
  have b:=tz p g;have e:(dj p).1=0:=by simpa[aM]using f
  exact aB (q:=bh b e)
 have c:(a:Int)>=1:=aa
 have d:(a:Int)<=20000:=aa
 refine aB (q:=?_)
 rcases(show k=0\/k=1\/k=2 from aa)with rfl | rfl | rfl
 ·exact dx b c d
 ·exact dx b c d
 ·exact dx b c d
theorem WZ (p:Prog) (j:p.sane) (h:aM p=true) (k:Int) (i:0<=k/\k<=2) (a:Nat) (f:1<=a) (g:a<=20000):
 Den Γ G 360 [(zP p),vi k,vi a]=some (match ek p k a with
  | some l=> .tup [.t (.sl (l.map fun v=>Config.enc v.c)),vi 0]
  | none=> .tup [.t (.sl []),vi 2]):=by
 have o:=XR p j h k i a f g
 have d: ∀l:List Vis,∀e∈l.map (fun v=>Config.enc v.c),∀t∈e,T.norm t=t:=by
  intro l e u t b;obtain⟨v,-,rfl⟩:=cv.1 u;simp only[Config.enc,cj,ki,dV]at b;rcases b with rfl | rfl | rfl<;>rfl
 refine aB (q:=aC o ?_);refine be (YL p j h k i a f g 12 8 _ _ am am aa aa) ?_;rintro r h' A (⟨l,vL,c,rfl,m,n⟩ | ⟨c,rfl⟩)
 ·have b:=i8 (es:=l.map fun v:Vis=>Config.enc v.c) n (d l);rw[c];rcases n with⟨rfl,q⟩ | ⟨z,rfl,y,s⟩
  ·have w:l=[]:=by simpa[dH]using q
   subst w;exact al m
   done
  ·have x:(dH l).mapM (fun row=>row.mapM (toT h' 999))=some (l.map fun v=>Config.enc v.c):=mC h' 999 (l.map fun v:Vis=>Config.enc v.c) (d l);refine aR m s ?_;rw[ah (ax _),bc];simp only[zD];rw[x];rfl
 ·rw[c];exact am
  done
theorem Zv {l:List Int} (h:fY l=true):l.Pairwise (· < ·):=by
 have c: ∀i,i+1<l.length->l.getD i 0<l.getD (i+1) 0:=fun i hi=>by
  unfold fY at h;simp only[zN,dT,aQ]at h;exact h i aa
 have e: ∀d i,i+d+1<l.length->l.getD i 0<l.getD (i+d+1) 0:=by
  intro d
  induction d with
  | zero=>exact fun i hi=>c i hi
  | succ d g=>intro i hi;have a:=g i aa;have b:=c (i+d+1) aa;rw[show i+(d+1)+1=i+d+1+1 by omega];omega
 rw[qr];intro i j hi f m;have:=e (j-i-1) i aa;rw[show i+(j-i-1)+1=j by omega]at this;simpa[zK,zI hi,zI f]using this
theorem R_ {p:Prog} (a:aM p=true) {t j:Nat} {x:Thread} {l:Loop} (b:p.threads[t]? =some x) (g:x.loops[j]? =some l):l.body.length<=48:=by
 have i:=uN.1 (show p.ok by simpa[aM]using a);obtain⟨_,_,⟨o,q,_⟩,_,r,_,e⟩:=JG.1 (i.threads t x b);obtain⟨⟨m,c,d⟩,n,_⟩:=Le.1 (e j l g);have s:=(mw a).2.2 x (zL b);refine up 48 _ ((Zv c).imp fun h=>aa) fun k f=> ?_
 have:=zN.1 d k f;simp only[inR,zF,aQ]at this;have:=this.1;exact⟨this.1,aa⟩
set_option maxHeartbeats 4000000 in
theorem z7 (p:Prog) (J:p.sane) (r:aM p=true) (k:Int) (hk:0<=k/\k<=2) {t j:Nat} {x:Thread} {l:Loop} (v:p.threads[t]? =some x) (w:x.loops[j]? =some l)
 (c:List Choice) (Ac:c.length<=120) (Bm:okN p k (bz p) c=true):
 Den Γ G 341 [(zP p),vi k,.t (.sl (c.map Choice.enc)),vi t,vi j]=some (.tup [vi (itM (nxK p k) t l (bz p) c).best,vi 0]):=by
 have X:=AZ p J;have Y:=wx p J r v w;have Z:=NU k hk;have D4:=R_ r v w;have Aj:=fun a=>KC l aa a
 have O:=nQ r k;have K:t<p.threads.length:=(zH.1 v).1;have Q: ¬((c.length:Int)>120):=aa
 obtain⟨T,D,_⟩:=au (show t<(bz p).at_.length by rw[O.b.la];exact K);have Or:atI (bz p).at_ t=T:=jp (ak D);have Bb:(c.map Choice.enc).length=c.length:=af
 refine aB (q:=?_)
 by_cases I:T=l.head
 case' pos=>simp -dsimp only[go_sem,seval,X,Y,Z,v,w,Q,D,I]
 case' neg=>simp -dsimp only[go_sem,seval,X,Y,Z,v,w,Q,D,I]
 all_goals
  refine aZ 41538374868278620992215173616823296 c.length (fun i f=>(f 55).v=vi i/\ ∃s:It,s=itM (nxK p k) t l (bz p) (c.take i)/\IsK p k s.c/\okN p k s.c (c.drop i)=true/\(f 13).v= .lb/\(f 13).box=some [.t (ints s.c.mem),.t (ints s.c.at_),.t (.sl (s.c.buf.map (fun b=>[.sl (b.map Entry.enc)])))]/\
   (f 14).v=vi s.best/\(f 15).v=vi s.arr/\0<=s.best/\s.best<=i+1/\0<=s.arr/\s.arr<=i+1) rfl rfl
   ⟨am,it0 t l (bz p),rfl,O,Bm,am,al @it0.eq_1,al @it0.eq_1,dx @it0.eq_1 Or I,by simp[it0],by simp[it0],by simp only[it0];split<;>omega,by simp only[it0];split<;>omega⟩ ?_
  rintro i f u kk bb hi ⟨S,s,F,E,q,U,b2,V,W,c1,c2,c3,c4⟩;have hw:=ay i aa
  by_cases B:i<c.length
  ·have C:=aW B;obtain⟨y,L,Eq⟩:=au B;rw[iQ L,okN,zF,aQ]at q;obtain⟨Hs,q⟩:=q;obtain⟨d,M,hd⟩:=l0 r E Hs;have N:=sK p J r k hk s.c E y;rw[M]at N;have P:nxK p k s.c y=d:=by unfold nxK;rw[M]
   rw[P]at q;obtain⟨a,ha,_⟩:=au (show t<s.c.at_.length by rw[E.b.la];exact K);obtain⟨g,hb,_⟩:=au (show t<d.at_.length by rw[hd.b.la];exact K);have LV:atI s.c.at_ t=a:=jp (ak ha);have Fv:atI d.at_ t=g:=jp (ak hb);have C6:itM (nxK p k) t l (bz p) (c.take (i+1))=itS (nxK p k) t l s y:=by rw[a8 L,kbt,<- F]
   have R:=Aj g;have hS:itS (nxK p k) t l s y=s.see l d g (cg t y||decide (a= -1)):=by simp only[itS,P,LV,Fv]
   have PI:IntKind.i64.wrap (s.arr+1)=s.arr+1:=bt aa;have MO:IntKind.i64.wrap (s.arr+1-1)=s.arr+1-1:=bt aa;have FQ:IntKind.i64.wrap (s.arr-1)=s.arr-1:=bt aa;have MM:IntKind.i64.wrap (0-1)=0-1:=bt aa
   have H: ∀mv,(cg t y||decide (a= -1))=mv-> ∀(e:Nat->Slot) ,(e 55).v=vi (i+1:Nat)->(e 13).v= .lb->(e 13).box=some [.t (ints d.mem),.t (ints d.at_),.t (.sl (d.buf.map (fun b=>[.sl (b.map Entry.enc)])))]->
    (e 14).v=vi (s.see l d g mv).best->(e 15).v=vi (s.see l d g mv).arr->(e 55).v=vi (i+1:Nat)/\ ∃s:It,s=itM (nxK p k) t l (bz p) (c.take (i+1))/\IsK p k s.c/\okN p k s.c (c.drop (i+1))=true/\(e 13).v= .lb/\(e 13).box=some [.t (ints s.c.mem),.t (ints s.c.at_),.t (.sl (s.c.buf.map (fun b=>[.sl (b.map Entry.enc)])))]/\
   (e 14).v=vi s.best/\(e 15).v=vi s.arr/\0<=s.best/\s.best<=(i+1:Nat)+1/\0<=s.arr/\s.arr<=(i+1:Nat)+1:=by
     intro mv z e g1 g2 g3 g4 g5;refine⟨g1,s.see l d g mv,by rw[C6,hS,z],hd,q,g2,g3,g4,g5,?_,?_,?_,?_⟩<;>simp only[It.see]<;>repeat' split
     all_goals omega
   have h5:((cg t y||decide (a= -1))=true/\(((y.thread=t)=True/\(y.step= -1)=False/\True)\/((y.thread=t)=False/\True/\(a= -1)=True)\/((y.thread=t)=True/\(y.step= -1)=True/\(a= -1)=True)))\/
    ((cg t y||decide (a= -1))=false/\(((y.thread=t)=False/\True/\(a= -1)=False)\/((y.thread=t)=True/\(y.step= -1)=True/\(a= -1)=False))):=by
    by_cases h:y.thread=t<;>by_cases m:y.step= -1<;>by_cases n:a= -1<;>simp[cg,h,m,n]
   rcases h5 with⟨z,⟨h,m,n⟩ | ⟨h,m,n⟩ | ⟨h,m,n⟩⟩ | ⟨z,⟨h,m,n⟩ | ⟨h,m,n⟩⟩
   all_goals
    cases A:dq l g<;>rw[A]at R
    case' false=>have o:=trivial
    case' true=>
     rcases Decidable.em (g=l.head)with o | o
     case' inl=>have o:=aW o
    all_goals
     simp -dsimp only[go_sem,seval,S,C,L,U,b2,V,W,N,ha,hb,R,h,m,n,o,PI,MO,FQ,MM];exact⟨aa,H _ z _ (al hw) (al U) am (by simp -dsimp only[go_sem,seval,It.see,A,o,jt,pU,sH,q9,im,iA,lB,zG,aX,aT]) (by simp -dsimp only[go_sem,seval,W,It.see,A,o,jt,pU,sH,q9,im,iA,lB,zG,aX,aT])⟩
  ·have C:=aI B;have:i=c.length:=aa
   subst this;rw[bc]at F;simp -dsimp only[go_sem,seval,S,C,V];rw[F]
theorem XU {n:Nat} {P:Nat->Prop} [DecidablePred P]:(∃i,i<n/\P i/\ ∀j,j<i-> ¬P j)\/ ∀j,j<n-> ¬P j:=by
 induction n with
 | zero=>exact .inr fun j c=>aa
 | succ n d=>
   rcases d with⟨i,f,a,b⟩ | h
   ·exact .inl ⟨i,aa,a,b⟩
   ·by_cases hp:P n
    ·exact .inl ⟨n,aa,hp,h⟩
    ·exact .inr fun j c=>by
      by_cases e:j=n
      ·rw[e];exact hp
      ·exact h j aa
def fO (l:List Vis) (t:Nat) (lp:Loop) (i:Nat):Bool:=decide (i<l.length)&&i7 l t lp i
def fN (p:Prog) (k:Int) (l:List Vis) (t:Nat) (lp:Loop) (u:Nat):List (Nat×Choice):=fP (bM p k l) (fO l t lp) t u (bM p k l (u/ 2))
def iO (p:Prog) (k:Int) (l:List Vis) (t:Nat) (lp:Loop) (i:Nat):Prop:=atI (bH l i).at_ t=lp.head/\Cyc (bM p k l) (fO l t lp) t i
theorem zw (p:Prog) (hs:p.sane) (J:aM p=true) (k:Int) (hk:0<=k/\k<=2) {t j:Nat} {th:Thread} {lp:Loop} (S:p.threads[t]? =some th) (Ef:th.loops[j]? =some lp) (c:Nat) (h1:1<=c) (h2:c<=10000):
 (ek p k c=none/\Den Γ G 343 [(zP p),vi k,vi t,vi j,vi c]=some (.tup [.t (.sl []),.t (.sl []),vi 2]))\/
 ∃l,ek p k c=some l/\
  ((∃i,i<l.length/\iO p k l t lp i/\(∀m,m<i-> ¬iO p k l t lp m)/\
    Den Γ G 343 [(zP p),vi k,vi t,vi j,vi c]=some (.tup [.t (.sl ((dB (bM p k l) l.length 0 i).map Choice.enc)),.t (.sl ((dB (fN p k l t lp) (2*l.length) (2*i) (2*i+1)).map Choice.enc)),vi 0]))\/
  ((∀i,i<l.length-> ¬iO p k l t lp i)/\
    Den Γ G 343 [(zP p),vi k,vi t,vi j,vi c]=some (.tup [.t (.sl []),.t (.sl []),vi 4]))):=by
 have Y:=wx p hs J S Ef;have EK:=NU k hk;have U:=WZ p hs J k hk c h1 aa;have AO:((c:Int)<1)=False:=aI aa
 cases hb:ek p k c with
 | none=>
   refine .inl ⟨rfl,?_⟩;rw[hb]at U
   refine aB (q:=?_)
   simp -dsimp only[go_sem,seval,Y,EK,AO,U]
   done
 | some l=>
   refine .inr ⟨l,rfl,?_⟩;rw[hb]at U;simp only at U;obtain⟨hV,FZ⟩:=Pq J h1 hb
   have Z: ∀R:V,((∃i,i<l.length/\iO p k l t lp i/\(∀m,m<i-> ¬iO p k l t lp m)/\
    R= .tup [.t (.sl ((dB (bM p k l) l.length 0 i).map Choice.enc)),.t (.sl ((dB (fN p k l t lp) (2*l.length) (2*i) (2*i+1)).map Choice.enc)),vi 0])\/((∀i,i<l.length-> ¬iO p k l t lp i)/\R= .tup [.t (.sl []),.t (.sl []),vi 4]))->
    Den Γ G 343 [(zP p),vi k,vi t,vi j,vi c]=some R:=by
    intro R hR;have D4:=R_ J S Ef;have Aj:=fun a=>KC lp aa a
    refine aB (q:=?_)
    simp -dsimp only[go_sem,seval,Y,EK,AO,U,S,Ef];refine be (Yk p hs J k hk l hV aa _ _) ?_;rintro r h' n' ⟨A,Q,vs,rfl,hG,Rj,C⟩;simp -dsimp only[go_sem,seval,hG];have Ro:Q≠A:=by rintro rfl;have:=C.e;rw[hG]at this;simp at this
    have Fn:0<l.length:=(zH.1 hV.z).1
    refine aS 38685607780924059881177088 l.length (fun i f K z=>(f 64).v=vi i/\ ∃vI,K A=some (.rows 3 [[.ms Q 0 l.length,vI,vi t]] false)/\aw K z vI 1 (cI (i7 l t lp) i)/\n'<=z/\(∀q,q<n'->q≠A->K q=h' q)/\ ∀q,q<n'->aJ vI q) rfl
     ⟨am,.t .nils,by simp -dsimp only[go_sem,seval];try rfl,.inl ⟨rfl,rfl⟩,av,fun q _ B=>al B,fun q _ i n e=>by cases e⟩ ?_
    rintro i f u' K z bs hi ⟨HC,vI,e1,hO,P1,BY,Bn⟩;have BF:=ay i aa
    by_cases d:i<l.length
    ·have o:=aW d;have D:=zI d;have hc:=iB D;have NC:=(pv hV d).b.la;have Dd:t<p.threads.length:=(zH.1 S).1;obtain⟨w,s,_⟩:=au (show t<(bH l i).at_.length by rw[NC];exact Dd);have Bj:atI (bH l i).at_ t=w:=jp (ak s);have GO:i7 l t lp i=dq lp w:=by rw[i7,Bj]
     rw[hc]at s;have Dq:=Aj w;have v1:=hO.valOf;simp -dsimp only[go_sem,seval,HC,o,D,Config.enc,e1,s,Dq,v1,(fun b=>(hO.upd (q:=z+1+4+12) aa b).rowsS: ∀b,_)];refine bY (hO.upd (q:=z+1+4+12) aa _) aa (by rw[fg];omega) aG rfl (by simp[cI]) ?_;intro vI' hp hP Cv AF;have x1:=hP.valOf;have x2:=hP.cellsV;unfold V.cells at x2;have y1:=AF A aa (Bn A Rj);rw[aq,ac aa,e1]at y1;simp -dsimp only[go_sem,seval,x1,x2,y1,HC]
     have BM:cI (i7 l t lp) (i+1)=cI (i7 l t lp) i++[[vb (dq lp w)]]:=by
      rw[cI,sU,d7,<- cI,<- GO];rfl
     refine⟨aa,bh HC BF,vI',al y1,?_,av,fun q B Az=> ?_,fun q B=>Cv q aa⟩
     ·simp -dsimp only[go_sem,seval,y1];rw[BM];refine aw.keep (h:=At (updC K (z+1+4+12) (some (O.rows 1 [[V.t (T.bool (dq lp w))]] false))) hp) hP aa fun q q1 q2=> ?_
      have:q≠A:=by rintro rfl;exact q2 (Cv _ aa)
      simp -dsimp only[go_sem,seval,this]
     ·simp -dsimp only[go_sem,seval,Az];rw[AF q aa (Bn q B),aq,ac aa];exact BY q B Az
    ·have o:=aI d;have:i=l.length:=aa
     subst this;simp -dsimp only[go_sem,seval,HC,o];rcases hO with⟨_,e0⟩ | ⟨kI,rfl,QZ,IG⟩
     ·have:l.length=0:=by rw[<- fg (i7 l t lp) l.length,e0];rfl
      omega
     rw[fg]at e1
     have O8:cI (i7 l t lp) l.length=cI (fO l t lp) l.length:=by
      refine rB fun i hi=> ?_
      simp[fO,dT.1 hi]
     rw[O8]at IG
     have F:GrfH K z A Q kI vs l.length (bM p k l) (fO l t lp) t:=by
      refine⟨e1,(BY Q C.lt Ro).trans C.e,IG,⟨aa,by have:=C.lt;omega,QZ⟩,by rw[C.len];simp,fun i v Y=> ?_,fun i hi=> ?_,fun i hi y hy=>qZ hV hi y hy,aa,fun i hi=> ?_⟩
      ·have d:=(zH.1 Y).1;rw[C.len,cO,p7]at d;have ho:=C.own i v _ Y (by rw[zJ,jv d];rfl);refine ho.keep P1 fun q q1 q2=>BY q q1 ?_
       rintro rfl;exact q2 (ho.offAt fun rs e=>by rw[hG]at e;simp at e)
      ·rw[bM,cO];exact I' J (pv hV hi).b
      ·simp only[fO,zF,aQ]at hi;exact hi.1
     refine be (Xc (F.keep aa fun q _=>rfl)) ?_;rintro r h2 n2 ⟨good,Df,FD,Fh,AF⟩;have v2:=Df.valOf;have T2:=F.keep (show z<=n2 from aa) fun q B=>AF q aa
     simp -dsimp only[go_sem,seval,v2]
     refine aS 340282366920319493443731917294320229376 l.length (fun i f hy y=>(f 89).v=vi i/\(∀m,m<i-> ¬iO p k l t lp m)/\n2<=y/\ ∀q,q<n2->hy q=h2 q) rfl
      ⟨am,fun m AK=>aa,av,fun q _=>rfl⟩ ?_
     rintro i f u' hy y bs hi ⟨MC,Ms,P9,DA⟩;have BF:=ay i aa;have T3:=T2.keep P9 DA
     by_cases d:i<l.length
     ·have o:=aW d;have D:=zI d;have hc:=iB D;have NC:=(pv hV d).b.la;have Dd:t<p.threads.length:=(zH.1 S).1;obtain⟨w,s,_⟩:=au (show t<(bH l i).at_.length by rw[NC];exact Dd);have Bj:atI (bH l i).at_ t=w:=jp (ak s);rw[hc]at s;have J1:iO p k l t lp i<->w=lp.head/\good i=true:=by rw[iO,Bj,FD i d]
      rcases Df with⟨_,e0⟩ | ⟨kg,hr,L9,GS⟩
      ·have:l.length=0:=by rw[<- fg good l.length,e0];rfl
       omega
      rw[fg]at hr;subst hr;have Pn:=(DA kg L9).trans GS;have Pl:=mD good d
      by_cases M6:w=lp.head
      ·have Ig:=aW M6;cases I8:good i
       ·simp -dsimp only[go_sem,seval,MC,o,D,Config.enc,s,Ig,Pn,fg,Pl,I8];refine⟨aa,al BF,fun m AK=> ?_,av,DA⟩
        by_cases e:m=i
        ·subst e;rw[J1,I8];simp
        ·exact Ms m aa
       ·simp -dsimp only[go_sem,seval,MC,o,D,Config.enc,s,Ig,Pn,fg,Pl,I8];have Rn:wP 364 A Q kI vs l.length (bM p k l) (fO l t lp) t l.length (bM p k l):=fun h x u T E=>W8 T E
        have Rl:wP 365 A Q kI vs l.length (bM p k l) (fO l t lp) t (2*l.length) (fN p k l t lp):=fun h x u T E=>Xo T E
        have QU: ∀u,u<l.length->(bM p k l u).length<=268/\ ∀e∈bM p k l u,e.1<l.length:=fun u E=>⟨F.small u E,F.to u E⟩
        have Ge: ∀u,u<2*l.length->(fN p k l t lp u).length<=268/\ ∀e∈fN p k l t lp u,e.1<2*l.length:=fun u E=>by
         have IU:u/ 2<l.length:=aa
         refine⟨?_,fun e he=> ?_⟩
         ·rw[fN,fP,cO];exact cT (ku _ _) (F.small _ IU)
         ·obtain⟨e',h',rfl⟩:=cv.1 he;have:=F.to _ IU e' (ge.1 h').1;simp only;split<;>omega
        have m1:IntKind.i64.wrap (2*(i:Int))=((2*i:Nat):Int):=kT aa aa;have m2:IntKind.i64.wrap (((2*i:Nat):Int)+1)=((2*i+1:Nat):Int):=kT aa aa;have m3:IntKind.i64.wrap (2*(l.length:Int))=((2*l.length:Nat):Int):=kT aa aa;refine be (Ou (T3.keep aa fun q _=>rfl) Rn QU aa Fn d) ?_;rintro r4 h4 n4 ⟨Gf,Qt,GN⟩;have v4:=Gf.valOf;simp -dsimp only[go_sem,seval,m1,m2,m3];refine be (Ou (T3.keep aa fun q B=>GN q aa) Rl Ge aa (fr:=2*i) (to:=2*i+1) aa aa) ?_;rintro r5 I n5 ⟨W,Qs,Ko⟩;have v5:=W.valOf;have JX:aw I n5 r4 3 (bf (dB (bM p k l) l.length 0 i)):=Gf.keep aa fun q B _=>Ko q aa
        have t4:toT I 1000 r4=_:=i8 (es:=(dB (bM p k l) l.length 0 i).map Choice.enc) JX (mS _);have t5:toT I 1000 r5=_:=i8 (es:=(dB (fN p k l t lp) (2*l.length) (2*i) (2*i+1)).map Choice.enc) W (mS _)
        have QT:R= .tup [.t (.sl ((dB (bM p k l) l.length 0 i).map Choice.enc)),.t (.sl ((dB (fN p k l t lp) (2*l.length) (2*i) (2*i+1)).map Choice.enc)),vi 0]:=by
         have Kn:iO p k l t lp i:=J1.2 ⟨M6,I8⟩;rcases hR with⟨i0,X,H,g3,g4⟩ | ⟨g,_⟩
         ·have:i0=i:=by
           rcases Nat.lt_trichotomy i0 i with h | h | h
           ·exact absurd H (Ms i0 h)
           ·exact h
           ·exact absurd Kn (g3 i h)
          subst this;exact g4
         ·exact absurd Kn (g i d)
        rw[QT];have y4:=JX.resVal;have y5:=W.resVal;unfold resVal at y4 y5;clear Gf v4 v5
        have M: ∀L:List Choice,((if(bf L).length<=(bf L).length then some (List.take (bf L).length (bf L))else none).bind fun r=>(List.mapM (fun row=>List.mapM (toT I 999) row) r).bind fun es=>some (T.sl es))=some (T.sl (L.map Choice.enc)):=fun L=>by
         rw[ah (ax _),bc,zD,show(bf L).mapM (fun row=>row.mapM (toT I 999))=some (L.map Choice.enc)from mC I 999 _ (mS _)];rfl
        have N: ∀L:List Choice,bf L=[]->L=[]:=fun L h=>by simpa[bf]using h
        rcases JX with⟨rfl,e4⟩ | ⟨k4,rfl,b4,c4⟩
        ·rw[N _ e4];rcases W with⟨rfl,e5⟩ | ⟨k5,rfl,b5,c5⟩
         ·rw[N _ e5];simp -dsimp only[go_sem,seval]
          try rfl
         ·simp -dsimp only[go_sem,seval,c5];rw[M];rfl
        ·rcases W with⟨rfl,e5⟩ | ⟨k5,rfl,b5,c5⟩
         ·rw[N _ e5];simp -dsimp only[go_sem,seval,c4];rw[M];rfl
         ·simp -dsimp only[go_sem,seval,c4,c5];rw[M,M];rfl
      ·have Ig:=aI M6;simp -dsimp only[go_sem,seval,MC,o,D,Config.enc,s,Ig];refine⟨aa,al BF,fun m AK=> ?_,av,DA⟩
       by_cases e:m=i
       ·subst e;rw[J1];exact fun h=>M6 h.1
       ·exact Ms m aa
     ·have o:=aI d;have:i=l.length:=aa
      subst this;rcases hR with⟨i,X,H,_⟩ | ⟨_,rfl⟩
      ·exact absurd H (Ms i X)
      ·simp -dsimp only[go_sem,seval,MC,o]
       done
   classical
   rcases XU (n:=l.length) (P:=iO p k l t lp)with⟨i,X,H,g3⟩ | g
   ·exact .inl ⟨i,X,H,g3,Z _ (.inl ⟨i,X,H,g3,rfl⟩)⟩
   ·exact .inr ⟨g,Z _ (.inr ⟨g,rfl⟩)⟩
theorem Ve {m:Int} (h:0<=m):m.tmod 3=m % 3:=BB h
theorem Qj (a:List Int) (b:List Choice) (fr:Nat): ∀(f v:Nat) (l:List Choice),(jU a b fr f v l).length<=l.length+f
 | 0,v,l=>by rw[jU];omega
 | f+1,v,l=>by
   rw[jU];split
   ·have:=Qj a b fr f (a.getD v (-1)).toNat (l++[b.getD v ch0]);rw[zM,fR]at this;omega
   ·omega
theorem Nt {E:Nat->List (Nat×Choice)} {n fr to:Nat} (c: ∀u,u<n-> ∀e∈E u,e.1<n) (a:fr<n):(dB E n fr to).length<=n+1:=by
 obtain⟨i,h,_⟩:=Hq (to:=to) c a;have b:=Qj (gH E n fr to).par (gH E n fr to).ch fr ((gH E n fr to).q.idxOf to+1) to [];have d:(gH E n fr to).q.idxOf to<=(gH E n fr to).q.length:=I3;have f:=h.len;rw[dB,mN];simp only[jf]at b;omega
theorem vJ {p:Prog} {k:Int} {l:List Vis} (hV:VisOk p k l l.length) (t:Nat) (lp:Loop): ∀u,u<2*l.length-> ∀e∈fN p k l t lp u,e.1<2*l.length:=by
 intro u b e a;obtain⟨e',h',rfl⟩:=cv.1 a;have:=qZ hV (show u/ 2<l.length from aa) e' (ge.1 h').1;simp only;split<;>omega
section
variable {p:Prog} {k:Int} {l:List Vis} (hV:VisOk p k l l.length) {t:Nat} {lp:Loop}
include hV
theorem BV {u:Nat} (b:u/ 2<l.length):fN p k l t lp u=pu p k l t lp u:=by
 rw[fN,fP,pu]
 congr 1
 refine List.filter_congr fun e a=> ?_
 simp[fO,qZ hV b e a]
theorem CF: ∀{r:List Choice} {a b:Nat},a<2*l.length->iz (fN p k l t lp) a r b->iz (pu p k l t lp) a r b
 | [],a,b,_,h=>h
 | x::r,a,b,ha,⟨v,h1,h2⟩=>⟨v,by rw[<- BV hV aa];exact h1,CF (vJ hV t lp a ha _ h1) h2⟩
theorem TJ {a b:Nat} (h:Rch (kW (pu p k l t lp)) a b):a<2*l.length->Rch (kW (fN p k l t lp)) a b:=by
 induction h with
 | refl=>exact fun _=> .refl _
 | cons h _ e=>
   intro d;obtain⟨x,c⟩:=h;rw[<- BV hV aa]at c;exact .cons ⟨x,c⟩ (e (vJ hV t lp _ d _ c))
omit hV in
theorem Ci {a b:Nat} (h:Rch (EI (dc (bM p k l)) (fO l t lp)) a b):Rch (EI (fun u=>(bM p k l u).map Prod.fst) (i7 l t lp)) a b:=by
 induction h with
 | refl=>exact .refl _
 | cons h _ f=>
   obtain⟨c,d,e⟩:=h;simp only[fO,zF]at c d;exact .cons ⟨c.2,d.2,e⟩ f
theorem TH {i:Nat} (hi:i<l.length) (h:iO p k l t lp i):Rch (kW (fN p k l t lp)) (2*i) (2*i+1):=by
 obtain⟨_,q,u,e,c,d,a,f,g,b⟩:=h;simp only[fO,zF,aQ]at d a;refine TJ hV ?_ aa;obtain⟨j,r,_,n⟩:=BW (Ci b.2) 0 aa;obtain⟨m,s,b2,o⟩:=BW (Ci (g.2.trans b.1)) 1 aa;have:m=1:=aa
 subst this;refine n.trans (.cons ⟨e.2,?_⟩ o);rw[pu,show(2*u+j)/ 2=u by omega];exact cv.2 ⟨e,ge.2 ⟨c,a.2⟩,by rw[ah f]⟩
end
theorem TI {p:Prog} {k:Int} {l:List Vis} (hV:VisOk p k l l.length) {t:Nat} {lp:Loop} {i:Nat} (hi:i<l.length) (h:iO p k l t lp i):
 okN p k (bz p) (dB (bM p k l) l.length 0 i)=true/\(dB (bM p k l) l.length 0 i).foldl (nxK p k) (bz p)=bH l i/\
 kU p k t lp (bH l i) (dB (fN p k l t lp) (2*l.length) (2*i) (2*i+1))/\(dB (fN p k l t lp) (2*l.length) (2*i) (2*i+1)).foldl (nxK p k) (bH l i)=bH l i/\
 ∃x∈dB (fN p k l t lp) (2*l.length) (2*i) (2*i+1),cg t x=true:=by
 have r:bH l 0=bz p:=by rw[iB hV.z];rfl
 have j: ∀u,u<l.length-> ∀e∈bM p k l u,e.1<l.length:=fun u s=>qZ hV s
 have n:=Cr j (show 0<l.length from aa) hi (TQ hV i hi);obtain⟨c,d,_⟩:=CD hV (show 0<l.length from aa) n;have o:=CF hV aa (Cr (vJ hV t lp) (show 2*i<2*l.length from aa) (show 2*i+1<2*l.length from aa) (TH hV hi h))
 have g:i7 l t lp i=true:=by
  have:=h.2.1;simp only[fO,zF]at this;exact this.2
 have b:2*i/ 2=i:=aa
 have q:(2*i+1)/ 2=i:=aa
 obtain⟨f,b2,m⟩:=B6 hV (a:=2*i) (by rw[b];exact hi) (by rw[b];exact g) o;rw[b]at f b2;rw[q]at b2;rw[r]at c d;exact⟨c,d,f,b2,m aa⟩
theorem kU.okN {p:Prog} {k:Int} {t:Nat} {lp:Loop}: ∀{r:List Choice} {c:Config},kU p k t lp c r->Rg.okN p k c r=true
 | [],c,_=>rfl
 | x::r,c,⟨_,h2,h3⟩=>by rw[Rg.okN,zF,aQ];exact⟨h2,h3.okN⟩
theorem AW {p:Prog} {k:Int} {t:Nat} {lp:Loop} (a:dq lp (-1)=false): ∀(r:List Choice) {s:It} {n:Int},s.Ok t n->
 (∃m,(r.foldl (itS (nxK p k) t lp) s).Ok t m)/\s.best<=(r.foldl (itS (nxK p k) t lp) s).best
 | [],s,n,h=>⟨⟨n,h⟩,gz _⟩
 | x::r,s,n,h=>by
   obtain⟨c,e,_⟩:=h.step (nx:=nxK p k) a x;obtain⟨b,d⟩:=AW a r c;rw[eQ];exact⟨b,aa⟩
theorem TM {p:Prog} (g:aM p=true) {k:Int} {t:Nat} {lp:Loop} (f:dq lp (-1)=false) (C:lp.head≠ -1) {stem d:List Choice} {c:Config} (E:okN p k (bz p) stem=true) (v:stem.foldl (nxK p k) (bz p)=c)
 (y:kU p k t lp c d) (r:d.foldl (nxK p k) c=c) (o:atI c.at_ t=lp.head) (D: ∃x∈d,cg t x=true) (A:IsK p k c)
 (B: ∀(a:List Choice) (x:Choice) (b:List Choice),stem=a++x::b->x∈cw p k (a.foldl (nxK p k) (bz p))) (j:Nat):
 okN p k (bz p) (stem++(List.replicate j d).flatten)=true/\(j:Int)<=(itM (nxK p k) t lp (bz p) (stem++(List.replicate j d).flatten)).best/\
  (itM (nxK p k) t lp (bz p) (stem++(List.replicate j d).flatten)).best<=(itM (nxK p k) t lp (bz p) (stem++(List.replicate (j+1) d).flatten)).best:=by
 have n: ∀j,stem++(List.replicate (j+1) d).flatten=(stem++(List.replicate j d).flatten)++d:=fun j=>by
  rw[z6,G'];simp
 have q:=It.Ok.init (t:=(t:Int)) (l:=lp) (c:=bz p) C
 have i: ∀j,okN p k (bz p) (stem++(List.replicate j d).flatten)=true/\(stem++(List.replicate j d).flatten).foldl (nxK p k) (bz p)=c/\(j:Int)+1<=(itM (nxK p k) t lp (bz p) (stem++(List.replicate j d).flatten)).arr:=by
  intro j
  induction j with
  | zero=>
    simp only[nP,z8,bK];refine⟨E,v,?_⟩;have:=(Cb g f (t:=t) (c:=bz p) (s:=it0 t lp (bz p)) rfl (nQ g k) q.a0 (fun e=>by simp only[it0];rw[ah e];exact gz _) B).2 (by rw[v];exact o)
    simpa[itM]using this
  | succ j G=>
    obtain⟨F,h,I⟩:=G;rw[n];refine⟨by rw[AU,F,h,y.okN];simp,by rw[f8,h,r],?_⟩;have z:(itM (nxK p k) t lp (bz p) (stem++(List.replicate j d).flatten)).c=c:=(CT _ _ _ _ _ _ rfl).trans h;have:=(B_ g f (s:=itM (nxK p k) t lp (bz p) (stem++(List.replicate j d).flatten)) z A y).2 (by rw[r];exact o) D;rw[itM,f8];have e:List.foldl (itS (nxK p k) t lp) (it0 t lp (bz p)) (stem++(List.replicate j d).flatten)=itM (nxK p k) t lp (bz p) (stem++(List.replicate j d).flatten):=rfl;rw[e];omega
 obtain⟨H,J,K⟩:=i j;obtain⟨⟨m,w⟩,_⟩:=AW (p:=p) (k:=k) f (stem++(List.replicate j d).flatten) q;have u:=(AW (p:=p) (k:=k) f d w).2;rw[<- f8,<- n]at u;have:=w.ab;refine⟨H,?_,u⟩;have e:List.foldl (itS (nxK p k) t lp) (it0 t lp (bz p)) (stem++(List.replicate j d).flatten)=itM (nxK p k) t lp (bz p) (stem++(List.replicate j d).flatten):=rfl;rw[e]at this;omega
theorem CO (p:Prog) (I:p.sane) (C:aM p=true) (k:Int) (H:0<=k/\k<=2) (c:Config) (F:IsK p k c) (a:List Choice) (L:a.length<2^30) (D:okN p k c a=true):
 Den Γ G 344 [(zP p),vi k,(.agg [.t (ints (c).mem),.t (ints (c).at_),.t (.sl ((c).buf.map (fun b=>[.sl (b.map Entry.enc)])))]),.t (.sl (a.map Choice.enc))]=some (.tup [(.agg [.t (ints (a.foldl (nxK p k) c).mem),.t (ints (a.foldl (nxK p k) c).at_),.t (.sl ((a.foldl (nxK p k) c).buf.map (fun b=>[.sl (b.map Entry.enc)])))]),vb true]):=by
 have K:(a.map Choice.enc).length=a.length:=af
 refine aB (q:=?_)
 simp -dsimp only[go_sem,seval]
 refine aZ 17179868992 a.length (fun i f=>(f 10).v=vi i/\ ∃d:Config,d=(a.take i).foldl (nxK p k) c/\IsK p k d/\okN p k d (a.drop i)=true/\(f 6).v= .lb/\(f 6).box=some [.t (ints d.mem),.t (ints d.at_),.t (.sl (d.buf.map fun b=>[.sl (b.map Entry.enc)]))]/\(f 8).v= .lb/\(f 8).box=some [.t .nils,.t .nils,.t .nils]) rfl rfl
  ⟨am,c,rfl,F,D,am,am,am,am⟩ ?_
 rintro i f u x bs hi ⟨s,d,o,z,g,m,B,n,A⟩;have J:=ay i aa
 by_cases h:i<a.length
 ·have j:=aW h;obtain⟨y,q,Eq⟩:=au h;rw[iQ q,okN,zF,aQ]at g;have v:=sK p I C k H d z y;obtain⟨e,r,E⟩:=l0 C z g.1;have w:nxK p k d y=e:=by rw[nxK,r]
  rw[r]at v;rw[w]at g;simp -dsimp only[go_sem,seval,s,j,m,B,n,q,v];refine⟨aa,al J,e,?_,E,g.2,al m,am,al n,al A⟩;rw[a8 q,f8,<- o];exact w.symm
 ·have j:=aI h;have:i=a.length:=aa
  subst this;rw[bc]at o;subst o;simp -dsimp only[go_sem,seval,s,j,m,B,n,A]
  done
theorem TP {p:Prog} {k:Int} {c:Config} {r:List Choice} (h:okN p k c r=true) (a:List Choice) (x:Choice) (b:List Choice) (e:r=a++x::b):x∈cw p k (a.foldl (nxK p k) c):=by
 rw[e]at h;have d:=(AU.1 h).2;rw[okN,zF,aQ]at d;exact d.1
theorem BT (a b:Int) (d:Bool) (h:ae) (vs:List V) (K:V->ae->Prop) (w:WK K):fe (some (.tup [vi a,vi b])) d h vs K w=K (.tup [vi a,vi b]) h:=by
 simp[fe,V.scalar,V.scalar2,V.scalar1,T.scalar]
theorem aw.toT1C {h:ae} {x:Nat} {v:V} {l:List Choice} (o:aw h x v 3 (bf l)):Rg.toT1 h v=some (.t (.sl (l.map Choice.enc))):=by
 have:=i8 o (mS _);rcases o with⟨rfl,_⟩ | ⟨k,rfl,_⟩<;>simp[Rg.toT1,this]
theorem TE (M:Den Γ G 334 []=some (vb true)) (p:Prog) (hl:p.lite) (m:Int) (hm:0<=m/\m<256) (t j:Int):
 Den Γ G 331 [(zP p),.t (.int .u8 m),vi t,vi j]=some (vb true):=by
 have w:=YF p hl t j
 refine aB (q:=?_)
 cases I:jb p&&jk p t j
 ·rw[I]at w;simp -dsimp only[go_sem,seval,M,w]
 ·rw[I]at w;simp only[zF]at I;obtain⟨NV,Qw⟩:=I;have r:=QH hl NV;obtain⟨g,n,jn,x,l,rfl,rfl,B,D⟩:=YE Qw;obtain⟨A,hL⟩:=Ht g B D;have S:IntKind.i64.wrap m=m:=bt aa;have K:=Ve hm.1
  generalize Ah:m % 3=k at K
  have z:0<=k/\k<=2:=aa
  have C:=Xz p r g k z
  cases q:ek p k 40 with
  | none=>
    rw[q]at C
    simp -dsimp only[go_sem,seval,M,w,S,K,C,ml]
  | some o=>
    rw[q]at C;obtain⟨hV,FZ⟩:=Pq g aa q;rcases zw p r g k z B D 40 aa aa with⟨e,_⟩ | ⟨X,e,F⟩
    ·rw[q]at e;cases e
    rw[q]at e;obtain rfl:o=X:=by cases e;rfl
    rcases F with⟨i,i1,i2,i3,F⟩ | ⟨n0,F⟩
    ·have R:Den Γ G 343 [(zP p),vi k,vi n,vi jn,vi 40]=_:=F;obtain⟨N,r2,r3,r4,r5⟩:=TI hV i1 i2;have b1:=Nt (to:=i) (fun u hu=>qZ hV hu) (show 0<o.length from aa);have b2:=Nt (to:=2*i+1) (vJ hV n l) (show 2*i<2*o.length from aa)
     generalize dB (bM p k o) o.length 0 i=stem at *
     generalize dB (fN p k o n l) (2*o.length) (2*i) (2*i+1)=a at *
     have FT:=nQ g k;have E:=pv hV i1;have Bj:=i2.1;have NC:=E.b.la;have Dd:n<p.threads.length:=(zH.1 B).1;obtain⟨U,DH,_⟩:=au (show n<(bH o i).at_.length by rw[NC];exact Dd);have RW:atI (bH o i).at_ n=U:=jp (ak DH)
     generalize bH o i=c at *
     have st:=AZ p r;have f1:=CO p r g k z _ FT stem aa N;rw[r2]at f1;have f2:=CO p r g k z c E a aa r3.okN;rw[r4]at f2;have M6:U=l.head:=RW.symm.trans Bj
     have CM:(a.length:Int)≠0:=by
      obtain⟨y,hy,_⟩:=r5;have:=Hi hy;omega
     have RT:=TM g hL.nb (by have:=hL.h0;omega) N r2 r3 r4 Bj r5 E (TP N);have F3:=A7 g E.b;have Y:=TK c c (E.b.sane r) fun b q=>⟨by have:=(F3.e b q).1;omega,fun e he=>by have:=(F3.e b q).2 e he;omega⟩
     rw[sD rfl]at Y;have Ca:(U≠l.head)=False:=aI fun h=>h M6
     simp -dsimp only[go_sem,seval,M,w,S,K,C,qT,R,st,f1,f2,CM,Y,DH,B,D,M6];have o0:aw (updC (fun _=>none) 91 (some (O.rows 3 [] false))) 92 (.ms 91 0 0) 3 []:=.inr ⟨91,rfl,aa,by rw[aq,ah rfl]⟩;rw[Cs];refine vK o0 aa (by rw[f_];simp;omega) aG (kX _) rfl ?_;intro v hp d _ _;rw[eG]at d;have P:=d.valOf;have cells1:=d.cellsV;unfold V.cells at cells1;have s:=d.toT1C;unfold toT1 at s;have it0':=z7 p r g k z B D stem aa N;simp -dsimp only[go_sem,seval,P,cells1,s,it0',BT];clear it0' s cells1 P
     refine aS 5986310706506017223494609320952041750080972638650624 3 (fun i f h x=>(f 21).v=vi i/\aw h x (f 18).v 3 (bf (stem++(List.replicate i a).flatten))/\(f 19).v=vi (itM (nxK p k) n l (bz p) (stem++(List.replicate i a).flatten)).best) rfl
      ⟨am,by simp -dsimp only[go_sem,seval,nP,z8,bK];exact d.le (by first | omega | (simp -dsimp only[go_sem,seval];omega)),by simp -dsimp only[go_sem,seval,nP,z8,bK]⟩ ?_
     clear d;rintro i f u h x bs hi ⟨J,d,EZ⟩;have hw:=ay i aa;have v1:=d.valOf;have l1:=d.lenS;obtain⟨q1,q2,q3⟩:=RT i;obtain⟨g1,g2,_⟩:=RT (i+1)
     have Z:stem++(List.replicate (i+1) a).flatten=(stem++(List.replicate i a).flatten)++a:=by
      rw[z6,G'];simp
     by_cases C8:i<3
     ·have L:((i:Int)<3)=True:=aW aa
      by_cases A5:(stem++(List.replicate i a).flatten).length+a.length<=120
      ·have Q:IntKind.i64.wrap (((stem++(List.replicate i a).flatten).length:Int)+(a.length:Int))=(((stem++(List.replicate i a).flatten).length+a.length:Nat):Int):=kT aa aa;have T:((((stem++(List.replicate i a).flatten).length+a.length:Nat):Int)<=120)=True:=aW aa;simp -dsimp only[go_sem,seval,J,L,v1,l1,f_,Q,T,d.rowsS,Cs];refine vK d aa (by rw[f_,f_];omega) aG (kX _) (kX _) ?_;intro v hp H _ _;rw[show bf (stem++(List.replicate i a).flatten)++bf a=bf (stem++(List.replicate (i+1) a).flatten)by rw[Z];simp[bf]]at H;have P:=H.valOf;have s:=H.toT1C;unfold toT1 at s;have W:=z7 p r g k z B D (stem++(List.replicate (i+1) a).flatten) (by rw[Z,zM];omega) g1;have k1: ¬(itM (nxK p k) n l (bz p) (stem++(List.replicate (i+1) a).flatten)).best<(itM (nxK p k) n l (bz p) (stem++(List.replicate i a).flatten)).best:=aa
       have k2: ¬(itM (nxK p k) n l (bz p) (stem++(List.replicate (i+1) a).flatten)).best<((i+1:Nat):Int):=aa
       simp -dsimp only[go_sem,seval,P,s,W,BT,EZ,k1,k2,J,hw];refine⟨aa,al hw,?_,am⟩;simp -dsimp only[go_sem,seval];exact H.le aa
      ·have Q:IntKind.i64.wrap (((stem++(List.replicate i a).flatten).length:Int)+(a.length:Int))=(((stem++(List.replicate i a).flatten).length+a.length:Nat):Int):=kT aa (by
        rcases(show i=0\/i=1\/i=2 from aa)with rfl | rfl | rfl<;>simp <;>omega)
       have T:((((stem++(List.replicate i a).flatten).length+a.length:Nat):Int)<=120)=False:=aI aa;simp -dsimp only[go_sem,seval,J,L,v1,l1,f_,Q,T]
       done
     ·have L:((i:Int)<3)=False:=aI aa;simp -dsimp only[go_sem,seval,J,L]
      done
    ·have R:Den Γ G 343 [(zP p),vi k,vi n,vi jn,vi 40]=_:=F;simp -dsimp only[go_sem,seval,M,w,S,K,C,qT,R]
end Rg
end
