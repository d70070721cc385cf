/- Part of the proof of laws of relyguardlaw36. No condition. -/
import Derived.Test.YtaiokglcgiemnaaGreatDoorGartAT
import Derived.Test.YtaiokglcgiemnaaGreatDoorGartAP
import Derived.Test.YtaiokglcgiemnaaGreatDoorGartAR
import Derived.Test.YtaiokglcgiemnaaGreatDoorGartAS
import Derived.Test.YtaiokglcgiemnaaGreatDoorGartAU
import Derived.Test.YtaiokglcgiemnaaGreatDoorGartAO
set_option linter.unusedSimpArgs false
set_option linter.unusedVariables false
set_option linter.defProp false
section
namespace Rg
open Go
theorem Y2 (c:RK) (p:Prog) (hs:p.sane) (E:aN p=true) (k:Int) (hk:0<=k/\k<=2) (a:Nat) (h1:1<=a) (h2:a<=20000) (env:Nat->V) (H:ae) (nx:Nat)
 (DA:H c.ky=some (.loop env [11] jT .ready)) (e3:env 3= .mp c.k3 0 0) (e4:env 4= .mp c.k4 0 0) (e5:env 5= .mp c.k5 0 0) (e6:env 6= .mp c.k6 0 0) (e7:env 7= .mp c.k7 0 0)
 (h3:H c.k3=some (.rows 1 [[.mp c.kS 0 0]] false)) (h4:H c.k4=some (.rows 1 [[vi a]] false)) (h5:H c.k5=some (.rows 1 [[.fn 376 [] [.mp c.kL 0 0]]] false)) (h6:H c.k6=some (.rows 1 [[vi 0]] false)) (h7:H c.k7=some (.rows 1 [[vi 0]] false)) (n67:c.k6≠c.k7)
 (J:H c.kSV=some (.rows 1 [[.mp c.kS 0 0]] false)) (hS:H c.kS=some (.rows 6 [[.t (.sl (p.cells.map Cell.enc)),.t (.sl (p.modules.map Contract.enc)),.t (.sl (p.locks.map Lock.enc)),.t (.sl (p.threads.map Thread.enc)),vi k,.t .nils]] false))
 (hL:H c.kL=some (.rows 1 [[.t .nils]] false)) (bd:c.ky<nx/\c.k3<nx/\c.k4<nx/\c.k5<nx/\c.k6<nx/\c.k7<nx/\c.kL<nx/\c.kS<nx/\c.kSV<nx):
 ∃r h' o,DenR Γ G 392 [.yl c.ky,.mp c.kSV 0 0] H nx=some (r,h',o)/\(nx<=o/\
  ((∃l vL,eq p k a=some l/\h' c.ky=some (.loop env [11] jT .ready)/\h' c.k6=some (.rows 1 [[vi 0]] false)/\h' c.k7=some (.rows 1 [[vi 0]] false)/\h' c.kL=some (.rows 1 [[vL]] false)/\ax h' o vL 3 (dE l))\/
   (eq p k a=none/\pm c env h'))):=by
 have AE:=MA p hs;obtain⟨b1,b2,b3,b4,b5,b6,b7,b8,b9⟩:=bd;have FT:=sa E k
 refine bO (q:=?_)
 have u1:(c.kSV=nx+1+1)=False:=aI aa;have u2:(c.kSV=nx+1+0)=False:=aI aa;have u3:(c.kSV=nx+0)=False:=aI aa;have u4:(c.kS=nx+1+1)=False:=aI aa;have u5:(c.kS=nx+1+0)=False:=aI aa;have u6:(c.kS=nx+0)=False:=aI aa;simp -dsimp only[go_sem,seval,J,hS,AE,u1,u2,u3,u4,u5,u6];obtain⟨K,hK⟩: ∃K:RK,K= { c with kY:=nx+0,kSe:=nx+1+1,kM:=nx+1+0 }:=⟨_,rfl⟩
 have keyS:K.ky=c.ky/\K.k6=c.k6/\K.k7=c.k7/\K.kL=c.kL/\K.kSV=c.kSV/\K.kS=c.kS/\K.kY=nx+0/\K.kSe=nx+1+1:=by rw[hK];exact⟨rfl,rfl,rfl,rfl,rfl,rfl,rfl,rfl⟩
 obtain⟨t1,t2,t3,t4,t5,Z,t7,t8⟩:=keyS
 have R0: ∀z,nx+1+2<=z->RI K p k a env (updC (updC (updC (updC H (nx+0) (some (O.rows 1 [[V.yl c.ky]] false))) (nx+1+0) (some (O.map []))) (nx+1+1) (some (O.rows 1 [[V.t T.nilm]] false))) (nx+1+1) (some (O.rows 1 [[V.mm (nx+1+0)]] false))) z [] [] (.t .nils) (.t .nils):=fun z hz=>by
  have q: ∀j,j<nx->updC (updC (updC (updC H (nx+0) (some (O.rows 1 [[V.yl c.ky]] false))) (nx+1+0) (some (O.map []))) (nx+1+1) (some (O.rows 1 [[V.t T.nilm]] false))) (nx+1+1) (some (O.rows 1 [[V.mm (nx+1+0)]] false)) j=H j:=fun j hj=>by
   rw[aq,ac aa,aq,ac aa,aq,ac aa,aq,ac aa]
  rw[hK];refine⟨(q _ b1).trans DA,e3,e4,e5,e6,e7,(q _ b2).trans h3,(q _ b3).trans h4,(q _ b4).trans h5,(q _ b5).trans h6,(q _ b6).trans h7,n67,(q _ b9).trans J,?_,?_,?_,(q _ b8).trans hS,.inl ⟨rfl,rfl⟩,(q _ b7).trans hL,.inl ⟨rfl,rfl⟩,?_⟩
  ·show updC _ _ _ (nx+0)=_;rw[aq,ac aa,aq,ac aa,aq,ac aa,aq,ah rfl]
  ·show updC _ _ _ (nx+1+1)=_;rw[aq,ah rfl]
  ·show updC _ _ _ (nx+1+0)=_;rw[aq,ac aa,aq,ac aa,aq,ah rfl];rfl
  ·simp only;omega
 have DE: ∀{H':ae} {A:Nat} {l:List Vis} {w vL:V},RI K p k a env H' A l l w vL-> ∀d:Vis,IsB p d.c->(∀v∈l,IsB p v.c)->l.length<=a->
  ∃r h' o,DenR Γ G 393 [.agg [.t (ints d.c.mem),.t (ints d.c.at_),.t (.sl (d.c.buf.map fun b=>[.sl (b.map Entry.enc)])),vi d.fr,vi d.x.thread,vi d.x.step,vi d.x.cell],.mp (nx+1+1) 0 0,.mp c.kSV 0 0,.mp (nx+0) 0 0] H' A=some (r,h',o)/\(A<=o/\if hD l d.c then r=vb true/\ ∃g e,RI K p k a env h' o l l g e
  else if l.length=a then r=vb false/\pm K env h' else r=vb true/\ ∃g e,RI K p k a env h' o (l++[d]) (l++[d]) g e):=fun R d X Aa hl=>by
  have:=Yx E R d X Aa aa;rw[t5,t7,t8]at this;exact this
 have Ai: ∀h':ae,pm K env h'->pm c env h':=fun h' ⟨q1,q2,q3⟩=>⟨t1▸q1,t2▸q2,t3▸q3⟩
 refine bf (DE (R0 _ aa) (v0 p) FT.b af af) ?_;rintro r h' o ⟨Jt,n⟩;rw[ac (by simp[hD]),ac (by simp;omega)]at n;obtain⟨rfl,w,vL,R⟩:=n;rw[ff]at R;clear R0;simp -dsimp only[go_sem,seval]
 refine aS 1208925819614629170513760 (a+1) (fun i f h x=>(f 5).v=vi i/\nx<=x/\ ∃(l:List Vis) (w vL:V),RI K p k a env h x l l w vL/\i<=l.length/\1<=l.length/\l.length<=a/\(∀v∈l,IsK p k v.c)/\eq p k a=goV p k a (a+1-i) i l) rfl
  ⟨am,av,[v0 p],w,vL,by simp -dsimp only[go_sem,seval];exact R.le aa,af,af,al h1,fun v s=>by simp only[bB]at s;subst s;exact FT,rfl⟩ ?_
 clear R;rintro i f u H2 x bs hi ⟨U,ED,l,w,vL,R,g1,g2,g3,g4,g5⟩;have hw:=aB i aa;have r1:=R.hSV;have Y:=R.hS;rw[t5,Z]at r1;rw[Z]at Y;rcases R.oV with⟨_,e1⟩ | ⟨kV,rfl,e2,I⟩
 ·have:=my l;rw[e1]at this;simp at this;omega
 rw[my]at R Y
 by_cases Ad:i<l.length
 ·have Af:=aW Ad;obtain⟨v,s,Kg⟩:=au Ad;have F:=g4 v Kg;have Ch:=I5 p hs E k hk v.c F;have Ap:=Qx s;have i0:(0:Int)<=(i:Int):=aa
  have i1:(i:Int)<(l.length:Int):=aa
  simp -dsimp only[go_sem,seval,U,r1,Y,I,Af,i0,i1,Ap,my,Ch]
  generalize AL:bP p k v.c=cs at *
  have By:=ua E (k:=k) F.b;rw[<- rm F,AL]at By;have G8:fe p k v.c i=cs.map fun x=>⟨(dy p k v.c x).1,i,x⟩:=by rw[fe,AL]
  have N:eq p k a=(jp a l (fe p k v.c i)).bind fun l'=>goV p k a (a-i) (i+1) l':=by
   rw[g5,show a+1-i=a-i+1 from aa,goV,s]
  refine aS 1208925818488729267865344 cs.length (fun j f h x=>(f 50).v=vi j/\nx<=x/\ ∃(l':List Vis) (w vL:V),RI K p k a env h x l' l' w vL/\l'[i]? =some v/\l'.length<=a/\(∀v∈l',IsK p k v.c)/\jp a l (fe p k v.c i)=jp a l' ((fe p k v.c i).drop j)) rfl
   ⟨am,av,l,_,vL,by simp -dsimp only[go_sem,seval];exact R.le aa,s,g3,g4,by rw[ij]⟩ ?_
  rintro j f2 u2 H3 x2 bs2 hj ⟨S,Qn,l',g,e,W,D,CE,Q,m⟩;have BO:=aB j aa;have L:=W.hSV;have M:=W.hS;rw[t5,Z]at L;rw[Z]at M
  by_cases AN:j<cs.length
  ·have Ba:=aW AN;obtain⟨y,hy,Eq⟩:=au AN;have Hs:y∈bP p k v.c:=by rw[AL];exact Eq
   have ED:=xQ p hs E k hk v.c F y;obtain⟨d,Bt,X⟩:=lW E F Hs;rw[Bt]at ED
   have Gb:(fe p k v.c i).drop j=⟨d,i,y⟩::(fe p k v.c i).drop (j+1):=by
    have:(fe p k v.c i)[j]? =some ⟨d,i,y⟩:=by rw[G8,zJ,hy];simp[Bt]
    exact jj this
   rw[Gb,jp,pw]at m;simp -dsimp only[go_sem,seval,S,U,L,M,Ba,hy,ED];refine bf (DE (W.le aa) ⟨d,i,y⟩ X.b (fun v s=>(Q v s).b) CE) ?_;rintro r h' o ⟨Jt,n⟩;have AV:=(zH.1 D).1;cases P:hD l' d
   ·rw[ac (by simp only[P];simp)]at n;rw[ac (by simp[P])]at m
    by_cases AC:l'.length=a
    ·rw[ah AC]at n;rw[ah aa,sS]at m;rw[m,sS]at N;obtain⟨rfl,Dk⟩:=n;simp -dsimp only[go_sem,seval];exact⟨aa,.inr ⟨N,Ai _ Dk⟩⟩
    ·rw[ac AC]at n;rw[ac aa,zD]at m;obtain⟨rfl,C,B,R2⟩:=n;simp -dsimp only[go_sem,seval,S];refine⟨aa,ak BO,av,l'++ [⟨d,i,y⟩],C,B,by simp -dsimp only[go_sem,seval];exact R2.le aa,?_,by rw[zM,gp];omega,fun v' D=> ?_,m⟩
     ·rw[bU AV];exact D
     ·rcases cz.1 D with h | h
      ·exact Q v' h
      ·rw[bB]at h;subst h;exact X
   ·rw[ah (by simp only[P])]at n;rw[ah (by simp only[P]),zD]at m;obtain⟨rfl,C,B,R2⟩:=n;simp -dsimp only[go_sem,seval,S];exact⟨aa,ak BO,av,l',C,B,by simp -dsimp only[go_sem,seval];exact R2.le aa,D,CE,Q,m⟩
  ·have Ba:=aI AN;have:j=cs.length:=aa
   subst this;rw[show(fe p k v.c i).drop cs.length=[]from oU (by rw[G8,cP];omega),jp]at m;rw[m,zD]at N;have AV:=(zH.1 D).1;simp -dsimp only[go_sem,seval,S,U,Ba];exact⟨aa,ak hw,av,l',g,e,by simp -dsimp only[go_sem,seval];exact W.le aa,aa,aa,CE,Q,by rw[N,show a+1-(i+1)=a-i by omega]⟩
 ·have Af:=aI Ad
  have hb:eq p k a=some l:=by
   rw[g5]
   cases a+1-i with
   | zero=>rfl
   | succ f=>rw[goV,gq aa]
  simp -dsimp only[go_sem,seval,U,r1,Y,I,Af,my];refine⟨av,.inl ⟨l,vL,hb,?_,?_,?_,?_,?_⟩⟩
  ·rw[<- t1];exact R.hk
  ·rw[<- t2];exact R.h6
  ·rw[<- t3];exact R.h7
  ·rw[<- t4];exact R.hL
  ·simp -dsimp only[go_sem,seval];exact R.oL.le aa
theorem ZG (a:Nat) (H:ae) (n:Nat): ∃r h' b,DenR Γ G 386 [.mp a 0 0] H n=some (r,h',b)/\(r= .fn 392 [] [.mp n 0 0]/\h'=updC H n (some (.rows 1 [[.mp a 0 0]] false))/\n<b):=by
 refine bO (q:=aA ?_);refine⟨rfl,by simp -dsimp only[go_sem,seval];rfl,av⟩
theorem YA (p:Prog) (S:p.sane) (N:aN p=true) (k:Int) (R:0<=k/\k<=2) (c:Nat) (J:1<=c) (K:c<=20000) (f g:Nat) (H:ae) (nx:Nat)
 (M:H f=some (.rows 6 [[.t (.sl (p.cells.map Cell.enc)),.t (.sl (p.modules.map Contract.enc)),.t (.sl (p.locks.map Lock.enc)),.t (.sl (p.threads.map Thread.enc)),vi k,.t .nils]] false))
 (L:H g=some (.rows 1 [[.t .nils]] false)) (bS:f<nx) (bL:g<nx):
 ∃r h' d,DenR Γ G 375 [.mp f 0 0,vi c,.fn 376 [] [.mp g 0 0]] H nx=some (r,h',d)/\
  ((∃l vL,eq p k c=some l/\r= .tup [vi 0,vi 4]/\h' g=some (.rows 1 [[vL]] false)/\ax h' d vL 3 (dE l))\/(eq p k c=none/\r= .tup [vi 0,vi 2])):=by
 have u: ∀a b:Nat,a≠b->(nx+a=nx+b)=False:=fun a b h=>aI aa
 have D:=u 0 4 aG;have E:=u 0 3 aG;have F:=u 0 2 aG;have I:=u 0 1 aG
 refine bO (q:=?_)
 simp -dsimp only[go_sem,seval,D,E,F,I];refine bf (ZG f _ _) ?_;rintro r h' d ⟨rfl,rfl,v⟩;simp -dsimp only[go_sem,seval]
 refine yS (P:=fun e h' n=>nx+5+2<d/\d+1<=n/\((e= .normal/\ ∃l vL,eq p k c=some l/\(∀rs,h' d≠some (.rows 3 rs false))/\h' (nx+3)=some (.rows 1 [[vi 0]] false)/\h' (nx+4)=some (.rows 1 [[vi 0]] false)/\h' g=some (.rows 1 [[vL]] false)/\ax h' n vL 3 (dE l))\/
  (e= .ret/\eq p k c=none/\h' (nx+3)=some (.rows 1 [[vi 0]] false)/\h' (nx+4)=some (.rows 1 [[vi 2]] false)))) ?_ ?_
 ·have Q:=Y2 ⟨d,nx+0,nx+1,nx+2,nx+3,nx+4,g,f,nx+5+2,0,0,0⟩ p S N k R c J K (envC (updC (updC (begC (updC (updC (updC (updC (updC (begC (slotsC [V.mp f 0 0,vi c,V.fn 376 [] [V.mp g 0 0]] 0)) 3 ⟨V.mp (nx+0) 0 0,none,none⟩) 4 ⟨V.mp (nx+1) 0 0,none,none⟩) 5 ⟨V.mp (nx+2) 0 0,none,none⟩) 6 ⟨V.mp (nx+3) 0 0,none,none⟩) 7 ⟨V.mp (nx+4) 0 0,none,none⟩)) 9 ⟨V.mp f 0 0,none,none⟩) 10 ⟨V.fn 392 [] [V.mp (nx+5+2) 0 0],none,none⟩))
   (updC (updC (updC (updC (updC (updC (updC H (nx+0) (some (O.rows 1 [[V.mp f 0 0]] false))) (nx+1) (some (O.rows 1 [[vi c]] false))) (nx+2) (some (O.rows 1 [[V.fn 376 [] [V.mp g 0 0]]] false))) (nx+3) (some (O.rows 1 [[vi 0]] false))) (nx+4) (some (O.rows 1 [[vi 0]] false))) (nx+5+2) (some (O.rows 1 [[V.mp f 0 0]] false))) d (some (O.loop _ [11] jT LSt.ready))) (d+1)
   (by rw[aq,ah rfl]) am am am am am
   (by simp only[aq];repeat(first | rw[ac aa] | rw[ah (by trivial)])) (by simp only[aq];repeat(first | rw[ac aa] | rw[ah (by trivial)])) (by simp only[aq];repeat(first | rw[ac aa] | rw[ah (by trivial)]))
   (by simp only[aq];repeat(first | rw[ac aa] | rw[ah (by trivial)])) (by simp only[aq];repeat(first | rw[ac aa] | rw[ah (by trivial)])) af
   (by simp only[aq];repeat(first | rw[ac aa] | rw[ah (by trivial)])) (by simp only[aq];(repeat(first | rw[ac aa] | rw[ah (by trivial)]));exact M) (by simp only[aq];(repeat(first | rw[ac aa] | rw[ah (by trivial)]));exact L) (by simp only;omega)
  obtain⟨r,h',n,o,m,⟨l,vL,i,s,j,y,X,Y⟩ | ⟨i,s,j,y⟩⟩:=Q
  ·exact⟨r,h',n,o,_,_,_,_,_,s,rfl,v,m,.inl ⟨rfl,l,vL,i,(fun rs e=>by rw[show h' d=some _ from s]at e;cases e),j,y,X,Y⟩⟩
  ·exact⟨r,h',n,o,_,_,_,_,_,s,rfl,v,m,.inr ⟨rfl,i,j,y⟩⟩
 ·rintro e h' n ⟨v,Z,⟨rfl,l,vL,o,W,m,i,s,j⟩ | ⟨rfl,o,m,i⟩⟩
  ·have w:(nx+3=d)=False:=aI aa;have x:(nx+4=d)=False:=aI aa;have T:(nx+4=nx+3)=False:=aI aa;have U:(nx+3=nx+4)=False:=aI aa;simp -dsimp only[go_sem,seval,m,i,w,x,T,U];refine .inl ⟨l,vL,o,rfl,?_,?_⟩
   ·simp only[cD,bE,aq];rw[ac aa,ac aa,ac aa];exact s
   ·refine j.keep (by simp[nB]) fun q r1 z=> ?_
    have A:q≠d:=by rintro rfl;exact z (j.offAt W)
    have B:q≠nx+3:=by rintro rfl;exact z (j.offAt fun rs e=>by rw[m]at e;cases e)
    have C:q≠nx+4:=by rintro rfl;exact z (j.offAt fun rs e=>by rw[i]at e;cases e)
    simp only[cD,bE,aq];rw[ac C,ac B,ac A]
  ·have w:(nx+3=d)=False:=aI aa;have x:(nx+4=d)=False:=aI aa;simp -dsimp only[go_sem,seval,m,i,w,x];exact .inr ⟨o,rfl⟩
theorem XH (p:Prog) (g:p.sane) (f:aN p=true) (k:Int) (j:0<=k/\k<=2) (a:Nat) (h:1<=a) (i:a<=20000):Den Γ G 374 [(zP p),vi k,vi a]=some (vb true):=by
 have b:Den Γ G 385 [(zP p)]=some (vb true):=by
  have b:=tD p g;have e:(dl p).1=0:=by simpa[aN]using f
  exact aD (q:=bg b e)
 have c:(a:Int)>=1:=aa
 have d:(a:Int)<=20000:=aa
 refine aD (q:=?_)
 rcases(show k=0\/k=1\/k=2 from aa)with rfl | rfl | rfl
 ·exact ds b c d
 ·exact ds b c d
 ·exact ds b c d
theorem WP (p:Prog) (j:p.sane) (h:aN p=true) (k:Int) (i:0<=k/\k<=2) (a:Nat) (f:1<=a) (g:a<=20000):
 Den Γ G 360 [(zP p),vi k,vi a]=some (match eq p k a with
  | some l=> .tup [.t (.sl (l.map fun v=>Config.enc v.c)),vi 0]
  | none=> .tup [.t (.sl []),vi 2]):=by
 have o:=XH p j h k i a f g
 have d: ∀l:List Vis,∀e∈l.map (fun v=>Config.enc v.c),∀t∈e,T.norm t=t:=by
  intro l e u t b;obtain⟨v,-,rfl⟩:=cy.1 u;simp only[Config.enc,cj,ki,dU]at b;rcases b with rfl | rfl | rfl<;>rfl
 refine aD (q:=aw o ?_);refine bf (YA p j h k i a f g 12 8 _ _ am am aa aa) ?_;rintro r h' A (⟨l,vL,c,rfl,m,n⟩ | ⟨c,rfl⟩)
 ·have b:=jD (es:=l.map fun v:Vis=>Config.enc v.c) n (d l);rw[c];rcases n with⟨rfl,q⟩ | ⟨z,rfl,y,s⟩
  ·have w:l=[]:=by simpa[dE]using q
   subst w;exact ak m
   done
  ·have x:(dE l).mapM (fun row=>row.mapM (toT h' 999))=some (l.map fun v=>Config.enc v.c):=mA h' 999 (l.map fun v:Vis=>Config.enc v.c) (d l);refine aJ m s ?_;rw[ah (ay _),be];simp only[zD];rw[x];rfl
 ·rw[c];exact am
  done
theorem Zl {l:List Int} (h:fW l=true):l.Pairwise (· < ·):=by
 have c: ∀i,i+1<l.length->l.getD i 0<l.getD (i+1) 0:=fun i hi=>by
  unfold fW at h;simp only[zN,dS,aQ]at h;exact h i aa
 have e: ∀d i,i+d+1<l.length->l.getD i 0<l.getD (i+d+1) 0:=by
  intro d
  induction d with
  | zero=>exact fun i hi=>c i hi
  | succ d g=>intro i hi;have a:=g i aa;have b:=c (i+d+1) aa;rw[show i+(d+1)+1=i+d+1+1 by omega];omega
 rw[qt];intro i j hi f m;have:=e (j-i-1) i aa;rw[show i+(j-i-1)+1=j by omega]at this;simpa[zK,zI hi,zI f]using this
theorem Al {p:Prog} (a:aN p=true) {t j:Nat} {x:Thread} {l:Loop} (b:p.threads[t]? =some x) (g:x.loops[j]? =some l):l.body.length<=48:=by
 have i:=uQ.1 (show p.ok by simpa[aN]using a);obtain⟨_,_,⟨o,q,_⟩,_,r,_,e⟩:=Jb.1 (i.threads t x b);obtain⟨⟨m,c,d⟩,n,_⟩:=KT.1 (e j l g);have s:=(mt a).2.2 x (zL b);refine us 48 _ ((Zl c).imp fun h=>aa) fun k f=> ?_
 have:=zN.1 d k f;simp only[inR,zF,aQ]at this;have:=this.1;exact⟨this.1,aa⟩
set_option maxHeartbeats 4000000 in
theorem Y8 (p:Prog) (J:p.sane) (r:aN p=true) (k:Int) (hk:0<=k/\k<=2) {t j:Nat} {x:Thread} {l:Loop} (v:p.threads[t]? =some x) (w:x.loops[j]? =some l)
 (c:List Choice) (Ac:c.length<=120) (Bm:okN p k (dz p) c=true):
 Den Γ G 341 [(zP p),vi k,.t (.sl (c.map Choice.enc)),vi t,vi j]=some (.tup [vi (itM (nxK p k) t l (dz p) c).best,vi 0]):=by
 have X:=MA p J;have Y:=wt p J r v w;have Z:=Nf k hk;have D4:=Al r v w;have Aj:=fun a=>J0 l aa a
 have O:=sa r k;have K:t<p.threads.length:=(zH.1 v).1;have Q: ¬((c.length:Int)>120):=aa
 obtain⟨T,D,_⟩:=au (show t<(dz p).at_.length by rw[O.b.la];exact K);have Or:atI (dz p).at_ t=T:=iO (al D);have Bb:(c.map Choice.enc).length=c.length:=af
 refine aD (q:=?_)
 by_cases I:T=l.head
 case' pos=>simp -dsimp only[go_sem,seval,X,Y,Z,v,w,Q,D,I]
 case' neg=>simp -dsimp only[go_sem,seval,X,Y,Z,v,w,Q,D,I]
 all_goals
  refine a8 41538374868278620992215173616823296 c.length (fun i f=>(f 55).v=vi i/\ ∃s:It,s=itM (nxK p k) t l (dz p) (c.take i)/\IsK p k s.c/\okN p k s.c (c.drop i)=true/\(f 13).v= .lb/\(f 13).box=some [.t (ints s.c.mem),.t (ints s.c.at_),.t (.sl (s.c.buf.map (fun b=>[.sl (b.map Entry.enc)])))]/\
   (f 14).v=vi s.best/\(f 15).v=vi s.arr/\0<=s.best/\s.best<=i+1/\0<=s.arr/\s.arr<=i+1) rfl rfl
   ⟨am,it0 t l (dz p),rfl,O,Bm,am,ak @it0.eq_1,ak @it0.eq_1,ds @it0.eq_1 Or I,by simp[it0],by simp[it0],by simp only[it0];split<;>omega,by simp only[it0];split<;>omega⟩ ?_
  rintro i f u kk bb hi ⟨S,s,F,E,q,U,b2,V,W,c1,c2,c3,c4⟩;have hw:=aB i aa
  by_cases B:i<c.length
  ·have C:=aW B;obtain⟨y,L,Eq⟩:=au B;rw[jj L,okN,zF,aQ]at q;obtain⟨Hs,q⟩:=q;obtain⟨d,M,hd⟩:=lW r E Hs;have N:=xQ p J r k hk s.c E y;rw[M]at N;have P:nxK p k s.c y=d:=by unfold nxK;rw[M]
   rw[P]at q;obtain⟨a,ha,_⟩:=au (show t<s.c.at_.length by rw[E.b.la];exact K);obtain⟨g,hb,_⟩:=au (show t<d.at_.length by rw[hd.b.la];exact K);have LV:atI s.c.at_ t=a:=iO (al ha);have Fv:atI d.at_ t=g:=iO (al hb);have C6:itM (nxK p k) t l (dz p) (c.take (i+1))=itS (nxK p k) t l s y:=by rw[a_ L,kbj,<- F]
   have R:=Aj g;have hS:itS (nxK p k) t l s y=s.see l d g (bH t y||decide (a= -1)):=by simp only[itS,P,LV,Fv]
   have PI:IntKind.i64.wrap (s.arr+1)=s.arr+1:=bu aa;have MO:IntKind.i64.wrap (s.arr+1-1)=s.arr+1-1:=bu aa;have FQ:IntKind.i64.wrap (s.arr-1)=s.arr-1:=bu aa;have MM:IntKind.i64.wrap (0-1)=0-1:=bu aa
   have H: ∀mv,(bH t y||decide (a= -1))=mv-> ∀(e:Nat->Slot) ,(e 55).v=vi (i+1:Nat)->(e 13).v= .lb->(e 13).box=some [.t (ints d.mem),.t (ints d.at_),.t (.sl (d.buf.map (fun b=>[.sl (b.map Entry.enc)])))]->
    (e 14).v=vi (s.see l d g mv).best->(e 15).v=vi (s.see l d g mv).arr->(e 55).v=vi (i+1:Nat)/\ ∃s:It,s=itM (nxK p k) t l (dz p) (c.take (i+1))/\IsK p k s.c/\okN p k s.c (c.drop (i+1))=true/\(e 13).v= .lb/\(e 13).box=some [.t (ints s.c.mem),.t (ints s.c.at_),.t (.sl (s.c.buf.map (fun b=>[.sl (b.map Entry.enc)])))]/\
   (e 14).v=vi s.best/\(e 15).v=vi s.arr/\0<=s.best/\s.best<=(i+1:Nat)+1/\0<=s.arr/\s.arr<=(i+1:Nat)+1:=by
     intro mv z e g1 g2 g3 g4 g5;refine⟨g1,s.see l d g mv,by rw[C6,hS,z],hd,q,g2,g3,g4,g5,?_,?_,?_,?_⟩<;>simp only[It.see]<;>repeat' split
     all_goals omega
   have h5:((bH t y||decide (a= -1))=true/\(((y.thread=t)=True/\(y.step= -1)=False/\True)\/((y.thread=t)=False/\True/\(a= -1)=True)\/((y.thread=t)=True/\(y.step= -1)=True/\(a= -1)=True)))\/
    ((bH t y||decide (a= -1))=false/\(((y.thread=t)=False/\True/\(a= -1)=False)\/((y.thread=t)=True/\(y.step= -1)=True/\(a= -1)=False))):=by
    by_cases h:y.thread=t<;>by_cases m:y.step= -1<;>by_cases n:a= -1<;>simp[bH,h,m,n]
   rcases h5 with⟨z,⟨h,m,n⟩ | ⟨h,m,n⟩ | ⟨h,m,n⟩⟩ | ⟨z,⟨h,m,n⟩ | ⟨h,m,n⟩⟩
   all_goals
    cases A:cg l g<;>rw[A]at R
    case' false=>have o:=trivial
    case' true=>
     rcases Decidable.em (g=l.head)with o | o
     case' inl=>have o:=aW o
    all_goals
     simp -dsimp only[go_sem,seval,S,C,L,U,b2,V,W,N,ha,hb,R,h,m,n,o,PI,MO,FQ,MM];exact⟨aa,H _ z _ (ak hw) (ak U) am (by simp -dsimp only[go_sem,seval,It.see,A,o,lE,pX,v_,rg,ik,jq,lr,zG,aX,aU]) (by simp -dsimp only[go_sem,seval,W,It.see,A,o,lE,pX,v_,rg,ik,jq,lr,zG,aX,aU])⟩
  ·have C:=aI B;have:i=c.length:=aa
   subst this;rw[be]at F;simp -dsimp only[go_sem,seval,S,C,V];rw[F]
theorem XK {n:Nat} {P:Nat->Prop} [DecidablePred P]:(∃i,i<n/\P i/\ ∀j,j<i-> ¬P j)\/ ∀j,j<n-> ¬P j:=by
 induction n with
 | zero=>exact .inr fun j c=>aa
 | succ n d=>
   rcases d with⟨i,f,a,b⟩ | h
   ·exact .inl ⟨i,aa,a,b⟩
   ·by_cases hp:P n
    ·exact .inl ⟨n,aa,hp,h⟩
    ·exact .inr fun j c=>by
      by_cases e:j=n
      ·rw[e];exact hp
      ·exact h j aa
def fP (l:List Vis) (t:Nat) (lp:Loop) (i:Nat):Bool:=decide (i<l.length)&&iZ l t lp i
def fZ (p:Prog) (k:Int) (l:List Vis) (t:Nat) (lp:Loop) (u:Nat):List (Nat×Choice):=fQ (bM p k l) (fP l t lp) t u (bM p k l (u/ 2))
def iM (p:Prog) (k:Int) (l:List Vis) (t:Nat) (lp:Loop) (i:Nat):Prop:=atI (bm l i).at_ t=lp.head/\Cyc (bM p k l) (fP l t lp) t i
theorem zt (p:Prog) (hs:p.sane) (J:aN p=true) (k:Int) (hk:0<=k/\k<=2) {t j:Nat} {th:Thread} {lp:Loop} (S:p.threads[t]? =some th) (Ef:th.loops[j]? =some lp) (c:Nat) (h1:1<=c) (h2:c<=10000):
 (eq p k c=none/\Den Γ G 343 [(zP p),vi k,vi t,vi j,vi c]=some (.tup [.t (.sl []),.t (.sl []),vi 2]))\/
 ∃l,eq p k c=some l/\
  ((∃i,i<l.length/\iM p k l t lp i/\(∀m,m<i-> ¬iM p k l t lp m)/\
    Den Γ G 343 [(zP p),vi k,vi t,vi j,vi c]=some (.tup [.t (.sl ((eG (bM p k l) l.length 0 i).map Choice.enc)),.t (.sl ((eG (fZ p k l t lp) (2*l.length) (2*i) (2*i+1)).map Choice.enc)),vi 0]))\/
  ((∀i,i<l.length-> ¬iM p k l t lp i)/\
    Den Γ G 343 [(zP p),vi k,vi t,vi j,vi c]=some (.tup [.t (.sl []),.t (.sl []),vi 4]))):=by
 have Y:=wt p hs J S Ef;have EK:=Nf k hk;have U:=WP p hs J k hk c h1 aa;have AO:((c:Int)<1)=False:=aI aa
 cases hb:eq p k c with
 | none=>
   refine .inl ⟨rfl,?_⟩;rw[hb]at U
   refine aD (q:=?_)
   simp -dsimp only[go_sem,seval,Y,EK,AO,U]
   done
 | some l=>
   refine .inr ⟨l,rfl,?_⟩;rw[hb]at U;simp only at U;obtain⟨hV,FZ⟩:=O' J h1 hb
   have Z: ∀R:V,((∃i,i<l.length/\iM p k l t lp i/\(∀m,m<i-> ¬iM p k l t lp m)/\
    R= .tup [.t (.sl ((eG (bM p k l) l.length 0 i).map Choice.enc)),.t (.sl ((eG (fZ p k l t lp) (2*l.length) (2*i) (2*i+1)).map Choice.enc)),vi 0])\/((∀i,i<l.length-> ¬iM p k l t lp i)/\R= .tup [.t (.sl []),.t (.sl []),vi 4]))->
    Den Γ G 343 [(zP p),vi k,vi t,vi j,vi c]=some R:=by
    intro R hR;have D4:=Al J S Ef;have Aj:=fun a=>J0 lp aa a
    refine aD (q:=?_)
    simp -dsimp only[go_sem,seval,Y,EK,AO,U,S,Ef];refine bf (Ya p hs J k hk l hV aa _ _) ?_;rintro r h' n' ⟨A,Q,vs,rfl,hG,Rj,C⟩;simp -dsimp only[go_sem,seval,hG];have Ro:Q≠A:=by rintro rfl;have:=C.e;rw[hG]at this;simp at this
    have Fn:0<l.length:=(zH.1 hV.z).1
    refine aS 38685607780924059881177088 l.length (fun i f K z=>(f 64).v=vi i/\ ∃vI,K A=some (.rows 3 [[.ms Q 0 l.length,vI,vi t]] false)/\ax K z vI 1 (cK (iZ l t lp) i)/\n'<=z/\(∀q,q<n'->q≠A->K q=h' q)/\ ∀q,q<n'->aK vI q) rfl
     ⟨am,.t .nils,by simp -dsimp only[go_sem,seval];try rfl,.inl ⟨rfl,rfl⟩,av,fun q _ B=>ak B,fun q _ i n e=>by cases e⟩ ?_
    rintro i f u' K z bs hi ⟨HC,vI,e1,hO,P1,BY,Bn⟩;have BF:=aB i aa
    by_cases d:i<l.length
    ·have o:=aW d;have D:=zI d;have hc:=ia D;have NC:=(nR hV d).b.la;have Dd:t<p.threads.length:=(zH.1 S).1;obtain⟨w,s,_⟩:=au (show t<(bm l i).at_.length by rw[NC];exact Dd);have Bj:atI (bm l i).at_ t=w:=iO (al s);have GO:iZ l t lp i=cg lp w:=by rw[iZ,Bj]
     rw[hc]at s;have Dq:=Aj w;have v1:=hO.valOf;simp -dsimp only[go_sem,seval,HC,o,D,Config.enc,e1,s,Dq,v1,(fun b=>(hO.upd (q:=z+1+4+12) aa b).rowsS: ∀b,_)];refine ce (hO.upd (q:=z+1+4+12) aa _) aa (by rw[fl];omega) aG rfl (by simp[cK]) ?_;intro vI' hp hP Cv AF;have x1:=hP.valOf;have x2:=hP.cellsV;unfold V.cells at x2;have y1:=AF A aa (Bn A Rj);rw[aq,ac aa,e1]at y1;simp -dsimp only[go_sem,seval,x1,x2,y1,HC]
     have BM:cK (iZ l t lp) (i+1)=cK (iZ l t lp) i++[[vb (cg lp w)]]:=by
      rw[cK,sW,d6,<- cK,<- GO];rfl
     refine⟨aa,bg HC BF,vI',ak y1,?_,av,fun q B Az=> ?_,fun q B=>Cv q aa⟩
     ·simp -dsimp only[go_sem,seval,y1];rw[BM];refine ax.keep (h:=At (updC K (z+1+4+12) (some (O.rows 1 [[V.t (T.bool (cg lp w))]] false))) hp) hP aa fun q q1 q2=> ?_
      have:q≠A:=by rintro rfl;exact q2 (Cv _ aa)
      simp -dsimp only[go_sem,seval,this]
     ·simp -dsimp only[go_sem,seval,Az];rw[AF q aa (Bn q B),aq,ac aa];exact BY q B Az
    ·have o:=aI d;have:i=l.length:=aa
     subst this;simp -dsimp only[go_sem,seval,HC,o];rcases hO with⟨_,e0⟩ | ⟨kI,rfl,QZ,IG⟩
     ·have:l.length=0:=by rw[<- fl (iZ l t lp) l.length,e0];rfl
      omega
     rw[fl]at e1
     have O8:cK (iZ l t lp) l.length=cK (fP l t lp) l.length:=by
      refine rD fun i hi=> ?_
      simp[fP,dS.1 hi]
     rw[O8]at IG
     have F:GrfH K z A Q kI vs l.length (bM p k l) (fP l t lp) t:=by
      refine⟨e1,(BY Q C.lt Ro).trans C.e,IG,⟨aa,by have:=C.lt;omega,QZ⟩,by rw[C.len];simp,fun i v Y=> ?_,fun i hi=> ?_,fun i hi y hy=>sM hV hi y hy,aa,fun i hi=> ?_⟩
      ·have d:=(zH.1 Y).1;rw[C.len,cP,p9]at d;have ho:=C.own i v _ Y (by rw[zJ,jt d];rfl);refine ho.keep P1 fun q q1 q2=>BY q q1 ?_
       rintro rfl;exact q2 (ho.offAt fun rs e=>by rw[hG]at e;simp at e)
      ·rw[bM,cP];exact z8 J (nR hV hi).b
      ·simp only[fP,zF,aQ]at hi;exact hi.1
     refine bf (W0 (F.keep aa fun q _=>rfl)) ?_;rintro r h2 n2 ⟨good,Df,FD,Fh,AF⟩;have v2:=Df.valOf;have T2:=F.keep (show z<=n2 from aa) fun q B=>AF q aa
     simp -dsimp only[go_sem,seval,v2]
     refine aS 340282366920319493443731917294320229376 l.length (fun i f hy y=>(f 89).v=vi i/\(∀m,m<i-> ¬iM p k l t lp m)/\n2<=y/\ ∀q,q<n2->hy q=h2 q) rfl
      ⟨am,fun m AK=>aa,av,fun q _=>rfl⟩ ?_
     rintro i f u' hy y bs hi ⟨MC,Ms,P9,DA⟩;have BF:=aB i aa;have T3:=T2.keep P9 DA
     by_cases d:i<l.length
     ·have o:=aW d;have D:=zI d;have hc:=ia D;have NC:=(nR hV d).b.la;have Dd:t<p.threads.length:=(zH.1 S).1;obtain⟨w,s,_⟩:=au (show t<(bm l i).at_.length by rw[NC];exact Dd);have Bj:atI (bm l i).at_ t=w:=iO (al s);rw[hc]at s;have J1:iM p k l t lp i<->w=lp.head/\good i=true:=by rw[iM,Bj,FD i d]
      rcases Df with⟨_,e0⟩ | ⟨kg,hr,L9,GS⟩
      ·have:l.length=0:=by rw[<- fl good l.length,e0];rfl
       omega
      rw[fl]at hr;subst hr;have Pn:=(DA kg L9).trans GS;have Pl:=mB good d
      by_cases M6:w=lp.head
      ·have Ig:=aW M6;cases I8:good i
       ·simp -dsimp only[go_sem,seval,MC,o,D,Config.enc,s,Ig,Pn,fl,Pl,I8];refine⟨aa,ak BF,fun m AK=> ?_,av,DA⟩
        by_cases e:m=i
        ·subst e;rw[J1,I8];simp
        ·exact Ms m aa
       ·simp -dsimp only[go_sem,seval,MC,o,D,Config.enc,s,Ig,Pn,fl,Pl,I8];have Rn:wK 364 A Q kI vs l.length (bM p k l) (fP l t lp) t l.length (bM p k l):=fun h x u T E=>WT T E
        have Rl:wK 365 A Q kI vs l.length (bM p k l) (fP l t lp) t (2*l.length) (fZ p k l t lp):=fun h x u T E=>Xe T E
        have QU: ∀u,u<l.length->(bM p k l u).length<=268/\ ∀e∈bM p k l u,e.1<l.length:=fun u E=>⟨F.small u E,F.to u E⟩
        have Ge: ∀u,u<2*l.length->(fZ p k l t lp u).length<=268/\ ∀e∈fZ p k l t lp u,e.1<2*l.length:=fun u E=>by
         have IU:u/ 2<l.length:=aa
         refine⟨?_,fun e he=> ?_⟩
         ·rw[fZ,fQ,cP];exact cU (ku _ _) (F.small _ IU)
         ·obtain⟨e',h',rfl⟩:=cy.1 he;have:=F.to _ IU e' (f_.1 h').1;simp only;split<;>omega
        have m1:IntKind.i64.wrap (2*(i:Int))=((2*i:Nat):Int):=mS aa aa;have m2:IntKind.i64.wrap (((2*i:Nat):Int)+1)=((2*i+1:Nat):Int):=mS aa aa;have m3:IntKind.i64.wrap (2*(l.length:Int))=((2*l.length:Nat):Int):=mS aa aa;refine bf (NU (T3.keep aa fun q _=>rfl) Rn QU aa Fn d) ?_;rintro r4 h4 n4 ⟨Gf,Qt,GN⟩;have v4:=Gf.valOf;simp -dsimp only[go_sem,seval,m1,m2,m3];refine bf (NU (T3.keep aa fun q B=>GN q aa) Rl Ge aa (fr:=2*i) (to:=2*i+1) aa aa) ?_;rintro r5 I n5 ⟨W,Qs,Ko⟩;have v5:=W.valOf;have JX:ax I n5 r4 3 (bj (eG (bM p k l) l.length 0 i)):=Gf.keep aa fun q B _=>Ko q aa
        have t4:toT I 1000 r4=_:=jD (es:=(eG (bM p k l) l.length 0 i).map Choice.enc) JX (pb _);have t5:toT I 1000 r5=_:=jD (es:=(eG (fZ p k l t lp) (2*l.length) (2*i) (2*i+1)).map Choice.enc) W (pb _)
        have QT:R= .tup [.t (.sl ((eG (bM p k l) l.length 0 i).map Choice.enc)),.t (.sl ((eG (fZ p k l t lp) (2*l.length) (2*i) (2*i+1)).map Choice.enc)),vi 0]:=by
         have Kn:iM p k l t lp i:=J1.2 ⟨M6,I8⟩;rcases hR with⟨i0,X,H,g3,g4⟩ | ⟨g,_⟩
         ·have:i0=i:=by
           rcases Nat.lt_trichotomy i0 i with h | h | h
           ·exact absurd H (Ms i0 h)
           ·exact h
           ·exact absurd Kn (g3 i h)
          subst this;exact g4
         ·exact absurd Kn (g i d)
        rw[QT];have y4:=JX.resVal;have y5:=W.resVal;unfold resVal at y4 y5;clear Gf v4 v5
        have M: ∀L:List Choice,((if(bj L).length<=(bj L).length then some (List.take (bj L).length (bj L))else none).bind fun r=>(List.mapM (fun row=>List.mapM (toT I 999) row) r).bind fun es=>some (T.sl es))=some (T.sl (L.map Choice.enc)):=fun L=>by
         rw[ah (ay _),be,zD,show(bj L).mapM (fun row=>row.mapM (toT I 999))=some (L.map Choice.enc)from mA I 999 _ (pb _)];rfl
        have N: ∀L:List Choice,bj L=[]->L=[]:=fun L h=>by simpa[bj]using h
        rcases JX with⟨rfl,e4⟩ | ⟨k4,rfl,b4,c4⟩
        ·rw[N _ e4];rcases W with⟨rfl,e5⟩ | ⟨k5,rfl,b5,c5⟩
         ·rw[N _ e5];simp -dsimp only[go_sem,seval]
          try rfl
         ·simp -dsimp only[go_sem,seval,c5];rw[M];rfl
        ·rcases W with⟨rfl,e5⟩ | ⟨k5,rfl,b5,c5⟩
         ·rw[N _ e5];simp -dsimp only[go_sem,seval,c4];rw[M];rfl
         ·simp -dsimp only[go_sem,seval,c4,c5];rw[M,M];rfl
      ·have Ig:=aI M6;simp -dsimp only[go_sem,seval,MC,o,D,Config.enc,s,Ig];refine⟨aa,ak BF,fun m AK=> ?_,av,DA⟩
       by_cases e:m=i
       ·subst e;rw[J1];exact fun h=>M6 h.1
       ·exact Ms m aa
     ·have o:=aI d;have:i=l.length:=aa
      subst this;rcases hR with⟨i,X,H,_⟩ | ⟨_,rfl⟩
      ·exact absurd H (Ms i X)
      ·simp -dsimp only[go_sem,seval,MC,o]
       done
   classical
   rcases XK (n:=l.length) (P:=iM p k l t lp)with⟨i,X,H,g3⟩ | g
   ·exact .inl ⟨i,X,H,g3,Z _ (.inl ⟨i,X,H,g3,rfl⟩)⟩
   ·exact .inr ⟨g,Z _ (.inr ⟨g,rfl⟩)⟩
theorem HI {p:Prog} (f:aN p=true) {k:Int}: ∀{a:List Choice} {c:Config},IsK p k c->okN p k c a=true-> ∀y∈a,-1<=y.step
 | [],c,_,_,y,b=>by simp at b
 | x::a,c,h,ho,y,b=>by
   rw[okN,zF,aQ]at ho;rcases cj.1 b with rfl | b
   ·rcases zY f h ho.1 with⟨u,z,i,s,_,_,_,rfl,_⟩ | ⟨_,u,i,e,_,_,_,rfl,_⟩
    ·simp only;omega
    ·simp
   ·obtain⟨d,m,j⟩:=lW f h ho.1;have g:IsK p k (nxK p k c x):=by unfold nxK;rw[m];exact j
    exact HI f g ho.2 y b
theorem U6 {m:Int} (h:0<=m):m.tmod 3=m % 3:=A9 h
theorem z6 {p:Prog} {k:Int} {l:List Vis} (hV:VisOk p k l l.length) (t:Nat) (lp:Loop): ∀u,u<2*l.length-> ∀e∈fZ p k l t lp u,e.1<2*l.length:=by
 intro u b e a;obtain⟨e',h',rfl⟩:=cy.1 a;have:=sM hV (show u/ 2<l.length from aa) e' (f_.1 h').1;simp only;split<;>omega
section
variable {p:Prog} {k:Int} {l:List Vis} (hV:VisOk p k l l.length) {t:Nat} {lp:Loop}
include hV
theorem A_ {u:Nat} (b:u/ 2<l.length):fZ p k l t lp u=py p k l t lp u:=by
 rw[fZ,fQ,py]
 congr 1
 refine List.filter_congr fun e a=> ?_
 simp[fP,sM hV b e a]
theorem B9: ∀{r:List Choice} {a b:Nat},a<2*l.length->ix (fZ p k l t lp) a r b->ix (py p k l t lp) a r b
 | [],a,b,_,h=>h
 | x::r,a,b,ha,⟨v,h1,h2⟩=>⟨v,by rw[<- A_ hV aa];exact h1,B9 (z6 hV t lp a ha _ h1) h2⟩
theorem TA {a b:Nat} (h:Rch (kT (py p k l t lp)) a b):a<2*l.length->Rch (kT (fZ p k l t lp)) a b:=by
 induction h with
 | refl=>exact fun _=> .refl _
 | cons h _ e=>
   intro d;obtain⟨x,c⟩:=h;rw[<- A_ hV aa]at c;exact .cons ⟨x,c⟩ (e (z6 hV t lp _ d _ c))
omit hV in
theorem BV {a b:Nat} (h:Rch (EI (dg (bM p k l)) (fP l t lp)) a b):Rch (EI (fun u=>(bM p k l u).map Prod.fst) (iZ l t lp)) a b:=by
 induction h with
 | refl=>exact .refl _
 | cons h _ f=>
   obtain⟨c,d,e⟩:=h;simp only[fP,zF]at c d;exact .cons ⟨c.2,d.2,e⟩ f
theorem Ty {i:Nat} (hi:i<l.length) (h:iM p k l t lp i):Rch (kT (fZ p k l t lp)) (2*i) (2*i+1):=by
 obtain⟨_,q,u,e,c,d,a,f,g,b⟩:=h;simp only[fP,zF,aQ]at d a;refine TA hV ?_ aa;obtain⟨j,r,_,n⟩:=Bl (BV b.2) 0 aa;obtain⟨m,s,b2,o⟩:=Bl (BV (g.2.trans b.1)) 1 aa;have:m=1:=aa
 subst this;refine n.trans (.cons ⟨e.2,?_⟩ o);rw[py,show(2*u+j)/ 2=u by omega];exact cy.2 ⟨e,f_.2 ⟨c,a.2⟩,by rw[ah f]⟩
end
theorem Tz {p:Prog} {k:Int} {l:List Vis} (hV:VisOk p k l l.length) {t:Nat} {lp:Loop} {i:Nat} (hi:i<l.length) (h:iM p k l t lp i):
 okN p k (dz p) (eG (bM p k l) l.length 0 i)=true/\(eG (bM p k l) l.length 0 i).foldl (nxK p k) (dz p)=bm l i/\
 nP p k t lp (bm l i) (eG (fZ p k l t lp) (2*l.length) (2*i) (2*i+1))/\(eG (fZ p k l t lp) (2*l.length) (2*i) (2*i+1)).foldl (nxK p k) (bm l i)=bm l i/\
 ∃x∈eG (fZ p k l t lp) (2*l.length) (2*i) (2*i+1),bH t x=true:=by
 have r:bm l 0=dz p:=by rw[ia hV.z];rfl
 have j: ∀u,u<l.length-> ∀e∈bM p k l u,e.1<l.length:=fun u s=>sM hV s
 have n:=BW j (show 0<l.length from aa) hi (TG hV i hi);obtain⟨c,d,_⟩:=B6 hV (show 0<l.length from aa) n;have o:=B9 hV aa (BW (z6 hV t lp) (show 2*i<2*l.length from aa) (show 2*i+1<2*l.length from aa) (Ty hV hi h))
 have g:iZ l t lp i=true:=by
  have:=h.2.1;simp only[fP,zF]at this;exact this.2
 have b:2*i/ 2=i:=aa
 have q:(2*i+1)/ 2=i:=aa
 obtain⟨f,b2,m⟩:=BB hV (a:=2*i) (by rw[b];exact hi) (by rw[b];exact g) o;rw[b]at f b2;rw[q]at b2;rw[r]at c d;exact⟨c,d,f,b2,m aa⟩
def mT (p:Prog) (k:Int) (t:Nat) (lp:Loop) (c:Config) (y:Choice):Prop:=cg lp (atI c.at_ t)=true->cg lp (atI (nxK p k c y).at_ t)=true->
 lp.variant.ev (nxK p k c y).mem (nxK p k c y).mem<=lp.variant.ev c.mem c.mem/\(bH t y=true->atI (nxK p k c y).at_ t=lp.head->lp.variant.ev (nxK p k c y).mem (nxK p k c y).mem<lp.variant.ev c.mem c.mem)
theorem TD (p:Prog) (hs:p.sane) (R:aN p=true) (k:Int) (hk:0<=k/\k<=2) {t j:Nat} {th:Thread} {lp:Loop} (BG:p.threads[t]? =some th) (Ef:th.loops[j]? =some lp) (l:List Vis) (hV:VisOk p k l l.length) (hl:l.length<=40):
 ∃b:Bool,Den Γ G 346 [(zP p),vi k,vi t,(.agg [.t (ti (lp).head),.t (ints (lp).body),.t (ti ((lp).variant).op),.t (ti ((lp).variant).w),.t (ti ((lp).variant).n),.t (.sl (((lp).variant).kids.map Expr.enc))]),.t (.sl (l.map fun v=>Config.enc v.c))]=some (vb b)/\(b=true-> ∀i,i<l.length-> ∀y∈bP p k (bm l i),mT p k t lp (bm l i) y):=by
 obtain⟨A,hL⟩:=zZ R BG Ef;have D4:=Al R BG Ef;have Aj:=fun a=>Tx lp aa a
 have MR:lp.variant.formed=true:=by have:=hL.vV;simp only[Expr.valid,zF]at this;exact this.1
 have Bs:=fun Y=>Gt Y Y 40 lp.variant (lY MR)
 have Dd:t<p.threads.length:=(zH.1 BG).1
 have key: ∀b:Bool,(b=true<-> ∀i,i<l.length-> ∀y∈bP p k (bm l i),mT p k t lp (bm l i) y)->
  Den Γ G 346 [(zP p),vi k,vi t,(.agg [.t (ti (lp).head),.t (ints (lp).body),.t (ti ((lp).variant).op),.t (ti ((lp).variant).w),.t (ti ((lp).variant).n),.t (.sl (((lp).variant).kids.map Expr.enc))]),.t (.sl (l.map fun v=>Config.enc v.c))]=some (vb b):=by
  intro b hb
  refine aD (q:=?_)
  simp -dsimp only[go_sem,seval];refine a8 664613997892457936451903530140171264 l.length (fun i f=>(f 11).v=vi i/\ ∀M,M<i-> ∀y∈bP p k (bm l M),mT p k t lp (bm l M) y) rfl rfl ⟨am,fun M AK=>aa⟩ ?_;rintro i f u x bs hi ⟨Z,hd⟩;have hw:=aB i aa
  by_cases V:i<l.length
  ·have DB:=aW V;have hg:=zI V;have U:=ia hg;have Q:=nR hV V;have Ch:=z_ p hs R k hk _ Q;have By:=z8 R (k:=k) Q.b;obtain⟨a0,n,_⟩:=au (show t<(bm l i).at_.length by rw[Q.b.la];exact Dd);have Bj:atI (bm l i).at_ t=a0:=iO (al n);have o:=Aj a0;rw[U]at Ch n;simp -dsimp only[go_sem,seval,Z,DB,hg,Config.enc,Ch];refine a8 664613997892457936451903512961336320 (bP p k (bm l i)).length (fun q f=>(f 14).v=vi q/\ ∀y∈(bP p k (bm l i)).take q,mT p k t lp (bm l i) y) rfl rfl ⟨am,af⟩ ?_;rintro q f u x bs hq ⟨B,So⟩;have P:=aB q aa;rw[U]at hq So By Bj Q⊢
   by_cases Ed:q<(bP p k l[i].c).length
   ·have r:=aW Ed;cases EO:cg lp a0
    ·rw[EO]at o;simp -dsimp only[go_sem,seval,B,r,n,o,Z];refine⟨aa,ak hw,fun M AK=> ?_⟩
     by_cases e:M=i
     ·subst e;rw[U];exact fun y _ h=>by rw[Bj,EO]at h;cases h
     ·exact hd M aa
    ·rw[EO]at o;obtain⟨y,F,Eq⟩:=au Ed;have C:=Gu p hs R k hk _ Q y Eq;obtain⟨d,Bt,RZ⟩:=lW R Q Eq;have Sp:nxK p k l[i].c y=d:=by rw[nxK,Bt]
     rw[Bt]at C;obtain⟨E,D,_⟩:=au (show t<d.at_.length by rw[RZ.b.la];exact Dd);have Sq:atI d.at_ t=E:=iO (al D);have m:=Aj E;have I:=Bs l[i].c.mem;have H:=Bs d.mem;have AE: -1<=y.step:=HI R Q (show okN p k l[i].c [y]=true by rw[okN,zF,aQ];exact⟨Eq,rfl⟩) y af
     generalize PF:lp.variant.ev l[i].c.mem l[i].c.mem=S at *
     generalize KA:lp.variant.ev d.mem d.mem=T at *
     have J:mT p k t lp l[i].c y<->(cg lp E=true->T<=S/\(bH t y=true->E=lp.head->T<S)):=by
      rw[mT,Sp,Bj,Sq,PF,KA,EO];simp
     have O:mT p k t lp l[i].c y-> ∀z∈(bP p k l[i].c).take (q+1),mT p k t lp l[i].c z:=fun L z hz=>by
      rcases(lX F).1 hz with h | rfl
      ·exact So z h
      ·exact L
     have X: ¬mT p k t lp l[i].c y->b=false:=fun hn=>by
      cases Om:b
      ·rfl
      ·exact absurd (by have:=hb.1 Om i V y (by rw[U];exact Eq);rw[U]at this;exact this) hn
     rcases(show(y.thread≠(t:Int))\/(y.thread=(t:Int)/\ ¬y.step>=0)\/(y.thread=(t:Int)/\y.step>=0/\E≠lp.head)\/(y.thread=(t:Int)/\y.step>=0/\E=lp.head)by
      by_cases c:y.thread=(t:Int)
      ·by_cases w:y.step>=0
       ·by_cases K:E=lp.head
        ·exact .inr (.inr (.inr ⟨c,w,K⟩))
        ·exact .inr (.inr (.inl ⟨c,w,K⟩))
       ·exact .inr (.inl ⟨c,w⟩)
      ·exact .inl c)with c | ⟨c,w⟩ | ⟨c,w,K⟩ | ⟨c,w,K⟩
     ·have W: ¬(bH t y=true/\E=lp.head):=fun h=>by simp[bH,c]at h
      cases s:cg lp E<;>rw[s]at m
      ·simp -dsimp only[go_sem,seval,B,r,n,o,F,C,I,H,D,m,ep c];exact⟨aa,ak P,O (J.2 fun h=>by rw[s]at h;cases h)⟩
      ·by_cases g:T>S
       ·have N:=X fun L=>by have:=(J.1 L s).1;omega
        simp -dsimp only[go_sem,seval,B,r,n,o,F,C,I,H,D,m,ep c,dc g];exact N.symm
       ·simp -dsimp only[go_sem,seval,B,r,n,o,F,C,I,H,D,m,ep c,ep g];exact⟨aa,ak P,O (J.2 fun _=>⟨aa,fun a b=>absurd ⟨a,b⟩ W⟩)⟩
     ·have W: ¬(bH t y=true/\E=lp.head):=fun h=>by have:y.step= -1:=aa;simp[bH,this]at h
      cases s:cg lp E<;>rw[s]at m
      ·simp -dsimp only[go_sem,seval,B,r,n,o,F,C,I,H,D,m,dc c,ep w];exact⟨aa,ak P,O (J.2 fun h=>by rw[s]at h;cases h)⟩
      ·by_cases g:T>S
       ·have N:=X fun L=>by have:=(J.1 L s).1;omega
        simp -dsimp only[go_sem,seval,B,r,n,o,F,C,I,H,D,m,dc c,ep w,dc g];exact N.symm
       ·simp -dsimp only[go_sem,seval,B,r,n,o,F,C,I,H,D,m,dc c,ep w,ep g];exact⟨aa,ak P,O (J.2 fun _=>⟨aa,fun a b=>absurd ⟨a,b⟩ W⟩)⟩
     ·have W: ¬(bH t y=true/\E=lp.head):=fun h=>K h.2
      cases s:cg lp E<;>rw[s]at m
      ·simp -dsimp only[go_sem,seval,B,r,n,o,F,C,I,H,D,m,dc c,dc w,ep K];exact⟨aa,ak P,O (J.2 fun h=>by rw[s]at h;cases h)⟩
      ·by_cases g:T>S
       ·have N:=X fun L=>by have:=(J.1 L s).1;omega
        simp -dsimp only[go_sem,seval,B,r,n,o,F,C,I,H,D,m,dc c,dc w,ep K,dc g];exact N.symm
       ·simp -dsimp only[go_sem,seval,B,r,n,o,F,C,I,H,D,m,dc c,dc w,ep K,ep g];exact⟨aa,ak P,O (J.2 fun _=>⟨aa,fun a b=>absurd ⟨a,b⟩ W⟩)⟩
     ·have Ab:bH t y=true:=by
       have:y.step≠ -1:=aa
       simp[bH,c,this]
      cases s:cg lp E<;>rw[s]at m
      ·simp -dsimp only[go_sem,seval,B,r,n,o,F,C,I,H,D,m,dc c,dc w,dc K];exact⟨aa,ak P,O (J.2 fun h=>by rw[s]at h;cases h)⟩
      ·by_cases g:T>S
       ·have N:=X fun L=>by have:=(J.1 L s).1;omega
        simp -dsimp only[go_sem,seval,B,r,n,o,F,C,I,H,D,m,dc c,dc w,dc K,dc g];exact N.symm
       ·by_cases g2:T=S
        ·have N:=X fun L=>by have:=(J.1 L s).2 Ab K;omega
         simp -dsimp only[go_sem,seval,B,r,n,o,F,C,I,H,D,m,dc c,dc w,dc K,ep g,dc g2];exact N.symm
        ·simp -dsimp only[go_sem,seval,B,r,n,o,F,C,I,H,D,m,dc c,dc w,dc K,ep g,ep g2];exact⟨aa,ak P,O (J.2 fun _=>⟨aa,fun _ _=>aa⟩)⟩
   ·have r:=aI Ed;simp -dsimp only[go_sem,seval,B,r,Z];refine⟨aa,ak hw,fun M AK=> ?_⟩
    by_cases e:M=i
    ·subst e;rw[U];rw[c6 aa]at So;exact So
    ·exact hd M aa
  ·have DB:=aI V;have:i=l.length:=aa
   subst this;have:true=b:=(hb.2 hd).symm;simp -dsimp only[go_sem,seval,Z,DB,this]
 classical
 exact⟨decide _,key _ decide_eq_true_iff,nT⟩
theorem TE (B:Den Γ G 334 []=some (vb true)) (p:Prog) (L:p.lite) (m:Int) (hm:0<=m/\m<256) (t j:Int):
 Den Γ G 332 [(zP p),.t (.int .u8 m),vi t,vi j]=some (vb true):=by
 have g:=Yu p L t j
 refine aD (q:=?_)
 cases w:i8 p&&ji p t j
 ·rw[w]at g;simp -dsimp only[go_sem,seval,B,g]
 ·rw[w]at g;simp only[zF]at w;obtain⟨W,X⟩:=w;have D:=P_ L W;obtain⟨f,O,jn,x,l,rfl,rfl,s,n⟩:=Yt X;obtain⟨A,hL⟩:=zZ f s n;have E:IntKind.i64.wrap m=m:=bu aa;have z:=U6 hm.1
  generalize Ah:m % 3=k at z
  have C:0<=k/\k<=2:=aa
  have h:=Xp p D f k C;have u:Den Γ G 345 [(zP p),vi k,vi 40]=_:=Gq p D f k C 40 aa aa
  cases o:eq p k 40 with
  | none=>
    rw[o]at h
    simp -dsimp only[go_sem,seval,B,g,E,z,h,mh]
  | some d=>
    rw[o]at h u;simp only at u;obtain⟨hV,U⟩:=O' f aa o;obtain⟨b,Y,R⟩:=TD p D f k C s n d hV U;have F:Den Γ G 346 [(zP p),vi k,vi O,(.agg [.t (ti (l).head),.t (ints (l).body),.t (ti ((l).variant).op),.t (ti ((l).variant).w),.t (ti ((l).variant).n),.t (.sl (((l).variant).kids.map Expr.enc))]),.t (.sl (d.map fun v=>Config.enc v.c))]=_:=Y;simp only[Config.enc]at F;cases b
    ·simp -dsimp only[go_sem,seval,B,g,E,z,h,qW,u,s,n,F]
    ·have Z:=R rfl;rcases zt p D f k C s n 40 aa aa with⟨e,_⟩ | ⟨K,e,H⟩
     ·rw[o]at e;cases e
     rw[o]at e;obtain rfl:d=K:=by cases e;rfl
     rcases H with⟨i,J,M,i3,_⟩ | ⟨n0,H⟩
     ·obtain⟨r1,r2,r3,N,r5⟩:=Tz hV J M;have V:=nR hV J
      have hQ: ∀(c:Config) (y:Choice),(∃q,q<d.length/\c=bm d q)->y∈bP p k c-> ∃q,q<d.length/\nxK p k c y=bm d q:=by
       rintro c y ⟨q,r,rfl⟩ I;obtain⟨a,b⟩:=sK hV r I;exact⟨_,a,b.symm⟩
      have:=(HD f hL.nb (v:=fun c=>l.variant.ev c.mem c.mem) (Q:=fun c=> ∃q,q<d.length/\c=bm d q) hQ (fun c y r P I T=>by
       obtain⟨q,r,rfl⟩:=r
       exact Z q r y I P T) V ⟨i,J,rfl⟩ r3).2 (by rw[N];exact M.1) r5
      rw[N]at this;omega
     ·have S:Den Γ G 343 [(zP p),vi k,vi O,vi jn,vi 40]=_:=H;simp -dsimp only[go_sem,seval,B,g,E,z,h,qW,u,s,n,F,S]
end Rg
end
