/- Part of the proof of laws of relyguardlaw36. No condition. -/
import Derived.Test.YtaiokglcgiemnaaGreatDoorEartAP
import Derived.Test.YtaiokglcgiemnaaGreatDoorEartAS
import Derived.Test.YtaiokglcgiemnaaGreatDoorEartAR
import Derived.Test.YtaiokglcgiemnaaGreatDoorEartAO
set_option linter.unusedSimpArgs false
set_option linter.unusedVariables false
set_option linter.defProp false
section
set_option maxRecDepth 100000
namespace Rg
open Go
theorem kbl {α:Type} (P:α->Bool) {y a b:List α}: ∀{x:List α},(∀c∈x,P c=true)->(∀c∈y,P c=true)->(∀c r,a=c::r->P c=false)->(∀c r,b=c::r->P c=false)->x++a=y++b->x=y/\a=b:=by
 intro x
 induction x generalizing y with
 | nil=>
   intro j m f g h
   cases y with
   | nil=>exact⟨rfl,h⟩
   | cons c y=>
     have e:=f c (y++b) (ak h)
     rw[m c af]at e;cases e
 | cons d x o=>
   intro j m f g h
   cases y with
   | nil=>
     have e:=g d (x++a) (ak h.symm)
     rw[j d af]at e;cases e
   | cons c y=>
     simp only[i8,gh]at h;obtain⟨e,n⟩:=o (fun c i=>j c (by simp[i])) (fun c i=>m c (by simp[i])) f g h.2;exact⟨by rw[h.1,e],n⟩
def qz (c:UInt8):Bool:=decide (48<=c.toNat/\c.toNat<=57)
def rO (l:List UInt8):Nat:=l.foldl (fun a c=>10*a+(c.toNat-48)) 0
theorem tV: ∀(u:Nat),∀c∈Go.Lib.decDigits u,qz c=true:=by
 intro u
 induction u using Nat.strongRecOn with
 | _ u b=>
 intro c a;rw[Go.Lib.decDigits]at a;split at a
 ·simp only[bD]at a;subst a;have:u<10:=bC
  simp only[qz,aR,pQ];omega
 ·rcases cx.1 a with a | a
  ·exact b (u/ 10) aa c a
  ·simp only[bD]at a;subst a;simp only[qz,aR,pQ];omega
theorem tT: ∀(u:Nat),rO (Go.Lib.decDigits u)=u:=by
 intro u
 induction u using Nat.strongRecOn with
 | _ u b=>
 rw[Go.Lib.decDigits];split
 ·have:u<10:=bC
  simp only[rO,jl,oE,pQ];omega
 ·have a:=b (u/ 10) aa;unfold rO at a⊢;rw[iy,a];simp only[jl,oE,pQ];omega
theorem kb5 (z:Int): ∀c∈num z,33<=c.toNat:=by
 intro c a;unfold num Go.Lib.itoa at a;split at a
 ·rcases cq.1 a with rfl | a
  ·decide
  ·have:=tV _ c a;simp only[qz,aR]at this;omega
 ·have:=tV _ c a;simp only[qz,aR]at this;omega
theorem kbY {a b:Int} (h:num a=num b):a=b:=by
 unfold num Go.Lib.itoa at h
 have c: ∀(u:Nat) (l:List UInt8),¬Go.Lib.decDigits u=45::l:=fun u l h=>by
  have:=tV u 45 (by rw[h];simp)
  revert this;decide
 split at h<;>split at h
 ·simp only[gh,nK]at h;have:=bz rO h;rw[tT,tT]at this;omega
 ·exact absurd h.symm (c _ _)
 ·exact absurd h (c _ _)
 ·have:=bz rO h;rw[tT,tT]at this;omega
theorem L6 (s:UInt8): ∀(A B:List (List UInt8)),(∀x∈A,s∉ x)->(∀x∈B,s∉ x)->A.flatMap (fun x=>x++[s])=B.flatMap (fun x=>x++[s])->A=B
 | [],[],_,_,_=>rfl
 | [],b::B,_,_,h=>by simp at h
 | a::A,[],_,_,h=>by simp at h
 | a::A,b::B,ha,hb,h=>by
   simp only[dq,zQ,vW]at h
   obtain⟨i,g⟩:=kbl (fun c=> !decide (c=s)) (x:=a) (y:=b) (fun c e=>by have:=ha a af;simp;rintro rfl;exact this e) (fun c e=>by have:=hb b af;simp;rintro rfl;exact this e)
    (fun c t d=>by simp only[gh]at d;simp[d.1]) (fun c t d=>by simp only[gh]at d;simp[d.1]) h
   simp only[gh,nK]at g;rw[i,L6 s A B (fun x f=>ha x (by simp[f])) (fun x f=>hb x (by simp[f])) g]
theorem J7 (ws:List (List UInt8)) (h:ws≠[]):Go.Lib.join ws [32]++[32]=ws.flatMap fun x=>x++[32]:=by
 induction ws with
 | nil=>exact absurd rfl h
 | cons w r a=>
   cases r with
   | nil=>rw[Go.Lib.join_one];simp
   | cons v r=>
     have:=a af;rw[dq,<- this,Go.Lib.join_cons,Go.Lib.join_cons];simp[Go.Lib.joinTail]
def yV (ws:List (List UInt8)):Prop:=ws≠[]/\ ∀w∈ws,∀c∈w,33<=c.toNat
theorem ka5 {a b:List (List UInt8)} (e:yV a) (f:yV b) (h:Go.Lib.join a [32]=Go.Lib.join b [32]):a=b:=by
 refine L6 32 a b (fun x d c=> ?_) (fun x d c=> ?_) (by rw[<- J7 a e.1,<- J7 b f.1,h])
 ·have:=e.2 x d 32 c;revert this;decide
 ·have:=f.2 x d 32 c;revert this;decide
end Rg
end
section
namespace Rg
open Go
theorem y9 (z:Int):num z≠[59]/\num z≠[47]:=by
 have : ∀k:UInt8,qz k=false->k≠45->num z≠[k]:=by
  intro k b a h;unfold num Go.Lib.itoa at h;split at h
  ·simp only[gh]at h;exact a h.1.symm
  ·have:=tV _ k (by rw[h];simp);rw[b]at this;cases this
 exact⟨this 59 aI aI,this 47 aI aI⟩
theorem sw: ∀{a b:List Int} {r s:List (List UInt8)},wl a++r=wl b++s->a=b/\r=s
 | [],[],r,s,h=>⟨rfl,by simpa[wl]using h⟩
 | [],z::b,r,s,h=>by
   simp only[wl,be,eY,aT,i8,vW,gh]at h
   exact absurd h.1.symm (y9 z).1
 | z::a,[],r,s,h=>by
   simp only[wl,be,eY,aT,i8,vW,gh]at h
   exact absurd h.1 (y9 z).1
 | y::a,z::b,r,s,h=>by
   have e: ∀(z:Int) (l:List Int) (r:List (List UInt8)),wl (z::l)++r=num z::(wl l++r):=fun z l r=>by simp[wl]
   rw[e,e,gh]at h;obtain⟨c,d⟩:=sw h.2;exact⟨by rw[kbY h.1,c],d⟩
theorem Ry (a:List Int) (r s:List (List UInt8)):wl a++r≠[47]::s:=by
 cases a with
 | nil=>intro h;simp[wl]at h
 | cons z a=>
   intro h;simp only[wl,aT,i8,gh]at h;exact(y9 z).2 h.1
theorem Qj: ∀{a b:List Entry} {r s:List (List UInt8)},bufW a++r=bufW b++s->a=b/\r=s
 | [],[],r,s,h=>⟨rfl,by simpa[bufW]using h⟩
 | [],z::b,r,s,h=>by
   simp only[bufW,fK,eY,dq,entW,zQ]at h
   exact absurd h.symm (Ry _ _ _)
 | z::a,[],r,s,h=>by
   simp only[bufW,fK,eY,dq,entW,zQ]at h
   exact absurd h (Ry _ _ _)
 | y::a,z::b,r,s,h=>by
   have e: ∀(z:Entry) (l:List Entry) (r:List (List UInt8)),bufW (z::l)++r=wl z.cells++(wl z.values++(bufW l++r)):=fun z l r=>by simp[bufW,entW]
   rw[e,e]at h;obtain⟨c,f⟩:=sw h;obtain⟨d,g⟩:=sw f;obtain⟨i,j⟩:=Qj g
   have:y=z:=by
    cases y;cases z;simp only at c d;rw[c,d]
   exact⟨by rw[this,i],j⟩
theorem SB (a:List Entry):bufW a≠[]:=by simp[bufW]
theorem OS: ∀{a b:List (List Entry)},a.flatMap bufW=b.flatMap bufW->a=b
 | [],[],h=>rfl
 | [],z::b,h=>by
   rw[fK,dq]at h
   exact absurd (vU.1 h.symm).1 (SB z)
 | z::a,[],h=>by
   rw[fK,dq]at h
   exact absurd (vU.1 h).1 (SB z)
 | y::a,z::b,h=>by
   rw[dq,dq]at h;obtain⟨c,d⟩:=Qj h;rw[c,OS d]
theorem uT (l:List Int): ∀w∈wl l,∀c∈w,33<=c.toNat:=by
 intro w b c a;simp only[wl,cx,df,bD]at b;rcases b with⟨n,_,rfl⟩ | rfl
 ·exact kb5 n c a
 ·simp only[bD]at a;subst a;decide
theorem SK (c:Config):yV (cfgW c):=by
 refine⟨by simp[cfgW,wl],fun w a f d=> ?_⟩;simp only[cfgW,cx,de,bufW,bD,entW]at a;rcases a with(a | a) | ⟨b,_,⟨e,_,a | a⟩ | rfl⟩
 ·exact uT _ w a f d
 ·exact uT _ w a f d
 ·exact uT _ w a f d
 ·exact uT _ w a f d
 ·simp only[bD]at d;subst d;decide
theorem Ou {c d:Config} (h:lK c=lK d):c=d:=by
 have a:=ka5 (SK c) (SK d) (kcM.1 h);unfold cfgW at a;rw[zQ,zQ]at a;obtain⟨b,g⟩:=sw a;obtain⟨e,i⟩:=sw g;have f:=OS i;cases c;cases d;simp only at b e f;rw[b,e,f]
end Rg
end
section
namespace Rg
open Go
structure RK where
 ky:Nat
 k3:Nat
 k4:Nat
 k5:Nat
 k6:Nat
 k7:Nat
 kL:Nat
 kS:Nat
 kSV:Nat
 kY:Nat
 kSe:Nat
 kM:Nat
structure RI (K:RK) (p:Prog) (k:Int) (lim:Nat) (env:Nat->V) (h:Nat->Option O) (x:Nat) (l lst:List Vis) (vV vL:V):Prop where
 hk:h K.ky=some (.loop env [11] jQ .ready)
 e3:env 3= .mp K.k3 0 0
 e4:env 4= .mp K.k4 0 0
 e5:env 5= .mp K.k5 0 0
 e6:env 6= .mp K.k6 0 0
 e7:env 7= .mp K.k7 0 0
 h3:h K.k3=some (.rows 1 [[.mp K.kS 0 0]] false)
 h4:h K.k4=some (.rows 1 [[vi lim]] false)
 h5:h K.k5=some (.rows 1 [[.fn 376 [] [.mp K.kL 0 0]]] false)
 h6:h K.k6=some (.rows 1 [[vi 0]] false)
 h7:h K.k7=some (.rows 1 [[vi 0]] false)
 n67:K.k6≠K.k7
 hSV:h K.kSV=some (.rows 1 [[.mp K.kS 0 0]] false)
 hY:h K.kY=some (.rows 1 [[.yl K.ky]] false)
 hSe:h K.kSe=some (.rows 1 [[.mm K.kM]] false)
 hM:h K.kM=some (.map (mapL (fun v:Vis=>ey v.c) (fun _=>vb true) l))
 hS:h K.kS=some (.rows 6 [[.t (.sl (p.cells.map Cell.enc)),.t (.sl (p.modules.map Contract.enc)),.t (.sl (p.locks.map Lock.enc)),.t (.sl (p.threads.map Thread.enc)),vi k,vV]] false)
 oV:ay h x vV 7 (iN l)
 hL:h K.kL=some (.rows 1 [[vL]] false)
 oL:ay h x vL 3 (dx lst)
 bd:K.ky<x/\K.k3<x/\K.k4<x/\K.k5<x/\K.k6<x/\K.k7<x/\K.kL<x/\K.kS<x/\K.kSV<x/\K.kY<x/\K.kSe<x/\K.kM<x
theorem kcz {h:ae} {x:Nat} {v:V} {c:Nat} {rows:List (List V)} (o:ay h x v c rows):(∀k i j,v≠ .mp k i j)/\(∀n,v≠vi n)/\(∀f a b,v≠ .fn f a b)/\(∀k,v≠ .yl k)/\(∀k,v≠ .mm k):=by
 rcases o with⟨rfl,_⟩ | ⟨k,rfl,_⟩<;>simp
section
variable {K:RK} {p:Prog} {k:Int} {lim:Nat} {env:Nat->V} {h h' : Nat->Option O} {x x' : Nat} {l lst l' lst' : List Vis} {vV vL vV' vL' : V}
theorem RI.offL (R:RI K p k lim env h x l lst vV vL) {q:Nat} (a: ∀rs,h q≠some (.rows 3 rs false)):aK vL q:=R.oL.offAt a
theorem RI.offV (R:RI K p k lim env h x l lst vV vL) {q:Nat} (a: ∀rs,h q≠some (.rows 7 rs false)):aK vV q:=R.oV.offAt a
theorem RI.next (R:RI K p k lim env h x l lst vV vL) (L:x<=x') (C: ∀j,j<x->j≠K.kL->j≠K.kM->j≠K.kS->aK vL j->aK vV j->h' j=h j)
 (A:h' K.kM=some (.map (mapL (fun v:Vis=>ey v.c) (fun _=>vb true) l')))
 (B:h' K.kS=some (.rows 6 [[.t (.sl (p.cells.map Cell.enc)),.t (.sl (p.modules.map Contract.enc)),.t (.sl (p.locks.map Lock.enc)),.t (.sl (p.threads.map Thread.enc)),vi k,vV']] false)) (oV:ay h' x' vV' 7 (iN l'))
 (z:h' K.kL=some (.rows 1 [[vL']] false)) (oL:ay h' x' vL' 3 (dx lst')):RI K p k lim env h' x' l' lst' vV' vL':=by
 obtain⟨e,b2,g,i,m,n,I,J,q,c,d,f⟩:=R.bd;obtain⟨D,E,F,G,H⟩:=kcz R.oL
 have a: ∀j o,h j=o->j<x->(o≠some (.rows 1 [[vL]] false))->(∀es,o≠some (.map es))->(∀rs,o≠some (.rows 6 rs false))->(∀rs,o≠some (.rows 3 rs false))->(∀rs,o≠some (.rows 7 rs false))->h' j=o:=fun j o b r s t u w y=>by
  rw[C j r (db b R.hL s) (db b R.hM (t _)) (db b R.hS (u _)) (R.offL fun rs=>b▸w rs) (R.offV fun rs=>b▸y rs),b]
 refine⟨a _ _ R.hk e ?_ ?_ ?_ ?_ ?_,R.e3,R.e4,R.e5,R.e6,R.e7,a _ _ R.h3 b2 ?_ ?_ ?_ ?_ ?_,a _ _ R.h4 g ?_ ?_ ?_ ?_ ?_,a _ _ R.h5 i ?_ ?_ ?_ ?_ ?_,a _ _ R.h6 m ?_ ?_ ?_ ?_ ?_,a _ _ R.h7 n ?_ ?_ ?_ ?_ ?_,R.n67,
  a _ _ R.hSV q ?_ ?_ ?_ ?_ ?_,a _ _ R.hY c ?_ ?_ ?_ ?_ ?_,a _ _ R.hSe d ?_ ?_ ?_ ?_ ?_,A,B,oV,z,oL,aa⟩
 all_goals(first | (intro rs h;simp at h;done) | (intro h;simp at h;done) | (intro h;simp at h;first | exact D _ _ _ h.symm | exact E _ h.symm | exact F _ _ _ h.symm | exact G _ h.symm | exact H _ h.symm))
theorem RI.le (R:RI K p k lim env h x l lst vV vL) (a:x<=x'):RI K p k lim env h x' l lst vV vL:=R.next a (fun _ _ _ _ _ _ _=>rfl) R.hM R.hS (R.oV.le a) R.hL (R.oL.le a)
theorem RI.yield {d:Vis} (R:RI K p k lim env h x (l++[d]) l vV vL) (D:l.length<2^30) (S:l.length≠lim):
 ∃h' b vL',DenY Γ G K.ky [vi l.length] h x=some (vb true,h',b)/\RI K p k lim env h' b (l++[d]) (l++[d]) vV vL'/\x<=b:=by
 obtain⟨v,b2,z,A,T,U,B,r,W,w,y,f⟩:=R.bd;rcases R.oV with⟨_,C⟩ | ⟨g,rfl,s,a⟩
 ·have:=bz List.length C;rw[mr]at this;simp at this
 have t:=R.hS;rw[mr]at t;obtain⟨h',b,M,N,⟨vL',P,Q,X⟩,u,c⟩:=kcu (l:=l++[d]) (lst:=l) (d:=d) (i:=l.length) R.hk R.e3 R.e4 R.e5 R.h3 R.h4 R.h5 t a af R.hL R.oL D v b2 z A r s B aa;have J:K.kS≠K.kL:=db R.hS R.hL af;have I:K.kM≠K.kL:=db R.hM R.hL af;have n:K.kS≠K.ky:=db R.hS R.hk af;have m:K.kM≠K.ky:=db R.hM R.hk af;have L:g≠K.kL:=db a R.hL af;have o:g≠K.ky:=db a R.hk af;refine⟨h',b,vL',M,R.next u (fun j E F _ _ H _=> ?_) ?_ ?_ ?_ P Q,u⟩
 ·by_cases q:j=K.ky
  ·rw[q,N,R.hk]
  ·exact c j E q F H
 ·rw[c _ f m I (R.offL fun rs e=>by rw[R.hM]at e;cases e),R.hM]
 ·rw[c _ r n J (R.offL fun rs e=>by rw[R.hS]at e;cases e),R.hS]
 ·exact .inr ⟨g,rfl,aa,by rw[c _ s o L (R.offL fun rs e=>by rw[a]at e;cases e)];exact a⟩
def pd (K:RK) (env:Nat->V) (h:ae):Prop:=h K.ky=some (.loop env [11] jQ (.done .ret))/\h K.k6=some (.rows 1 [[vi 0]] false)/\h K.k7=some (.rows 1 [[vi 2]] false)
theorem RI.stop (R:RI K p k lim env h x l lst vV vL): ∃h' a,DenY Γ G K.ky [vi lim] h x=some (vb false,h',a)/\pd K env h'/\x<=a:=by
 obtain⟨h',a,b,c,d,e,f⟩:=kct (n:=x) R.hk R.e4 R.e6 R.e7 R.h4 R.h6 R.h7 R.n67;exact⟨h',a,b,⟨c,d,e⟩,f⟩
end
end Rg
end
section
namespace Rg
open Go
theorem X6 {K:RK} {p:Prog} (hf:aO p=true) {k:Int} {lim:Nat} {env:Nat->V} {H:ae} {nx:Nat} {l:List Vis} {vV vL:V} (R:RI K p k lim env H nx l l vV vL) (d:Vis) (hd:IsB p d.c) (Aa: ∀v∈l,IsB p v.c) (hl:l.length<2^29):
 ∃r h' f,DenR Γ G 393 [.agg (qB d),.mp K.kSe 0 0,.mp K.kSV 0 0,.mp K.kY 0 0] H nx=some (r,h',f)/\(nx<=f/\if g6 l d.c then r=vb true/\ ∃vV' vL',RI K p k lim env h' f l l vV' vL'
  else if l.length=lim then r=vb false/\pd K env h' else r=vb true/\ ∃vV' vL',RI K p k lim env h' f (l++[d]) (l++[d]) vV' vL'):=by
 obtain⟨b1,b2,b3,b4,b5,b6,b7,b8,b9,b10,b11,b12⟩:=R.bd;have DA:=Zu p hf d.c hd;have D:=u0 (fun v:Vis=>ey v.c) (fun _=>vb true) (ey d.c) l;have C:=Wg hf Aa hd (l:=l);have m:=R.hM;have u:=R.hSe;unfold qB l6
 refine bM (q:=?_)
 cases Dx:g6 l d.c
 ·rw[Dx]at C;have o:l.find? (fun a=>ey d.c==ey a.c)=none:=ak C
  rw[o]at D
  have Jj:=vk (fun v:Vis=>ey v.c) (fun _=>vb true) (ey d.c) (vb true) l fun a ha=>by
   have:=pV.1 o a ha;simpa using this
  have g:=R.hSV;have n:=R.hS;have E:=R.hY;have w:K.kSV≠K.kM:=db g m af;have S:K.kS≠K.kM:=db n m af;have nY:K.kY≠K.kM:=db E m af;have nSSV:K.kSV≠K.kS:=db g n af;have U:K.kY≠K.kS:=db E n af;have y:aK vV K.kM:=R.offV fun rs e=>by rw[m]at e;cases e
  have s:ay (updC H K.kM (some (O.map (mapL (fun v:Vis=>ey v.c) (fun _=>vb true) l++[(T.str (ey d.c),vb true)])))) nx vV 7 (iN l):=R.oV.keep (aA _) fun q _ h2=>by
   rw[aq,ac];rintro rfl;exact h2 y
  have w1:=s.valOf;have w5:=s.r5;have n1:K.kSV≠nx+2+4+3+3+6:=aa
  have n2:K.kS≠nx+2+4+3+3+6:=aa
  simp -dsimp only[go_sem,seval,DA,u,m,D,no,j_,Jj,w,S,g,n,w1,w5,n1,n2];refine bX (s.upd aa _) aa (by rw[mr];omega) aI rfl (YT _) ?_;intro c hp L Bn t;have w2:=L.valOf;have Y:=L.cellsV;unfold V.cells at Y;have oS:aK vV K.kS:=R.offV fun rs e=>by rw[n]at e;cases e
  have W:aK vV K.kSV:=R.offV fun rs e=>by rw[g]at e;cases e
  have oY:aK vV K.kY:=R.offV fun rs e=>by rw[E]at e;cases e
  have y1:=t K.kS aa oS;have y2:=t K.kSV aa W;have y3:=t K.kY aa oY;rw[aq,ac n2,aq,ac S,n]at y1;rw[aq,ac n1,aq,ac w,g]at y2;rw[aq,ac aa,aq,ac nY,E]at y3;refine dc w2 Y y1 y2 y3 nSSV U ?_;refine⟨?_,?_⟩
  ·simp only[mE,eo,qj,li,dr,sep,AOp.looks,AOp.opds,AOp.wopd,jE,bN,dq,fK];simp -dsimp only[go_sem,seval,V.top,w1];rcases R.oV with⟨e,_⟩ | ⟨kV,e,_,e2⟩
   ·rw[e];rfl
   ·have:K.kSV≠kV:=db g e2 af;rw[e];simp[this]
  have oF: ∀z,nx+2+4+3+3+8<=z->ay (updC (At (updC (updC H K.kM (some (O.map (mapL (fun v:Vis=>ey v.c) (fun _=>vb true) l++[(T.str (ey d.c),vb true)])))) (nx+2+4+3+3+6) (some (O.rows 7 [[V.t (ints d.c.mem),V.t (ints d.c.at_),V.t (T.sl (d.c.buf.map fun b=>[T.sl (b.map Entry.enc)])),vi d.fr,vi d.x.thread,vi d.x.step,vi d.x.cell]] false))) hp) K.kS
   (some (O.rows 6 [[V.t (T.sl (p.cells.map Cell.enc)),V.t (T.sl (p.modules.map Contract.enc)),V.t (T.sl (p.locks.map Lock.enc)),V.t (T.sl (p.threads.map Thread.enc)),vi k,c]] false))) z c 7 (iN (l++[d])):=fun z o=>by
   rw[show iN (l++[d])=iN l++[[V.t (ints d.c.mem),V.t (ints d.c.at_),V.t (T.sl (d.c.buf.map fun b=>[T.sl (b.map Entry.enc)])),vi d.fr,vi d.x.thread,vi d.x.step,vi d.x.cell]]by simp[iN,qB,l6]];refine L.keep o fun q _ i=> ?_
   rw[aq,ac];rintro rfl;exact i (Bn _ aa)
  have Z:=(oF _ (aA _)).lenS;rw[mr,zM,fN]at Z;have Er:IntKind.i64.wrap (((l.length+1:Nat):Int)-1)=(l.length:Int):=by rw[show((l.length+1:Nat):Int)-1=(l.length:Int)by omega];exact bq aa
  refine bw w2 Y Z Er ?_;have nM:K.kM≠K.kS:=bW S;have nL:K.kL≠K.kS:=db R.hL n af;have Q:K.kL≠K.kM:=db R.hL m af;have X:aK vV K.kL:=R.offV fun rs e=>by rw[R.hL]at e;cases e
  have R2: ∀z,nx+2+4+3+3+8<=z->RI K p k lim env (updC (At (updC (updC H K.kM (some (O.map (mapL (fun v:Vis=>ey v.c) (fun _=>vb true) l++[(T.str (ey d.c),vb true)])))) (nx+2+4+3+3+6) (some (O.rows 7 [[V.t (ints d.c.mem),V.t (ints d.c.at_),V.t (T.sl (d.c.buf.map fun b=>[T.sl (b.map Entry.enc)])),vi d.fr,vi d.x.thread,vi d.x.step,vi d.x.cell]] false))) hp) K.kS
   (some (O.rows 6 [[V.t (T.sl (p.cells.map Cell.enc)),V.t (T.sl (p.modules.map Contract.enc)),V.t (T.sl (p.locks.map Lock.enc)),V.t (T.sl (p.threads.map Thread.enc)),vi k,c]] false))) z (l++[d]) l c vL:=fun z o=>by
   have J: ∀j,j<nx->j≠K.kM->j≠K.kS->aK vV j->updC (At (updC (updC H K.kM (some (O.map (mapL (fun v:Vis=>ey v.c) (fun _=>vb true) l++[(T.str (ey d.c),vb true)])))) (nx+2+4+3+3+6) (some (O.rows 7 [[V.t (ints d.c.mem),V.t (ints d.c.at_),V.t (T.sl (d.c.buf.map fun b=>[T.sl (b.map Entry.enc)])),vi d.fr,vi d.x.thread,vi d.x.step,vi d.x.cell]] false))) hp) K.kS
    (some (O.rows 6 [[V.t (T.sl (p.cells.map Cell.enc)),V.t (T.sl (p.modules.map Contract.enc)),V.t (T.sl (p.locks.map Lock.enc)),V.t (T.sl (p.threads.map Thread.enc)),vi k,c]] false)) j=H j:=fun j j1 j2 M N=>by
    rw[aq,ac M,t j aa N,aq,ac aa,aq,ac j2]
   refine R.next aa (fun j j1 _ M N _ j6=>J j j1 M N j6) ?_ (by rw[aq,ah rfl]) (oF z o) (by rw[J _ b7 Q nL X,R.hL]) (R.oL.keep aa fun q A i=> ?_)
   ·rw[aq,ac nM,t _ aa y,aq,ac aa,aq,ah rfl,xS]
   ·refine J q A ?_ ?_ (R.offV fun rs e=> ?_)
    ·rintro rfl;exact i (R.offL fun rs e=>by rw[m]at e;cases e)
    ·rintro rfl;exact i (R.offL fun rs e=>by rw[n]at e;cases e)
    ·exact i (R.offL fun rs' e'=>by rw[e]at e';cases e')
  generalize updC (At (updC (updC H K.kM (some (O.map (mapL (fun v:Vis=>ey v.c) (fun _=>vb true) l++[(T.str (ey d.c),vb true)])))) (nx+2+4+3+3+6) (some (O.rows 7 [[V.t (ints d.c.mem),V.t (ints d.c.at_),V.t (T.sl (d.c.buf.map fun b=>[T.sl (b.map Entry.enc)])),vi d.fr,vi d.x.thread,vi d.x.step,vi d.x.cell]] false))) hp) K.kS
   (some (O.rows 6 [[V.t (T.sl (p.cells.map Cell.enc)),V.t (T.sl (p.modules.map Contract.enc)),V.t (T.sl (p.locks.map Lock.enc)),V.t (T.sl (p.threads.map Thread.enc)),vi k,c]] false))=F at *
  have R3:=R2 (nx+2+4+3+3+11+9) aa
  by_cases I:l.length=lim
  ·obtain⟨h',f,A,i,B⟩:=R3.stop;rw[I];refine bf (P:=fun r h' f=>r=vb false/\pd K env h'/\nx+2+4+3+3+11+9<=f) ⟨_,h',f,A,rfl,i,B⟩ ?_;rintro r h' f ⟨rfl,i,B⟩;refine ax ?_;refine⟨aa,?_⟩;simp only[zG,aX,aU,eq_self_iff_true];exact⟨rfl,i⟩
  ·obtain⟨h',f,vL',A,i,B⟩:=R3.yield aa I;refine bf (P:=fun r h' f=>r=vb true/\(∃vL',RI K p k lim env h' f (l++[d]) (l++[d]) c vL')/\nx+2+4+3+3+11+9<=f) ⟨_,h',f,A,rfl,⟨vL',i⟩,B⟩ ?_;rintro r h' f ⟨rfl,⟨vL',i⟩,B⟩;refine ax ?_;refine⟨aa,?_⟩;simp only[zG,aX,I];exact⟨rfl,c,vL',i⟩
 ·rw[Dx]at C;obtain⟨z,o⟩:=rG.1 C;rw[o]at D;simp -dsimp only[go_sem,seval,DA,u,m,D,cU,gp];refine⟨av,rfl,vV,vL,?_⟩;refine ax ?_;exact R.next aa (fun j _ _ _ _ _ _=>rfl) R.hM R.hS (R.oV.le aa) R.hL (R.oL.le aa)
theorem IsB.sane {p:Prog} (b:p.sane) {c:Config} (a:IsB p c):c.sane:=⟨by rw[a.lm];exact b.cells,by rw[a.la];exact b.threads,by rw[a.lb];exact b.threads⟩
theorem HA (p:Prog) (e:p.sane) (g:aO p=true) (k:Int) (i:0<=k/\k<=2) (c:Config) (d:IsK p k c):Den Γ G 179 [(zP p),vi k,(.agg [.t (ints (c).mem),.t (ints (c).at_),.t (.sl ((c).buf.map (fun b=>[.sl (b.map Entry.enc)])))])]=some (.t (.sl ((c_ p k c).map Choice.enc))):=by
 by_cases a:k=0
 ·have f:=WC p e c (d.b.sane e);rw[XG g (d.c a)]at f;rw[c_,ah a]
  exact aD (q:=a_ a f)
 ·rw[c_,ac a];exact W7 p e g k aa c d.b
theorem xP (p:Prog) (a:p.sane) (g:aO p=true) (k:Int) (i:0<=k/\k<=2) (c:Config) (e:IsK p k c) (x:Choice):Den Γ G 180 [(zP p),vi k,(.agg [.t (ints (c).mem),.t (ints (c).at_),.t (.sl ((c).buf.map (fun b=>[.sl (b.map Entry.enc)])))]),(.agg [.t (ti (x).thread),.t (ti (x).step),.t (ti (x).cell)])]=some (.tup [(.agg [.t (ints ((dy p k c x).1).mem),.t (ints ((dy p k c x).1).at_),.t (.sl (((dy p k c x).1).buf.map (fun b=>[.sl (b.map Entry.enc)])))]),vi (dy p k c x).2]):=by
 by_cases d:k=0
 ·have f:=Z2 p a c (e.b.sane a) x;rw[dy,ah d]
  exact aD (q:=a_ d f)
 ·rw[dy,ac d];exact Y2 p a g k aa c e.b x
def kM (m:Int):Int:=m % 3
def k_ (l:List Vis) (n:Nat):List (T×V):=mapL (fun i:Nat=>lK (dJ l i)) (fun i=>vi i) (List.range n)
theorem Wq (l:List Vis) (n:Nat):k_ l (n+1)=k_ l n++[(T.str (lK (dJ l n)),vi n)]:=by
 rw[k_,sP,xS];rfl
theorem YF {p:Prog} {k:Int} {l:List Vis} (b:VisOk p k l l.length) {n:Nat} (g:n<l.length):cZ (T.str (lK (dJ l n))) (vi n) (k_ l n)=some (k_ l (n+1)):=by
 rw[Wq];refine vk _ _ _ _ _ fun a c=>S0 fun e=> ?_
 have c:=dN.1 c;have d:=xM b g;have f:=xM b (show a<l.length from aa);rw[Ou e,f]at d;omega
theorem Wr {p:Prog} {k:Int} {l:List Vis} (f:VisOk p k l l.length) {c:Config} (g: ∃v∈l,v.c=c):dD (T.str (lK c)) (k_ l l.length)=some (some (vi (hX l c))):=by
 rw[k_,u0];obtain⟨b,d⟩:=zh g
 have:(List.range l.length).find? (fun a=>lK c==lK (dJ l a))=some (hX l c):=by
  rw[List.find?_range_eq_some];refine⟨by rw[d];exact qp.2 rfl,dN.2 b,fun j i=> ?_⟩;rw[S0 fun e=> ?_]
  ·rfl
  ·have:=xM f (show j<l.length from aa);rw[<- Ou e]at this;omega
 rw[this];rfl
structure EdgT (h:Nat->Option O) (x kE:Nat) (vs:List V) (es:List (List (List V))):Prop where
 e:h kE=some (.rows 1 (vs.map fun v=>[v]) false)
 lt:kE<x
 len:vs.length=es.length
 own: ∀(i:Nat) (v:V) (rs:List (List V)),vs[i]? =some v->es[i]? =some rs->ay h x v 4 rs
 off: ∀(i j:Nat) (v w:V),i≠j->vs[i]? =some v->vs[j]? =some w-> ∀k,aK v k\/aK w k
def ct (l:List (Nat×Choice)):List (List V):=l.map fun e=>[vi e.1,vi e.2.thread,vi e.2.step,vi e.2.cell]
theorem EdgT.le {h:ae} {x y c:Nat} {vs:List V} {es:List (List (List V))} (T:EdgT h x c vs es) (d:x<=y):EdgT h y c vs es:=
 ⟨T.e,by have:=T.lt;omega,T.len,fun i v rs a b=>(T.own i v rs a b).le d,T.off⟩
theorem EdgT.set {h A:ae} {x y f u:Nat} {vs:List V} {es:List (List (List V))} {v s:V} {m:List (List V)} (T:EdgT h x f vs es) (E:vs[u]? =some v) (H:ay A y s 4 m) (t: ∀j,j<x->aK s j)
 (J: ∀j,j<x->aK v j->A j=h j) (G:x<=y):EdgT (updC A f (some (.rows 1 ((vs.set u s).map fun v=>[v]) false))) y f (vs.set u s) (es.set u m):=by
 have n:=(zH.1 E).1
 have I: ∀(i:Nat) (w:V),vs[i]? =some w-> ∃rs,es[i]? =some rs:=fun i w a=>by
  have:=(zH.1 a).1;rw[T.len]at this;exact⟨_,zI this⟩
 have B: ∀(i:Nat) (w:V),vs[i]? =some w->aK w f/\ ∀q,x<=q->aK w q:=fun i w a=>by
  obtain⟨rs,c⟩:=I i w a;have o:=T.own i w rs a c;exact⟨o.offAt fun rs e=>(by rw[T.e]at e;simp at e),fun q g=>o.off g⟩
 refine⟨by rw[aq,ah rfl],by have:=T.lt;omega,by rw[cG,cG,T.len],fun i w rs a c=> ?_,fun i j w z C a d q=> ?_⟩
 ·by_cases b:i=u
  ·subst b;rw[iu n]at a;rw[iu (by rw[<- T.len];exact n)]at c;cases a;cases c;refine H.keep (aA _) fun q F r=> ?_
   have:q≠f:=by rintro rfl;exact r (t _ T.lt)
   rw[aq,ac this]
  ·rw[gJ (bW b)]at a c;refine(T.own i w rs a c).keep G fun q F r=> ?_
   have:q≠f:=by rintro rfl;exact r (B i w a).1
   rw[aq,ac this];exact J q F ((T.off i u w v b a E q).resolve_left r)
 ·by_cases b:i=u
  ·subst b;rw[iu n]at a;rw[gJ C]at d;cases a
   by_cases g:q<x
   ·exact .inl (t q g)
   ·exact .inr ((B j z d).2 q aa)
  ·rw[gJ (bW b)]at a
   by_cases D:j=u
   ·subst D;rw[iu n]at d;cases d
    by_cases g:q<x
    ·exact .inr (t q g)
    ·exact .inl ((B i w a).2 q aa)
   ·rw[gJ (bW D)]at d;exact T.off i j w z C a d q
theorem d_ (l:List (Nat×Choice)):(ct l).length=l.length:=by simp[ct]
theorem xK (l:List (Nat×Choice)):((ct l).all fun r=>decide (r.length=4))=true:=by simp[ct]
def ia (p:Prog) (k:Int) (l:List Vis) (u j:Nat):List (List (List V)):=(List.range l.length).map fun i=>if i<u then ct (cn p k l i)else if i=u then ct ((cn p k l u).take j)else []
theorem Z1 {p:Prog} {k:Int} {l:List Vis} {u j:Nat} (b:u<l.length):ia p k l u (j+1)=(ia p k l u j).set u (ct ((cn p k l u).take (j+1))):=by
 refine pY fun i=> ?_
 by_cases h:i=u
 ·subst h;rw[iu (by simp[ia];exact b)];simp only[ia,zJ];rw[jo b,cU,ac (lr i),ah rfl]
 ·rw[gJ (bW h)];simp only[ia,zJ]
  cases c:(List.range l.length)[i]? with
  | none=>rfl
  | some a=>
    obtain⟨_,e⟩:=zH.1 c;rw[List.getElem_range]at e;subst e;simp only[cU,ac h]
theorem XJ (p:Prog) (hs:p.sane) (C:aO p=true) (k:Int) (hk:0<=k/\k<=2) (l:List Vis) (I:VisOk p k l l.length) (hl:l.length<=20000) (H:ae) (nx:Nat):
 ∃r h' n',DenR Γ G 361 [(zP p),vi k,.t (.sl (l.map fun v=>Config.enc v.c))] H nx=some (r,h',n')/\(∃kG kE vs,r= .mp kG 0 0/\h' kG=some (.rows 3 [[.ms kE 0 l.length,.t .nils,vi 0]] false)/\kG<n'/\EdgT h' n' kE vs ((List.range l.length).map fun u=>ct (cn p k l u))):=by
 have F3: ∀{i:Nat},i<l.length->SmlC (dJ l i):=fun hi=>Sv C (rH I hi).b
 refine bM (q:=ax ?_);refine aS 4290773760 l.length (fun i f h x=>(f 22).v=vi i/\h (nx+2)=some (.map (k_ l i))/\nx+2<x) rfl ⟨am,by simp -dsimp only[go_sem,seval];rfl,av⟩ ?_;rintro i f u h x bs hi ⟨DR,s,hx⟩;have P:=aC i aa
 by_cases m:i<l.length
 ·have t:=aW m;have L:=zI m;have B:=kP L;have ht:=Le _ (F3 m);have hp:=YF I m;rw[B]at ht hp
  generalize l[i]=v at *
  refine dc DR t L ht s hp @Config.enc.eq_1 ?_;refine⟨aa,al P,am,av⟩
 ·have t:=aJ m;have:i=l.length:=aa
  subst this;have E1:((l.length:Int)<=(l.length:Int)/\(l.length:Int)<=4294967296)=True:=aW aa;simp -dsimp only[go_sem,seval,DR,t,E1,aU];have n1:(nx=x+3)=False:=aJ aa;have n2:(nx=x+1)=False:=aJ aa
  refine aS 9903520314283041649437693952 l.length (fun u f h y=>(f 39).v=vi u/\h (nx+2)=some (.map (k_ l l.length))/\x+1+4<y/\h (x+1+4)=some (.rows 3 [[.ms (x+1+2) 0 l.length,.t .nils,vi 0]] false)/\ ∃vs,EdgT h y (x+1+2) vs (ia p k l u 0)) rfl
   ⟨am,by simp -dsimp only[go_sem,seval,n1,n2];exact s,by simp -dsimp only[go_sem,seval];try omega,by simp -dsimp only[go_sem,seval];try rfl,List.replicate l.length (.t .nils),?_⟩ ?_
  ·have n5:(x=x+2)=False:=aJ aa;refine⟨by simp -dsimp only[go_sem,seval,List.map_replicate,n5];try rfl,av,by simp[ia],fun i v rs Z hr=> ?_,fun i j v w _ Z P q=> ?_⟩
   ·obtain rfl:=nh (zL Z);refine .inl ⟨rfl,?_⟩;simp only[ia,zJ,zE]at hr;obtain⟨a,_,rfl⟩:=hr;rw[ac aa];split
    ·rw[ft];rfl
    ·rfl
   ·obtain rfl:=nh (zL Z);exact .inl fun i n e=>by cases e
  clear s;rintro u f u' h y bs hu ⟨W,s,hy,z,vs,o⟩;have P:=aC u aa
  by_cases m:u<l.length
  ·have t:=aW m;have L:=zI m;have B:=kP L;have F:=rH I m;have Ch:=HA p hs C k hk _ F;have By:=G_ C (k:=k) F.b;rw[B]at Ch By F
   generalize RA:l[u]=v at *
   refine bG W t L Ch @Config.enc.eq_1 ?_
   refine aS 4951760157140958149643583488 (c_ p k v.c).length (fun j f h y=>(f 49).v=vi j/\h (nx+2)=some (.map (k_ l l.length))/\x+1+4<y/\h (x+1+4)=some (.rows 3 [[.ms (x+1+2) 0 l.length,.t .nils,vi 0]] false)/\ ∃vs,EdgT h y (x+1+2) vs (ia p k l u j)) rfl
    ⟨am,s,av,z,vs,o.le av⟩ ?_
   clear s z o hy vs;rintro j f u' h y bs hj ⟨U,s,hy,z,vs,o⟩;have C9:=aC j aa
   by_cases Q:j<(c_ p k v.c).length
   ·have R:=aW Q;obtain⟨a,J,Cp⟩:=aw Q;have ED:=xP p hs C k hk v.c F a;obtain⟨d,S,hd⟩:=sc C F Cp;rw[S]at ED;have PN:=Le d (Sv C hd.b);have E:=SG I m (x:=a) (by rw[B];exact Cp);rw[B,nxK,S]at E;simp only at E;have AP: ∃v∈l,v.c=d:=⟨l[hX l d],ma E.1,(kP (zI E.1)).symm.trans E.2⟩
    have D3:=Wr I AP;have E6:u<vs.length:=by rw[o.len,ia,cL,pX];exact m
    obtain⟨D,N,_⟩:=aw E6;have Ap:(vs.map fun v=>[v])[u]? =some [D]:=by rw[zJ,N];rfl
    have Ey:(ia p k l u j)[u]? =some (ct ((cn p k l u).take j)):=by
     simp only[ia,zJ];rw[jo m,cU,ac (lr u),ah rfl]
    have A:=o.own u D _ N Ey;have w1:=A.valOf;have T:=o.e;have w5:=fun a b c d e f g=>(A.upd (q:=y+a+b+c+d+e+f) aa g).rowsS
    have w6:=fun a b c d e f g i=>(A.upd (q:=y+a+b+c+d+e+f+g) aa i).rowsS
    simp -dsimp only[go_sem,seval,U,R,J,ED,PN,s,D3,z,T,gp,t,Ap,w1,w5,w6];have gE:aK D (x+1+2):=A.offAt fun rs e=>by rw[T]at e;simp at e
    have gM:aK D (nx+2):=A.offAt fun rs e=>by rw[s]at e;cases e
    have gG:aK D (x+1+4):=A.offAt fun rs e=>by rw[z]at e;simp at e
    have RO:=o.lt;refine bX (A.upd aa _) aa (by rw[d_,bJ];omega) aI rfl (xK _) ?_;intro v' hp X Bn M;have w2:=X.valOf;have w3:=X.cellsV;unfold V.cells at w3;have y1:=M (x+1+2) aa gE;have y2:=M (nx+2) aa gM;have y3:=M (x+1+4) aa gG;rw[aq,ac aa,T]at y1;rw[aq,ac aa,s]at y2;rw[aq,ac aa,z]at y3;have Ju:(Option.map (fun v=>[v]) vs[u]?)=some [D]:=by rw[N];rfl
    refine qR w2 w3 y1 y2 y3 t U Ju ?_;refine⟨?_,?_⟩
    ·simp only[mE,eo,qj,li,dr,sep,AOp.looks,AOp.opds,AOp.wopd,jE,bN,dq,fK];simp -dsimp only[go_sem,seval,V.top,w1];rcases A with⟨e,_⟩ | ⟨kV,e,_,e2⟩
     ·rw[e];rfl
     ·have:x+1+4≠kV:=db z e2 af;rw[e];simp[this]
    ·have n6:(x+2=x)=False:=aJ aa
     have Bj:(cn p k l u)[j]? =some (hX l d,a):=by
      rw[cn,zJ,B,J,cU,nxK,S]
     refine⟨aa,al C9,a_ n2 y2,av,a_ n6 y3,vs.set u v',?_⟩;rw[Z1 m,bc Bj,show ct ((cn p k l u).take j++[(hX l d,a)])=ct ((cn p k l u).take j)++[[vi (hX l d),vi a.thread,vi a.step,vi a.cell]]by simp[ct]];have hS:=o.set N X (fun q hq=>Bn q aa) (fun q hq Nm=>by rw[M q aa Nm,aq,ac aa]) aa;refine ax ?_;rw[oJ]at hS;exact hS.le aa
   ·have R:=aJ Q;have:j=(c_ p k v.c).length:=aa
    subst this
    have Y:ia p k l u (c_ p k v.c).length=ia p k l (u+1) 0:=by
     refine ry fun a J=> ?_
     have M2:(cn p k l u).length=(c_ p k v.c).length:=by rw[cn,cL,B]
     rw[<- M2,bg]
     by_cases h1:a<u
     ·rw[ah h1,ah aa]
     ·rw[ac h1]
      by_cases h2:a=u
      ·subst h2;rw[ah rfl,ah aa]
      ·rw[ac h2,ac aa,ft];split<;>rfl
    rw[Y]at o;refine aY U R W ?_;exact⟨aa,al P,s,av,z,vs,o.le av⟩
  ·have t:=aJ m;have:u=l.length:=aa
   subst this
   have Y:ia p k l l.length 0=(List.range l.length).map fun u=>ct (cn p k l u):=by
    refine ry fun a J=> ?_
    rw[ah (dN.1 J)]
   rw[Y]at o;refine aG W t ?_;exact⟨x+1+4,x+1+2,vs,rfl,z,av,o.le av⟩
def jI {α:Type} (d:α) (l:List α) (i:Nat):List α:=(List.range l.length).map fun q=>l.getD (if q<i\/l.length<=q+i then l.length-1-q else q) d
theorem nz {α:Type} (d:α) (l:List α) (i:Nat):(jI d l i).length=l.length:=by simp[jI]
theorem nE {α:Type} (d:α) (l:List α) (i:Nat) {q:Nat} (h:q<l.length):(jI d l i)[q]? =some (l.getD (if q<i\/l.length<=q+i then l.length-1-q else q) d):=by
 rw[jI,zJ,jo h];rfl
theorem ul {α:Type} (d:α) (l:List α):jI d l 0=l:=by
 refine List.ext_getElem (by rw[nz]) fun q b a=> ?_
 have:=nE d l 0 a;rw[ac aa,zK,zI a,zI b]at this;simpa using this
theorem OI {α:Type} (d:α) (l:List α) {i:Nat} (h:l.length<=i+i+1):jI d l i=l.reverse:=by
 refine pY fun q=> ?_
 by_cases a:q<l.length
 ·rw[nE d l i a,F5 a];have:(if q<i\/l.length<=q+i then l.length-1-q else q)=l.length-1-q:=by split<;>omega
  rw[this,zK,zI (show l.length-1-q<l.length from aa)];rfl
 ·rw[fO (by rw[nz];omega),fO (by rw[mH];omega)]
theorem KA {α:Type} (d:α) (l:List α) {i:Nat} (h:i+i+1<l.length):jI d l (i+1)=((jI d l i).set i (l.getD (l.length-1-i) d)).set (l.length-1-i) (l.getD i d):=by
 refine pY fun q=> ?_
 by_cases c:q<l.length
 ·rw[nE d l _ c]
  by_cases a:q=l.length-1-i
  ·subst a;rw[iu (by rw[cG,nz];omega),ah aa]
   congr 2;omega
  ·rw[gJ (bW a)]
   by_cases b:q=i
   ·subst b;rw[iu (by rw[nz];omega),ah aa]
   ·rw[gJ (bW b),nE d l _ c]
    congr 2
    split<;>split<;>omega
 ·rw[fO (by rw[nz];omega),fO (by rw[cG,cG,nz];omega)]
theorem fP {l:List Int} {i:Nat} {x:Int} (h:l[i]? =some x):(ai l)[i]? =some [vi x]:=by simp[ai,h]
theorem kaE {H:ae} {n:Nat} {v:V} {l:List Int} (L:ay H n v 1 (ai l)) (R:l.length<2^30):
 ∃r h' q,DenR Γ G 389 [v] H n=some (r,h',q)/\(ay h' q v 1 (ai l.reverse)/\n<=q/\ ∀j,j<n->aK v j->h' j=H j):=by
 rcases L with⟨rfl,e⟩ | ⟨k,rfl,Q,o⟩
 ·have:l=[]:=by simpa[ai]using e
  subst this
  refine bM (q:=ax ?_);refine aS 268435340 0 (fun i f h x=>(f 2).v=vi 0/\(f 3).v=vi (-1)/\n<=x/\h=H) rfl ⟨am,am,by simp -dsimp only[go_sem,seval];try omega,am⟩ ?_;rintro i f u h x bs hi ⟨b,c,M,rfl⟩;refine aG b c ?_;exact⟨.inl ⟨rfl,rfl⟩,av,fun j _ _=>rfl⟩
 ·rw[aB]at *
  refine bM (q:=?_)
  have F:=bq (n:=(l.length:Int)-1) aa;refine ar o ?_;refine aS 268435340 l.length (fun i f h x=>(f 2).v=vi i/\(f 3).v=vi ((l.length:Int)-1-i)/\h k=some (.rows 1 (ai (jI 0 l i)) false)/\n<=x/\(i=0\/i+i<=l.length)/\ ∀j,j<n->aK (.ms k 0 l.length) j->h j=H j) rfl ⟨am,by simp -dsimp only[go_sem,seval,F];simp,by first | (rw[ul];exact o) | (simp -dsimp only[go_sem,seval];rw[ul];exact o),by first | omega | (refine ax ?_;omega),.inl rfl,fun j _ _=>rfl⟩ ?_;rintro i f u h x bs hi ⟨b,c,a,M,P,s⟩
  by_cases B:i+i+1<l.length
  ·obtain⟨m,A⟩: ∃m,m=l.length-1-i:=⟨_,rfl⟩
   have D:(f 3).v=vi m:=by rw[c,A];congr 2;congr 1;omega
   have d:((i:Int)<(m:Int))=True:=aW aa;have w:m<l.length:=aa
   have t:i<l.length:=aa
   have g:=fP (nE 0 l i w);have z:=fP (nE 0 l i t);rw[ac aa]at g z;have E:=aC i aa;have C:=bq (n:=(m:Int)-1) aa;have N:=KA 0 l B;have I:((ai (jI 0 l i)).set i [V.t (T.int IntKind.i64 (l.getD m 0))])[m]? =some [vi (l.getD m 0)]:=by rw[gJ aa];exact g
   refine kT b D d a (aW w) (aW t) g z I @nz @aB ?_;refine⟨aa,al E,EE C,?_,av,.inr aa,fun j J y=> ?_⟩
   ·rw[N,<- dR,<- dR,<- A];exact am
   ·have:j≠k:=by rintro rfl;exact y _ _ rfl
    refine ar this ?_;exact s j J y
  ·have d:((i:Int)<(l.length:Int)-1-i)=False:=aJ aa;refine bw b c d a ?_;rw[OI 0 l aa]at a;exact⟨.inr ⟨k,by rw[aB,mH],av,a⟩,av,s⟩
def ch0:Choice:=⟨0,0,0⟩
theorem vg {l:List Choice} {i:Nat} {x:Choice} (h:l[i]? =some x):(bj l)[i]? =some [vi x.thread,vi x.step,vi x.cell]:=by simp[bj,h,Choice.enc]
theorem x6 (l:List Choice) (i:Nat) (x:Choice):(bj l).set i [vi x.thread,vi x.step,vi x.cell]=bj (l.set i x):=by simp[bj,oJ,Choice.enc]
theorem OG {H:ae} {n:Nat} {v:V} {l:List Choice} (L:ay H n v 3 (bj l)) (R:l.length<2^30):
 ∃r h' q,DenR Γ G 390 [v] H n=some (r,h',q)/\(ay h' q v 3 (bj l.reverse)/\n<=q/\ ∀j,j<n->aK v j->h' j=H j):=by
 rcases L with⟨rfl,e⟩ | ⟨k,rfl,Q,o⟩
 ·have:l=[]:=by simpa[bj]using e
  subst this
  refine bM (q:=ax ?_);refine aS 268435340 0 (fun i f h x=>(f 2).v=vi 0/\(f 3).v=vi (-1)/\n<=x/\h=H) rfl ⟨am,am,by simp -dsimp only[go_sem,seval];try omega,am⟩ ?_;rintro i f u h x bs hi ⟨b,c,M,rfl⟩;refine aG b c ?_;exact⟨.inl ⟨rfl,rfl⟩,av,fun j _ _=>rfl⟩
 ·rw[i_]at *
  refine bM (q:=?_)
  have F:=bq (n:=(l.length:Int)-1) aa;refine ar o ?_;refine aS 268435340 l.length (fun i f h x=>(f 2).v=vi i/\(f 3).v=vi ((l.length:Int)-1-i)/\h k=some (.rows 3 (bj (jI ch0 l i)) false)/\n<=x/\(i=0\/i+i<=l.length)/\ ∀j,j<n->aK (.ms k 0 l.length) j->h j=H j) rfl ⟨am,by simp -dsimp only[go_sem,seval,F];simp,by first | (rw[ul];exact o) | (simp -dsimp only[go_sem,seval];rw[ul];exact o),by first | omega | (refine ax ?_;omega),.inl rfl,fun j _ _=>rfl⟩ ?_;rintro i f u h x bs hi ⟨b,c,a,M,P,s⟩
  by_cases B:i+i+1<l.length
  ·obtain⟨m,A⟩: ∃m,m=l.length-1-i:=⟨_,rfl⟩
   have D:(f 3).v=vi m:=by rw[c,A];congr 2;congr 1;omega
   have d:((i:Int)<(m:Int))=True:=aW aa;have w:m<l.length:=aa
   have t:i<l.length:=aa
   have g:=vg (nE ch0 l i w);have z:=vg (nE ch0 l i t);rw[ac aa]at g z;have E:=aC i aa;have C:=bq (n:=(m:Int)-1) aa;have N:=KA ch0 l B;have I:((bj (jI ch0 l i)).set i [vi (l.getD m ch0).thread,vi (l.getD m ch0).step,vi (l.getD m ch0).cell])[m]? =some [vi (l.getD m ch0).thread,vi (l.getD m ch0).step,vi (l.getD m ch0).cell]:=by rw[gJ aa];exact g
   refine kT b D d a (aW w) (aW t) g z I @nz @i_ ?_;refine⟨aa,al E,EE C,?_,av,.inr aa,fun j J y=> ?_⟩
   ·rw[N,<- x6,<- x6,<- A];exact am
   ·have:j≠k:=by rintro rfl;exact y _ _ rfl
    refine ar this ?_;exact s j J y
  ·have d:((i:Int)<(l.length:Int)-1-i)=False:=aJ aa;refine bw b c d a ?_;rw[OI ch0 l aa]at a;exact⟨.inr ⟨k,by rw[i_,mH],av,a⟩,av,s⟩
theorem lP {a b:Int} (h:a=b) (c: -9223372036854775808<=b/\b<=9223372036854775807):IntKind.i64.wrap a=b:=by rw[h];exact bq c
def cE (a:Nat->Bool) (n:Nat):List (List V):=(List.range n).map fun i=>[vb (a i)]
theorem fe (a:Nat->Bool) (n:Nat):(cE a n).length=n:=by simp[cE]
theorem mw (a:Nat->Bool) {n i:Nat} (h:i<n):(cE a n)[i]? =some [vb (a i)]:=by
 rw[cE,zJ,jo h];rfl
structure GrfH (h:Nat->Option O) (x kG kE kI:Nat) (vs:List V) (n:Nat) (E:Nat->List (Nat×Choice)) (ins:Nat->Bool) (t:Nat):Prop where
 g:h kG=some (.rows 3 [[.ms kE 0 n,.ms kI 0 n,vi t]] false)
 e:h kE=some (.rows 1 (vs.map fun v=>[v]) false)
 i:h kI=some (.rows 1 (cE ins n) false)
 lt:kG<x/\kE<x/\kI<x
 len:vs.length=n
 own: ∀(i:Nat) (v:V),vs[i]? =some v->ay h x v 4 (ct (E i))
 small: ∀i,i<n->(E i).length<=268
 to: ∀i,i<n-> ∀y∈E i,y.1<n
 nl:n<=20000
 insn: ∀i,ins i=true->i<n
theorem GrfH.keep {h h':ae} {x y d c e:Nat} {vs:List V} {n:Nat} {E:Nat->List (Nat×Choice)} {a:Nat->Bool} {t:Nat} (T:GrfH h x d c e vs n E a t) (f:x<=y) (b: ∀q,q<x->h' q=h q):GrfH h' y d c e vs n E a t:=
 ⟨(b _ T.lt.1).trans T.g,(b _ T.lt.2.1).trans T.e,(b _ T.lt.2.2).trans T.i,by have:=T.lt;omega,T.len,fun i v g=>(T.own i v g).keep f fun q j _=>b q j,T.small,T.to,T.nl,T.insn⟩
theorem Md {h:ae} {x f i j:Nat} {vs:List V} {n:Nat} {E:Nat->List (Nat×Choice)} {c:Nat->Bool} {t:Nat} (T:GrfH h x f i j vs n E c t) (y:Choice):
 ∃r h' g,DenR Γ G 379 [.mp f 0 0,(.agg [.t (ti (y).thread),.t (ti (y).step),.t (ti (y).cell)])] h x=some (r,h',g)/\(r=vb (fH t y)/\h'=h/\x<=g):=by
 have e:=T.g
 refine bM (q:=?_)
 by_cases a:y.thread=(t:Int)
 ·have b:decide (y.thread=(t:Int))=true:=ql a;refine aG e b ?_
  by_cases d:y.step= -1
  ·refine⟨?_,rfl,av⟩;simp[fH,a,d];rfl
  ·refine⟨?_,rfl,av⟩;simp[fH,a,d];rfl
 ·have b:decide (y.thread=(t:Int))=false:=nk a;refine aG e b ?_;refine⟨?_,rfl,av⟩;simp[fH,a];rfl
theorem Wn {h:ae} {x f w y:Nat} {vs:List V} {n:Nat} {E:Nat->List (Nat×Choice)} {b:Nat->Bool} {t:Nat} (T:GrfH h x f w y vs n E b t) {u:Nat} (d:u<n):
 ∃r h' c,DenR Γ G 364 [.mp f 0 0,vi u] h x=some (r,h',c)/\(ay h' c r 4 (ct (E u))/\x<=c/\ ∀q,q<x->h' q=h q):=by
 have s:=T.g;have o:=T.e;obtain⟨v,e,_⟩:=aw (show u<vs.length by rw[T.len];exact d);have a:=T.own u v e;have i:(vs.map fun v=>[v])[u]? =some [v]:=by rw[zJ,e];rfl
 have z:=a.valOf;have m:=aW d;have j:=T.len
 refine bM (q:=?_)
 have g:=a.resVal;unfold resVal at g;refine dc s o m i z g j ?_;exact⟨a.le av,av,fun q _=>rfl⟩
def ge (E:Nat->List (Nat×Choice)) (b:Nat->Bool) (t:Nat) (a:Nat) (l:List (Nat×Choice)):List (Nat×Choice):=(l.filter fun e=>b e.1).map fun e=>(2*e.1+(if fH t e.2 then 1 else a % 2),e.2)
theorem WF {h:ae} {x Y kE kI:Nat} {vs:List V} {n:Nat} {E:Nat->List (Nat×Choice)} {a:Nat->Bool} {t:Nat} (T:GrfH h x Y kE kI vs n E a t) {u:Nat} (hu:u<2*n):
 ∃r h' M,DenR Γ G 365 [.mp Y 0 0,vi u] h x=some (r,h',M)/\(ay h' M r 4 (ct (ge E a t u (E (u/ 2))))/\x<=M/\ ∀q,q<x->h' q=h q):=by
 have hg:=T.g;have he:=T.e;have C:u/ 2<n:=aa
 obtain⟨v,X,_⟩:=aw (show u/ 2<vs.length by rw[T.len];exact C);have I:=T.own _ v X;have Ap:(vs.map fun v=>[v])[u/ 2]? =some [v]:=by rw[zJ,X];rfl
 have w1:=I.valOf;have MV:=aW C;have BX:=T.len;have d:IntKind.i64.wrap ((u:Int).tdiv 2)=((u/ 2:Nat):Int):=lP (by rw[Int.tdiv_eq_ediv_of_nonneg aa];omega) (by have:=T.nl;omega);have J:(u:Int).tmod 2=((u % 2:Nat):Int):=by rw[vN aa];omega
 refine bM (q:=?_)
 have w3:=I.lenS;refine nJ hg he d MV Ap w1 w3 BX @d_ ?_;have F3:=T.small (u/ 2) C
 generalize hL:E (u/ 2)=L at *
 refine aS 281474976448928 L.length (fun j f h' x'=>(f 18).v=vi j/\ay h' x' (f 5).v 4 (ct (ge E a t u (L.take j)))/\x<=x'/\(∀q,q<x->h' q=h q)/\ ∀q,q<x->aK (f 5).v q) rfl
  ⟨am,.inl ⟨am,rfl⟩,by first | omega | (refine ax ?_;omega),fun q _=>rfl,fun q _ i n=>am⟩ ?_
 rintro j f u' h' x' bs hj ⟨g,b,hx,c,A⟩;have B:=aC j aa;have N:=b.valOf
 by_cases m:j<L.length
 ·have F:=aW m;obtain⟨y,w,Eq⟩:=aw m;have R:=T.to (u/ 2) C y (by rw[hL];exact Eq);rcases I with⟨rfl,e⟩ | ⟨kv,rfl,Eh,e2⟩
  ·have:L=[]:=by simpa[ct]using e
   rw[this]at m;simp at m
  ·have KG:(ct L)[j]? =some [vi y.1,vi y.2.thread,vi y.2.step,vi y.2.cell]:=by rw[ct,zJ,w];rfl
   have e3:=(c kv Eh).trans e2;have Dq:=fun z (hz:x<=z)=>(T.keep hz c).i
   have hi:=Dq x (aA _);have S:=(T.keep hx c).g;have W:=mw a R;have U:=aW R;have tn:=T.nl;have Z:IntKind.i64.wrap (2*(y.1:Int))=((2*y.1:Nat):Int):=lP aa aa;have m2:IntKind.i64.wrap (((2*y.1:Nat):Int)+1)=((2*y.1+1:Nat):Int):=lP aa aa;have m3:IntKind.i64.wrap (((2*y.1:Nat):Int)+((u % 2:Nat):Int))=((2*y.1+u % 2:Nat):Int):=lP aa aa;have mlen:(ge E a t u (L.take j)).length<=j:=by rw[ge,cL];exact cQ (kf _ _) (by rw[bJ];omega)
   refine cw g F e3 @d_ KG J ?_;refine bf (Md (T.keep aa c) y.2) ?_;rintro r h2 n2 ⟨rfl,rfl,Fh⟩;have q2:=(b.le (show x'<=n2 from aa)).r2;have q3:=(b.le (show x'<=n2 from aa)).r3;cases Q:fH t y.2
   ·refine cw S hi @fe U W J ?_;cases o:a y.1
    ·refine ar g ?_;refine⟨aa,al B,?_,av,c,by simp -dsimp only[go_sem,seval];exact A⟩;refine ax ?_;rw[bc w,ge,ix,dZ,<- ge];simp only[oZ,rt,o,zG,aX,be,bQ];exact b.le aa
    ·refine dc g Z m2 m3 N q2 q3 ?_;refine bX (b.upd aa _) aa (by rw[d_];omega) aI rfl (xK _) ?_;intro v' hp s H D;have P:=s.valOf;refine aG P g ?_;refine⟨aa,al B,?_,av,fun q d=> ?_,fun q d=> ?_⟩
     ·refine ax ?_;rw[bc w,ge,ix,dZ,<- ge];simp only[oZ,rt,o,Q,aU,aX,zG,aT,be];rw[show ct (ge E a t u (L.take j)++[(2*y.1+u % 2,y.2)])=ct (ge E a t u (L.take j))++[[vi (((2*y.1+u % 2,y.2)).1:Nat),vi y.2.thread,vi y.2.step,vi y.2.cell]]by simp[ct]];exact s.le aa
     ·refine ax ?_;rw[D q aa (A q d),aq,ac aa];exact c q d
     ·refine ax ?_;exact H q aa
   ·refine cw S hi @fe U W J ?_;cases o:a y.1
    ·refine ar g ?_;refine⟨aa,al B,?_,av,c,by simp -dsimp only[go_sem,seval];exact A⟩;refine ax ?_;rw[bc w,ge,ix,dZ,<- ge];simp only[oZ,rt,o,zG,aX,be,bQ];exact b.le aa
    ·refine dc g Z m2 m3 N q2 q3 ?_;refine bX (b.upd aa _) aa (by rw[d_];omega) aI rfl (xK _) ?_;intro v' hp s H D;have P:=s.valOf;refine aG P g ?_;refine⟨aa,al B,?_,av,fun q d=> ?_,fun q d=> ?_⟩
     ·refine ax ?_;rw[bc w,ge,ix,dZ,<- ge];simp only[oZ,rt,o,Q,aU,aX,zG,aT,be];rw[show ct (ge E a t u (L.take j)++[(2*y.1+1,y.2)])=ct (ge E a t u (L.take j))++[[vi (((2*y.1+1,y.2)).1:Nat),vi y.2.thread,vi y.2.step,vi y.2.cell]]by simp[ct]];exact s.le aa
     ·refine ax ?_;rw[D q aa (A q d),aq,ac aa];exact c q d
     ·refine ax ?_;exact H q aa
 ·have F:=aJ m;have:j=L.length:=aa
  subst this;rw[bg]at b;have v2:=b.resVal;unfold resVal at v2;refine bw g F N v2 ?_;exact⟨b.le av,av,c⟩
def lX (a:List Int) (b:List Choice) (fr:Nat):Nat->Nat->List Choice->List Choice
 | 0,_,l=>l
 | f+1,v,l=>if v≠fr/\a.getD v (-1)≠ -1 then lX a b fr f (a.getD v (-1)).toNat (l++[b.getD v ch0])else l
theorem L_ {H:ae} {nx e f n v:Nat} {a:List Int} (m:H e=some (.rows 1 [[.ms f 0 n]] false)) (hp:H f=some (.rows 1 (ai a) false)) (c:a.length=n) (d:v<n):
 ∃r h' g,DenR Γ G 380 [vi v,.mp e 0 0] H nx=some (r,h',g)/\(r=vi (a.getD v (-1))/\h'=H/\nx<=g):=by
 have i:=aW d;have b:v<a.length:=by rw[c];exact d
 have o:(ai a)[v]? =some [vi (a.getD v (-1))]:=by
  rw[zK,zI b];exact fP (zI b)
 have j:=aB a
 refine bM (q:=cw m hp i o j c ?_);exact⟨rfl,rfl,av⟩
theorem Yx {H:ae} {nx e f n v:Nat} {a:List Choice} (m:H e=some (.rows 1 [[.ms f 0 n]] false)) (o:H f=some (.rows 3 (bj a) false)) (c:a.length=n) (d:v<n):
 ∃r h' g,DenR Γ G 381 [vi v,.mp e 0 0] H nx=some (r,h',g)/\(r=(.agg [.t (ti ((a.getD v ch0)).thread),.t (ti ((a.getD v ch0)).step),.t (ti ((a.getD v ch0)).cell)])/\h'=H/\nx<=g):=by
 have i:=aW d;have b:v<a.length:=by rw[c];exact d
 have q:(bj a)[v]? =some [vi (a.getD v ch0).thread,vi (a.getD v ch0).step,vi (a.getD v ch0).cell]:=by
  rw[zK,zI b];exact vg (zI b)
 have j:=i_ a
 refine bM (q:=cw m o i q j c ?_);exact⟨rfl,rfl,av⟩
theorem Xx {H:ae} {nx z E A F n fr to:Nat} {a:List Int} {d:List Choice} (S:H z=some (.rows 1 [[.ms A 0 n]] false)) (hp:H A=some (.rows 1 (ai a) false)) (hC:H E=some (.rows 1 [[.ms F 0 n]] false)) (hc:H F=some (.rows 3 (bj d) false))
 (lp:a.length=n) (lc:d.length=n) (b:z<nx/\E<nx/\A<nx/\F<nx) (c:Nat->Nat) (Nk: ∀v,v<n->v≠fr->a.getD v (-1)≠ -1-> ∃u:Nat,a.getD v (-1)=u/\u<n/\c u<c v) (X:to<n) (DM:c to<=2^20):
 ∃r h' o,DenR Γ G 382 [.agg [.fn 380 [] [.mp z 0 0],.fn 381 [] [.mp E 0 0]],vi fr,vi to] H nx=some (r,h',o)/\(ay h' o r 3 (bj (lX a d fr (c to+1) to []).reverse)/\nx<=o/\ ∀q,q<nx->h' q=H q):=by
 refine bM (q:=ax ?_)
 refine aS 536870788 (c to) (fun i f h x=> ∃(v:Nat) (l:List Choice),v<n/\(f 2).v=vi v/\c v+i<=c to/\l.length=i/\lX a d fr (c to+1-i) v l=lX a d fr (c to+1) to []/\ay h x (f 7).v 3 (bj l)/\nx<=x/\(∀q,q<nx->h q=H q)/\ ∀q,q<nx->aK (f 7).v q) rfl
  ⟨to,[],X,am,aa,rfl,rfl,.inl ⟨am,rfl⟩,by first | omega | (refine ax ?_;omega),fun q _=>rfl,fun q _ i n=>am⟩ ?_
 rintro i f u h x bs hi ⟨v,l,D,t,DY,C,j,y,hx,m,J⟩;have e1:=(m z b.1).trans S;have e2:=(m E b.2.1).trans hC;have e3:=(m A b.2.2.1).trans hp;have e4:=(m F b.2.2.2).trans hc;have I:=y.valOf;rw[show c to+1-i=c to-i+1 from aa,lX]at j
 by_cases L:v=fr
 ·subst L;rw[ac af]at j;refine aG t I ?_;refine bf (OG (y.le aa) (by rw[C];omega)) ?_;rintro r h' o ⟨s,N,P⟩;have Q:=s.valOf;have B:=s.resVal;unfold resVal at B;refine aG Q B ?_;rw[<- j];exact⟨s.le av,av,fun q g=>(P q aa (J q g)).trans (m q g)⟩
 ·have d1:((v:Int)=(fr:Int))=False:=aJ aa;refine aG t d1 ?_;refine bf (L_ e1 e3 lp D) ?_;rintro r h' o ⟨rfl,rfl,hn⟩
  by_cases w:a.getD v (-1)= -1
  ·rw[ac fun e=>e.2 w]at j;refine aY t w I ?_;refine bf (OG (y.le aa) (by rw[C];omega)) ?_;rintro r RR n'' ⟨s,N,P⟩;have Q:=s.valOf;have B:=s.resVal;unfold resVal at B;refine aG Q B ?_;rw[<- j];exact⟨s.le av,av,fun q g=>(P q aa (J q g)).trans (m q g)⟩
  ·rw[ah ⟨L,w⟩]at j;obtain⟨u2,T,p2,p3⟩:=Nk v D L w;have Y:((a.getD v (-1))= -1)=False:=aJ w;refine aY t Y I ?_;refine bf (Yx e2 e4 lc D) ?_;rintro r h' n2 ⟨rfl,rfl,Fh⟩;have q2:=(y.le (show x<=o from aa)).r1;refine aY t I q2 ?_;refine bX (y.upd aa _) aa (by rw[i_,C];omega) aI rfl (o9 _) ?_;intro v' Z R W U;have N:=R.valOf
   have M: ∀q,q<nx->At (updC h' (o+5) (some (O.rows 3 [[V.t (ti (d.getD v ch0).thread),V.t (ti (d.getD v ch0).step),V.t (ti (d.getD v ch0).cell)]] false))) Z q=H q:=fun q g=>by
    rw[U q aa (J q g),aq,ac aa];exact m q g
   refine aG N t ?_;refine bf (L_ ((M z b.1).trans S) ((M A b.2.2.1).trans hp) lp D) ?_;rintro r h3 n3 ⟨rfl,rfl,N1⟩;refine ax ?_;rw[T,ng]at j;refine⟨aa,u2,l++[d.getD v ch0],p2,al T,aa,by simp[C],?_,?_,av,?_,?_⟩
   ·rw[show c to+1-(i+1)=c to-i by omega];exact j
   ·refine ax ?_;rw[mq];exact R.le aa
   ·refine ax ?_;exact M
   ·refine ax ?_;exact fun q g=>W q aa
theorem nO: ∀(n:Nat) (l:List Nat),l.Nodup->(∀x∈l,x<n)->l.length<=n
 | 0,[],_,_=>aA _
 | 0,x::l,_,hl=>absurd (hl x e_) (sO x)
 | n+1,l,Bt,hl=>by
   by_cases c:n∈l
   ·have d:=nO n (l.erase n) (Bt.erase n) fun x a=>by
     have b:=(List.Nodup.mem_erase_iff Bt).1 a;have:=hl x b.2;have:=b.1;omega
    rw[List.length_erase_of_mem c]at d;omega
   ·have:=nO n l Bt fun x a=>by
     have:=hl x a;have:x≠n:=fun e=>c (e▸a)
     omega
    omega
structure PS where
 par:List Int
 ch:List Choice
 q:List Nat
def gf (u:Nat) (s:PS) (e:Nat×Choice):PS:=if s.par.getD e.1 (-1)= -1 then⟨s.par.set e.1 u,s.ch.set e.1 e.2,s.q++[e.1]⟩else s
def goP (E:Nat->List (Nat×Choice)) (to:Nat):Nat->Nat->PS->PS
 | 0,_,s=>s
 | f+1,i,s=>match s.q[i]? with
   | some u=>if s.par.getD to (-1)= -1 then goP E to f (i+1) ((E u).foldl (gf u) s)else s
   | none=>s
def ps0 (n fr:Nat):PS:=⟨(List.replicate n (-1)).set fr fr,List.replicate n ch0,[fr]⟩
def iP (E:Nat->List (Nat×Choice)) (n fr to:Nat):PS:=goP E to n 0 (ps0 n fr)
def eN (E:Nat->List (Nat×Choice)) (n fr to:Nat):List Choice:=
 (lX (iP E n fr to).par (iP E n fr to).ch fr ((iP E n fr to).q.idxOf to+1) to []).reverse
abbrev POk (E:Nat->List (Nat×Choice)) (s n:Nat) (t:PS) (i:Nat):Prop:=PathOk E s n t.par t.ch t.q i
theorem SD {E:Nat->List (Nat×Choice)} {s n:Nat} {t:PS} {i u:Nat} (h:POk E s n t i) (b:t.q[i]? =some u) {e:Nat×Choice} (f:e∈E u) (a:e.1<n):
 POk E s n (gf u t e) i/\(gf u t e).q[i]? =some u/\e.1∈(gf u t e).q/\ ∀v∈t.q,v∈(gf u t e).q:=by
 unfold gf;split
 ·rename_i c;have d:=(zH.1 b).1;exact⟨h.add b f a c,by rw[bP d];exact b,af,fun v a=>by simp[a]⟩
 ·rename_i c;exact⟨h,b,(h.met _ a).2 c,fun v a=>a⟩
theorem QL {E:Nat->List (Nat×Choice)} {s n:Nat} {i u:Nat}: ∀{l:List (Nat×Choice)} {t:PS},POk E s n t i->t.q[i]? =some u->(∀e∈l,e∈E u/\e.1<n)->
 POk E s n (l.foldl (gf u) t) i/\(l.foldl (gf u) t).q[i]? =some u/\(∀e∈l,e.1∈(l.foldl (gf u) t).q)/\ ∀v∈t.q,v∈(l.foldl (gf u) t).q
 | [],t,h,hu,_=>⟨h,hu,fun e r=>absurd r ka,fun v b=>b⟩
 | e::l,t,h,hu,hl=>by
   obtain⟨j,m,o,q⟩:=SD h hu (hl e af).1 (hl e af).2;obtain⟨d,f,g,c⟩:=QL (l:=l) j m fun y a=>hl y (by simp[a])
   refine⟨d,f,fun y a=> ?_,fun v b=>c v (q v b)⟩;rcases cq.1 a with rfl | a
   ·exact c _ o
   ·exact g y a
theorem OR {E:Nat->List (Nat×Choice)} {s n:Nat} {i u:Nat} {t:PS} (h:POk E s n t i) (q:t.q[i]? =some u) (o: ∀e∈E u,e.1<n):POk E s n ((E u).foldl (gf u) t) (i+1):=by
 obtain⟨a,d,m,_⟩:=QL (l:=E u) h q fun e b=>⟨b,o e b⟩
 refine⟨a.lp,a.lc,(zH.1 d).1,a.z,a.nd,a.lt,a.met,a.pre,fun j w v c e b g=> ?_⟩;rcases bv j i with f | r
 ·exact a.cl j w f c e b g
 ·have:j=i:=aa
  subst this;rw[d]at c;cases c;exact m e b
theorem ST {E:Nat->List (Nat×Choice)} {n fr:Nat} (h:fr<n):POk E fr n (ps0 n fr) 0:=by
 refine⟨by simp[ps0],by simp[ps0],af,rfl,by simp[ps0],fun v a=> ?_,fun v a=> ?_,fun j v b a=> ?_,fun j u b=>aa⟩
 ·simp only[ps0,bD]at a;omega
 ·simp only[ps0,bD,zK,cH,iw]
  by_cases e:fr=v
  ·subst e;simp[a]
  ·rw[ac e];simp[a,bW e]
 ·simp only[ps0]at a;rw[fO (by simp;omega)]at a;cases a
theorem POk.len {E:Nat->List (Nat×Choice)} {s n:Nat} {t:PS} {i:Nat} (h:POk E s n t i):t.q.length<=n:=nO n _ h.nd h.lt
theorem SP {E:Nat->List (Nat×Choice)} {s n to:Nat} (b: ∀u,u<n-> ∀e∈E u,e.1<n): ∀(f i:Nat) {t:PS},POk E s n t i->n<=f+i->
 ∃c,POk E s n (goP E to f i t) c/\((goP E to f i t).par.getD to (-1)= -1->c=(goP E to f i t).q.length)
 | 0,i,t,h,hf=>⟨i,h,fun _=>by have:=h.len;have:=h.le;rw[goP];omega⟩
 | f+1,i,t,h,hf=>by
   rw[goP]
   cases a:t.q[i]? with
   | none=>
     simp only
     exact⟨i,h,fun _=>by have:=ox.1 a;have:=h.le;omega⟩
   | some u=>
     simp only
     by_cases hp:t.par.getD to (-1)= -1
     ·rw[ah hp];exact SP b f (i+1) (OR h a (b u (h.lt u (zL a)))) aa
     ·rw[ac hp];exact⟨i,h,fun e=>absurd e hp⟩
theorem kal {E:Nat->List (Nat×Choice)} {n fr to:Nat} (b: ∀u,u<n-> ∀e∈E u,e.1<n) (a:fr<n):
 ∃i,POk E fr n (iP E n fr to) i/\((iP E n fr to).par.getD to (-1)= -1->i=(iP E n fr to).q.length):=SP b n 0 (ST a) aa
theorem POk.rk {E:Nat->List (Nat×Choice)} {s n:Nat} {t:PS} {i:Nat} (h:POk E s n t i) {v:Nat} (o:v<n) (e:v≠s) (hp:t.par.getD v (-1)≠ -1):
 ∃u:Nat,t.par.getD v (-1)=u/\u<n/\t.q.idxOf u<t.q.idxOf v/\(v,t.ch.getD v ch0)∈E u:=by
 have m:=(h.met v o).2 hp;have hi:=Fw m;have c:t.q[t.q.idxOf v]? =some v:=by rw[zI hi,List.getElem_idxOf]
 have a:0<t.q.idxOf v:=by
  rcases nc (t.q.idxOf v)with a | a
  ·rw[a,h.z]at c;cases c;exact absurd rfl e
  ·exact a
 obtain⟨k,u,q,b,g,j⟩:=h.pre _ v a c;refine⟨u,g,h.lt u (zL b),?_,j⟩;have r:=(zH.1 b).1;have f:=zL b;have d:=Fw f;have:t.q[t.q.idxOf u]? =t.q[k]? :=by rw[zI d,List.getElem_idxOf,b]
 have:=(we d h.nd).1 this;omega
def wI (F c d e:Nat) (vs:List V) (n:Nat) (E:Nat->List (Nat×Choice)) (a:Nat->Bool) (t:Nat) (m:Nat) (P:Nat->List (Nat×Choice)):Prop:=
 ∀(h:ae) (x u:Nat),GrfH h x c d e vs n E a t->u<m->
  ∃r h' b,DenR Γ G F [.mp c 0 0,vi u] h x=some (r,h',b)/\(ay h' b r 4 (ct (P u))/\x<=b/\ ∀q,q<x->h' q=h q)
theorem RY (m i:Nat) (h:i<m):(List.replicate i (-1:Int)++List.replicate (m-i) 0).set i (-1)=List.replicate (i+1) (-1)++List.replicate (m-(i+1)) 0:=by
 obtain⟨k,a⟩: ∃k,m-i=k+1:=⟨m-i-1,aa⟩
 rw[a,show m-(i+1)=k from aa,vX _ _ af,ou];simp only[iw,dA,List.set_cons_zero];rw[List.replicate_succ',zQ];rfl
theorem SR (m i:Nat) (h:i<m):(List.replicate i (-1:Int)++List.replicate (m-i) 0)[i]? =some 0:=by
 rw[eE af,iw,dA,ni,ah aa]
theorem YS (m:Nat):bj (List.replicate m ch0)=List.replicate m [vi 0,vi 0,vi 0]:=by simp[bj,ch0,Choice.enc]
def qI (l:List Nat):List Int:=l.map Int.ofNat
theorem cu (l:List Nat):(qI l).length=l.length:=by simp[qI]
theorem qw {l:List Nat} {i v:Nat} (h:l[i]? =some v):(qI l)[i]? =some (v:Int):=by simp[qI,h]
theorem MF {H:ae} {nx F kG kE kI:Nat} {vs:List V} {n:Nat} {E:Nat->List (Nat×Choice)} {ins:Nat->Bool} {t m:Nat} {P:Nat->List (Nat×Choice)} (T:GrfH H nx kG kE kI vs n E ins t) (hF:wI F kG kE kI vs n E ins t m P)
 (hP: ∀u,u<m->(P u).length<=268/\ ∀e∈P u,e.1<m) (hm:m<=40000) {fr to:Nat} (AG:fr<m) (Fd:to<m):
 ∃r h' g,DenR Γ G 363 [.mp kG 0 0,vi fr,vi to,vi m,.fn F [.mp kG 0 0] []] H nx=some (r,h',g)/\(ay h' g r 3 (bj (eN P m fr to))/\nx<=g/\ ∀q,q<nx->h' q=H q):=by
 refine bM (q:=?_)
 have E1:((m:Int)<=(m:Int)/\(m:Int)<=4294967296)=True:=aW aa;have n1:(nx=nx+1)=False:=aJ aa;have n2:(nx+1=nx)=False:=aJ aa;simp -dsimp only[go_sem,seval,E1,aU,n1,n2];have c2:(nx=nx+2)=False:=aJ aa;have c3:(nx=nx+3)=False:=aJ aa;have c4:(nx=nx+4)=False:=aJ aa
 refine aS 2130714624 m (fun i f h x=>(f 24).v=vi i/\h (nx+1+1)=some (.rows 1 (ai (List.replicate i (-1)++List.replicate (m-i) 0)) false)/\h (nx+1+3)=some (.rows 3 (bj (List.replicate m ch0)) false)/\
  h (nx+1+4)=some (.rows 1 [[.ms (nx+1+1) 0 m]] false)/\h (nx+1+5)=some (.rows 1 [[.ms (nx+1+3) 0 m]] false)/\nx+1+5<x/\ ∀q,q<nx->h q=H q) rfl
  ⟨am,sD c2 c3 c4 @s_ @uk,dp n1 c2 @YS,al n1,am,av,fun q B=> ?_⟩ ?_
 ·simp -dsimp only[go_sem,seval];rw[ac aa,ac aa,ac aa,ac aa,ac aa,ac aa]
 rintro i f u h x bs hi ⟨IL,o,D,A,J,hx,I⟩;have hw:=aC i aa
 by_cases Ad:i<m
 ·have Af:=aW Ad;have N:=fP (SR m i Ad);have st:=RY m i Ad;have ln:(List.replicate i (-1:Int)++List.replicate (m-i) 0).length=m:=by simp;omega
  simp -dsimp only[go_sem,seval,IL,Af,o,A,N,aB,ln];refine⟨aa,al hw,?_,by simp -dsimp only[go_sem,seval];rw[ac aa];exact D,by simp -dsimp only[go_sem,seval];rw[ac aa];exact A,by simp -dsimp only[go_sem,seval];rw[ac aa];exact J,av,fun q B=> ?_⟩
  ·simp -dsimp only[go_sem,seval];rw[dR,st]
  ·simp -dsimp only[go_sem,seval];rw[ac aa];exact I q B
 ·have Af:=aJ Ad;have:i=m:=aa
  subst this;rw[dA,sU,bQ]at o;have JN:=aW AG;have N:(ai (List.replicate i (-1)))[fr]? =some [vi (-1)]:=fP (by simp[AG]);simp -dsimp only[go_sem,seval,IL,Af,o,A,JN,N]
  refine aS 154742504910672396923617280 i (fun j f h y=>(f 15).v=vi j/\ ∃s:PS,POk P fr i s j/\goP P to (i-j) j s=iP P i fr to/\ay h y (f 14).v 1 (ai (qI s.q))/\h (nx+1+1)=some (.rows 1 (ai s.par) false)/\h (nx+1+3)=some (.rows 3 (bj s.ch) false)/\
   h (nx+1+4)=some (.rows 1 [[.ms (nx+1+1) 0 i]] false)/\h (nx+1+5)=some (.rows 1 [[.ms (nx+1+3) 0 i]] false)/\nx+1+5<y/\(∀q,q<nx->h q=H q)/\ ∀q,q<=nx+1+5->aK (f 14).v q) rfl
   ⟨am,ps0 i fr,ST AG,rfl,?_,?_,?_,?_,?_,?_,?_,?_⟩ ?_
  ·refine .inr ⟨x+1+5+1,?_,?_,?_⟩
   ·simp -dsimp only[go_sem,seval]
    try rfl
   ·simp -dsimp only[go_sem,seval];try omega
   ·simp -dsimp only[go_sem,seval];try rfl
  ·simp -dsimp only[go_sem,seval]
   (repeat first | rw[ac aa] | rw[ah aa])
   rw[dR];rfl
  ·simp -dsimp only[go_sem,seval]
   (repeat first | rw[ac aa] | rw[ah aa])
   exact D
  ·simp -dsimp only[go_sem,seval]
   (repeat first | rw[ac aa] | rw[ah aa])
   exact A
  ·simp -dsimp only[go_sem,seval]
   (repeat first | rw[ac aa] | rw[ah aa])
   exact J
  ·simp -dsimp only[go_sem,seval];omega
  ·simp -dsimp only[go_sem,seval];intro q B
   (repeat first | rw[ac aa] | rw[ah aa])
   exact I q B
  ·simp -dsimp only[go_sem,seval];exact fun q B=>cV aa _ _
  clear o D A J I hx N IL Af hi hw;rintro j f u h y bs hj ⟨Cy,s,Q,U,S,o,D,A,J,hy,I,Bn⟩;have C9:=aC j aa;have Ed:=Q.len;have A5:=Q.le;have v1:=S.valOf;have v2:=S.lenS;have Gp:=aW Fd;have BL:(ai s.par).length=i:=by rw[aB];exact Q.lp
  have By:(bj s.ch).length=i:=by rw[i_];exact Q.lc
  have N:(ai s.par)[to]? =some [vi (s.par.getD to (-1))]:=by
   have X:to<s.par.length:=by rw[Q.lp];exact Fd
   rw[zK,zI X];exact fP (zI X)
  have Fu: ∀z,y<=z->s=iP P i fr to-> ∃r h' g,DenR Γ G 382 [.agg [.fn 380 [] [.mp (nx+1+4) 0 0],.fn 381 [] [.mp (nx+1+5) 0 0]],vi fr,vi to] h z=some (r,h',g)/\(ay h' g r 3 (bj (eN P i fr to))/\z<=g/\ ∀q,q<z->h' q=h q):=by
   intro z hz he
   have:=Xx (nx:=z) A o J D Q.lp Q.lc ⟨aa,aa,aa,aa⟩ (fun v=>s.q.idxOf v) (fun v a b c=>by
    obtain⟨u,W,g2,g3,_⟩:=Q.rk a b c
    exact⟨u,W,g2,g3⟩) Fd (by have:s.q.idxOf to<=s.q.length:=GM;omega)
   rw[eN,<- he];exact this
  have GR: ∀(r:V) (h':ae) (g z:Nat),y<=z->(ay h' g r 3 (bj (eN P i fr to))/\z<=g/\ ∀q,q<z->h' q=h q)-> ∀m',g<=m'->ay h' m' r 3 (bj (eN P i fr to))/\nx<=m'/\ ∀q,q<nx->h' q=H q:=fun r h' g z hz ⟨p1,p2,p3⟩ m' Fm=>
   ⟨p1.le Fm,aa,fun q B=>(p3 q aa).trans (I q B)⟩
  by_cases NL:j<s.q.length
  ·obtain⟨w,hw,FP⟩:=aw NL;have BF:=Q.lt w FP;have HY:=aW NL;rw[show i-j=i-j-1+1 from aa,goP,hw]at U;simp only at U
   by_cases Fg:s.par.getD to (-1)= -1
   ·rw[ah Fg]at U;rcases S with⟨e,e0⟩ | ⟨kq,AT,AF,B4⟩
    ·have:s.q.length=0:=by rw[<- cu,<- aB,e0];rfl
     omega
    ·have a2:=fP (qw hw);simp -dsimp only[go_sem,seval,Cy,v1,AT,B4,aB,cu,HY,o,A,Gp,N,BL,Fg,a2];refine bf (hF _ _ w (T.keep aa I) BF) ?_;rintro r h' g ⟨hR,hn,Y⟩;have w1:=hR.valOf;have R:=hR.lenS;obtain⟨pl,pt⟩:=hP w BF;simp -dsimp only[go_sem,seval,w1,R,d_]
     generalize Ov:P w=L at *
     refine aS 154742504766557346286682112 L.length (fun c f h z=>(f 57).v=vi c/\ ∃d:PS,d=(L.take c).foldl (gf w) s/\POk P fr i d j/\d.q[j]? =some w/\ay h z (f 14).v 1 (ai (qI d.q))/\h (nx+1+1)=some (.rows 1 (ai d.par) false)/\h (nx+1+3)=some (.rows 3 (bj d.ch) false)/\
      h (nx+1+4)=some (.rows 1 [[.ms (nx+1+1) 0 i]] false)/\h (nx+1+5)=some (.rows 1 [[.ms (nx+1+3) 0 i]] false)/\g<=z/\(∀q,q<nx->h q=H q)/\(∀q,q<=nx+1+5->aK (f 14).v q)/\ay h z r 4 (ct L)) rfl
      ⟨am,s,rfl,Q,hw,?_,?_,?_,?_,?_,?_,?_,?_,?_⟩ ?_
     ·simp -dsimp only[go_sem,seval,AT];exact .inr ⟨kq,rfl,aa,(Y kq aa).trans B4⟩
     ·exact(Y _ aa).trans o
     ·exact(Y _ aa).trans D
     ·exact(Y _ aa).trans A
     ·exact(Y _ aa).trans J
     ·first | omega | (simp -dsimp only[go_sem,seval];omega)
     ·exact fun q B=>(Y q aa).trans (I q B)
     ·simp -dsimp only[go_sem,seval];exact Bn
     ·exact hR.le (by first | omega | (simp -dsimp only[go_sem,seval];omega))
     clear Bn I o D A J w1 R N Fu GR BL By B4 Y;rintro c f u h z bs hc ⟨HE,d,F4,Gu,Cc,S,o,D,A,J,hz,I,Bn,hR⟩;have FQ:=aC c aa;have v1:=S.valOf;have v2:=S.lenS;have BL:(ai d.par).length=i:=by rw[aB];exact Gu.lp
     have By:(bj d.ch).length=i:=by rw[i_];exact Gu.lc
     have AN:=(zH.1 Cc).1
     by_cases Oh:c<L.length
     ·have Ie:=aW Oh;obtain⟨e,he,Cn⟩:=aw Oh;have Kw:=pt e Cn;have LG:=aW Kw
      have N:(ai d.par)[e.1]? =some [vi (d.par.getD e.1 (-1))]:=by
       have X:e.1<d.par.length:=by rw[Gu.lp];exact Kw
       rw[zK,zI X];exact fP (zI X)
      have D3:(L.take (c+1)).foldl (gf w) s=gf w d e:=by rw[bc he,iy,<- F4];rfl
      rcases hR with⟨_,e0⟩ | ⟨kr,rfl,B3,Z⟩
      ·have:L.length=0:=by rw[<- d_,e0];rfl
       omega
      ·have Ap:(ct L)[c]? =some [vi e.1,vi e.2.thread,vi e.2.step,vi e.2.cell]:=by rw[ct,zJ,he];rfl
       by_cases CC:d.par.getD e.1 (-1)= -1
       ·rcases S with⟨_,e0⟩ | ⟨C,Iz,HN,HM⟩
        ·have:d.q.length=0:=by rw[<- cu,<- aB,e0];rfl
         omega
        ·have a2:=fP (qw Cc);have Ba:=aW AN
         have a3:(bj d.ch)[e.1]? =some [vi (d.ch.getD e.1 ch0).thread,vi (d.ch.getD e.1 ch0).step,vi (d.ch.getD e.1 ch0).cell]:=by
          have X:e.1<d.ch.length:=by rw[Gu.lc];exact Kw
          rw[zK,zI X];exact vg (zI X)
         have d2:(nx+2=nx)=False:=aJ aa;simp -dsimp only[go_sem,seval,HE,Ie,Z,d_,Ap,o,A,LG,N,BL,CC,Iz,HM,Cy,D,J,a2,a3,aB,cu,Ba,By,d2];have kn: ∀q,q<=nx+1+5->C≠q:=fun q B e=>Bn q B 0 _ (by rw[Iz,aB,cu,e])
         have k1:C≠z+1+4+6+16+3:=aa
         have k2:=kn (nx+1+3) aa;have k3:=kn (nx+1+1) aa;have tk:List.take d.q.length (ai (qI d.q))=ai (qI d.q):=c7 (by rw[aB,cu];exact aA _);refine⟨?_,?_⟩
         ·simp only[mE,eo,qj,li,dr,sep,AOp.looks,AOp.opds,AOp.wopd,jE,bN,dq,fK];simp -dsimp only[go_sem,seval,V.top];simp
         ·simp -dsimp only[go_sem,seval,k1,k2,k3,tk,HM,aB,cu,aA,aU]
          generalize M:updC (updC h (nx+1+1) (some (O.rows 1 ((ai d.par).set e.1 [V.t (Rg.T.int IntKind.i64 w)]) false))) (nx+1+3) (some (O.rows 3 ((bj d.ch).set e.1 [vi e.2.thread,vi e.2.step,vi e.2.cell]) false))=h2 at *
          have g0: ∀q,q≠nx+1+1->q≠nx+1+3->h2 q=h q:=fun q q1 q2=>by rw[<- M,aq,ac q2,aq,ac q1]
          have oq:ay h2 z (.ms C 0 d.q.length) 1 (ai (qI d.q)):=.inr ⟨C,by rw[aB,cu],HN,(g0 _ k3 k2).trans HM⟩;refine bX (oq.upd aa _) aa (by rw[aB,cu];have:=Gu.len;omega) aI rfl (eu _) ?_;intro v' Kl IE Cv AF;have R:=IE.valOf
          have W: ∀q,q<z->aK (.ms C 0 d.q.length) q->At (updC h2 (z+1+4+6+16+3) (some (O.rows 1 [[V.t (Rg.T.int IntKind.i64 e.1)]] false))) Kl q=h2 q:=fun q q1 q2=>by
           rw[AF q aa q2,aq,ac aa]
          have g2: ∀q,q<=nx+1+5->aK (.ms C 0 d.q.length) q:=fun q B=>cV (bW (kn q B)) _ _
          have Hz:kr≠C:=by rintro rfl;rw[Z]at HM;simp at HM
          have kr1:kr≠nx+1+1:=by rintro rfl;rw[Z]at o;simp at o
          have kr3:kr≠nx+1+3:=by rintro rfl;rw[Z]at D;simp at D
          obtain⟨A1,A2,A3,A4⟩:=SD Gu Cc (by rw[Ov];exact Cn) Kw;have LV:gf w d e=⟨d.par.set e.1 w,d.ch.set e.1 e.2,d.q++[e.1]⟩:=by rw[gf,ah CC]
          simp -dsimp only[go_sem,seval,R,HE];refine⟨aa,al FQ,gf w d e,D3.symm,A1,A2,?_,?_,?_,?_,?_,av,?_,?_,.inr ⟨kr,rfl,av,?_⟩⟩
          ·simp -dsimp only[go_sem,seval,M];rw[LV,qI,dZ,<- qI];rw[show ai (qI d.q++List.map Int.ofNat [e.1])=ai (qI d.q)++[[vi e.1]]from fw _ _];exact IE.le aa
          ·simp -dsimp only[go_sem,seval,M];rw[W _ aa (g2 _ aa),<- M,aq,ac aa,aq,ah rfl,dR,LV]
          ·simp -dsimp only[go_sem,seval,M];rw[W _ aa (g2 _ aa),<- M,aq,ah rfl,x6,LV]
          ·simp -dsimp only[go_sem,seval,M];rw[W _ aa (g2 _ aa),g0 _ aa aa,A]
          ·simp -dsimp only[go_sem,seval,M];rw[W _ aa (g2 _ aa),g0 _ aa aa,J]
          ·simp -dsimp only[go_sem,seval,M];exact fun q B=>(W q aa (g2 q aa)).trans ((g0 q aa aa).trans (I q B))
          ·simp -dsimp only[go_sem,seval,M];exact fun q B=>Cv q aa
          ·simp -dsimp only[go_sem,seval,M];exact(W kr B3 (cV Hz _ _)).trans ((g0 kr kr1 kr3).trans Z)
       ·have Ns:=aJ CC;simp -dsimp only[go_sem,seval,HE,Ie,Z,d_,Ap,o,A,LG,N,BL,Ns];refine⟨aa,al FQ,d,by rw[D3,gf,ac CC],Gu,Cc,?_,o,D,A,J,av,I,?_,.inr ⟨kr,rfl,av,Z⟩⟩
        ·simp -dsimp only[go_sem,seval];exact S.le aa
        ·simp -dsimp only[go_sem,seval];exact Bn
     ·have Ie:=aJ Oh;have:c=L.length:=aa
      subst this;rw[bg]at F4
      have BK:POk P fr i d (j+1):=by
       rw[F4,<- Ov];exact OR Q hw (by rw[Ov];exact pt)
      rw[<- F4,show i-j-1=i-(j+1)by omega]at U;simp -dsimp only[go_sem,seval,HE,Ie,Cy];refine⟨aa,al C9,d,BK,U,?_,o,D,A,J,av,I,?_⟩
      ·simp -dsimp only[go_sem,seval];exact S.le aa
      ·simp -dsimp only[go_sem,seval];exact Bn
   ·rw[ac Fg]at U;have Nq:=aJ Fg;simp -dsimp only[go_sem,seval,Cy,v1,v2,aB,cu,HY,o,A,Gp,N,BL,Nq];refine bf (Fu _ aa U) ?_;intro r h' g hr;have w1:=hr.1.valOf;have R:=hr.1.resVal;unfold resVal at R;simp -dsimp only[go_sem,seval,w1,R];exact GR r h' g _ aa hr _ (by first | omega | (simp -dsimp only[go_sem,seval];omega))
  ·have HY:=aJ NL;simp -dsimp only[go_sem,seval,Cy,v1,v2,aB,cu,HY]
   have NT:s=iP P i fr to:=by
    rw[<- U]
    cases hf:i-j with
    | zero=>rfl
    | succ f=>rw[goP,fO aa]
   refine bf (Fu _ aa NT) ?_;intro r h' g hr;have w1:=hr.1.valOf;have R:=hr.1.resVal;unfold resVal at R;simp -dsimp only[go_sem,seval,w1,R];exact GR r h' g _ aa hr _ (by first | omega | (simp -dsimp only[go_sem,seval];omega))
end Rg
end
