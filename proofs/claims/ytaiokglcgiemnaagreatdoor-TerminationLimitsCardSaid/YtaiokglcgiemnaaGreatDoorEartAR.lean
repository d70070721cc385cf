/- Part of the proof of laws of relyguardlaw36. No condition. -/
import Derived.Test.YtaiokglcgiemnaaGreatDoorEartAQ
import Derived.Test.YtaiokglcgiemnaaGreatDoorEartAP
set_option linter.unusedSimpArgs false
set_option linter.unusedVariables false
set_option linter.defProp false
section
namespace Rg
open Go
def lI (h:ae) (n a:Nat) (l:List Choice):Prop:= ∃v,h a=some (.rows 1 [[v]] false)/\ay h n v 3 (bj l)
theorem kcv {c d f n t i:Nat} {h:ae} {env:Nat->V} {l:List Choice} {e:Entry} (F:h c=some (.loop env [64,65] qG .ready)) (W:env 9= .mp d 0 0) (DL:env 10= .mp f 0 0)
 (D:h f=some (.rows 1 [[vi t]] false)) (hL:lI h n d l) (EK:c<n) (QW:d<n) (QR:f<n) (P8:c≠d) (P7:c≠f) (QY:d≠f) (Az:e.cells≠[]) (FZ:l.length<2^20):
 ∃h' o,DenY Γ G c [vi i,.agg [.t (ints e.cells),.t (ints e.values)]] h n=some (vb true,h',o)/\h' c=some (.loop env [64,65] qG .ready)/\h' f=some (.rows 1 [[vi t]] false)/\lI h' o d (l++[⟨t,-1,cg e⟩])/\n<=o/\
  (∀j,j<n->j≠c->j≠d->(∀T rs s,h j≠some (.rows T rs s))->h' j=h j):=by
 have:=su (Γ:=Γ) (G:=G) (vs:=[vi i,.agg [.t (ints e.cells),.t (ints e.values)]]) (n:=n) (P:=fun C h' o=>C= .normal/\h' c=some (.loop env [64,65] qG .busy)/\h' f=some (.rows 1 [[vi t]] false)/\lI h' o d (l++[⟨t,-1,cg e⟩])/\n<=o/\
  (∀j,j<n->j≠c->j≠d->(∀T rs s,h j≠some (.rows T rs s))->h' j=h j)) F rfl (fun C h' o hP=>⟨_,_,_,hP.2.1⟩) (by
  obtain⟨v,J,I⟩:=hL;have Z:c≠n+0:=aa
  have n2:d≠n+0:=aa
  have n3:f≠n+0:=aa
  have R:d≠c:=aa
  have n5:f≠c:=aa
  have CM:e.cells[0]? =some (cg e):=by
   cases Y:e.cells with
   | nil=>exact absurd Y Az
   | cons a r=>simp[cg,Y]
  have n6:n+0≠c:=aa
  have n7:n+0≠d:=aa
  have n8:n+0≠f:=aa
  have Bs:=I.valOf
  have U: ∀(H:ae) q,n<=q->(∀j,j<n->j≠c->H j=h j)->ay H q v 3 (bj l):=fun H q hq hH=>by
   rcases I with g | ⟨kv,g,B,m⟩
   ·exact .inl g
   ·refine .inr ⟨kv,g,aa,?_⟩;rw[hH kv B (by rintro rfl;rw[F]at m;simp at m)];exact m
  simp -dsimp only[go_sem,seval,W,DL,D,J,Z,n2,n3,R,n5,n6,n7,n8,CM,Bs]
  have AD: ∀(o1 o2 o3 o4 o5:Option O) (a b:Nat),rowsS (updC (updC (updC (updC (updC h c o1) (n+0) o2) (n+0) o3) c o4) (n+a+b) o5) v=some (bj l):=fun o1 o2 o3 o4 o5 a b=>
   (U _ (n+a+b) aa fun j E u=>by
     have k:j≠n+0:=aa
     have y:j≠n+a+b:=aa
     rw[aq,ac y,aq,ac u,aq,ac k,aq,ac k,aq,ac u]).rowsS
  refine ar AD ?_
  refine bX (x:=n+2+8) (U _ _ aa fun j E u=>by
   have k:j≠n+0:=aa
   have y:j≠n+2+7:=aa
   rw[aq,ac y,aq,ac u,aq,ac k,aq,ac k,aq,ac u]) (aA _) (by rw[i_];omega) aI rfl (o9 _) ?_
  intro v2 hp X Bn z
  have A: ∀j,(∀rs s,h j≠some (.rows 3 rs s))->j<n->aK v j:=fun j E Kq=>by
   rcases I with⟨rfl,_⟩ | ⟨kv,rfl,B,m⟩
   ·intro i n h0;cases h0
   ·refine cV ?_ _ _;rintro rfl;exact E _ _ m
  have O2:=X;rcases X with⟨_,CY⟩ | ⟨p,rfl,HW,C4⟩
  ·simp at CY
  have FA:n+2+8<=p:=by
   rcases bv p (n+2+8)with g | g
   ·exact absurd rfl (Bn p g 0 _)
   ·exact g
  have y0:=z c aa (A c (by rw[F];simp) EK);have y1:=z d aa (A d (by rw[J];simp) QW);have y2:=z f aa (A f (by rw[D];simp) QR);have n9:d≠n+2+7:=aa
  have N:c≠n+2+7:=aa
  have Q:f≠n+2+7:=aa
  simp only[aq,Z,n2,n3,R,n5,n9,N,Q,aX,aU,J,D]at y0 y1 y2;refine aG W y1 ?_;refine⟨rfl,?_,?_,⟨.ms p 0 (bj l++[[vi t,vi (-1),vi (cg e)]]).length,?_,.inr ⟨p,?_,?_,?_⟩⟩,?_,?_⟩
  ·refine aG R.symm y0 ?_;rfl
  ·exact a_ QY.symm y2
  ·exact am
  ·rw[mq]
  ·refine ax ?_;omega
  ·have k:p≠d:=aa
   refine ar k ?_;rw[C4,mq]
  ·refine ax ?_;omega
  ·intro j K w L M;have k:j≠n+0:=aa
   have y:j≠n+2+7:=aa
   refine ar L ?_
   rw[z j aa (A j (fun rs s=>M _ _ _) K),aq,ac y,aq,ac w,aq,ac k,aq,ac k,aq,ac w])
 obtain⟨C,h',o,⟨rfl,q1,q2,q3,q4,q5⟩,env',ps',bd',S,q7⟩:=this;rw[q1]at S;simp only[zA,O.loop.injEq]at S;obtain⟨rfl,rfl,rfl,_⟩:=S;refine⟨_,o,q7,by rw[aq,ah rfl];rfl,by rw[aq,ac P7.symm];exact q2,?_,q4,fun j K w L M=>by rw[aq,ac w];exact q5 j K w L M⟩;obtain⟨v,v1,v2⟩:=q3;refine⟨v,by rw[aq,ac P8.symm];exact v1,?_⟩;rcases v2 with g | ⟨p,g,B,m⟩
 ·exact .inl g
 ·exact .inr ⟨p,g,B,by rw[aq,ac (by rintro rfl;rw[q1]at m;simp at m)];exact m⟩
theorem lI.upd {h:ae} {n d e:Nat} {l:List Choice} {env:Nat->V} {m:List Nat} {g:C} {p:LSt} (o:Option O) (a:lI h n d l) (j:h e=some (.loop env m g p)) (f:e≠d):lI (updC h e o) n d l:=by
 obtain⟨v,q,r⟩:=a;refine⟨v,by rw[aq,ac f.symm];exact q,?_⟩;rcases r with b | ⟨k,b,i,c⟩
 ·exact .inl b
 ·exact .inr ⟨k,b,i,by rw[aq,ac (by rintro rfl;rw[j]at c;simp at c)];exact c⟩
theorem OF {o:Option (V×ae×Nat)} {k:Nat} {P:Ex->ae->Nat->Prop} {Q:ae->Nat->Prop} (h: ∃r h' a,o=some (r,h',a)/\Q h' a)
 (i: ∀h' a,Q h' a-> ∃env d c b e,h' k=some (.loop env d c b)/\b.ends=some e/\P e h' a): ∃r h' a,o=some (r,h',a)/\ ∃env d c b e,h' k=some (.loop env d c b)/\b.ends=some e/\P e h' a:=by
 obtain⟨r,h',a,f,g⟩:=h;exact⟨r,h',a,f,i h' a g⟩
theorem W7 (p:Prog) (hs:p.sane) (B:aO p=true) (k:Int) (hk:k=1\/k=2) (c:Config) (o:IsB p c):Den Γ G 179 [(zP p),vi k,(.agg [.t (ints (c).mem),.t (ints (c).at_),.t (.sl ((c).buf.map (fun b=>[.sl (b.map Entry.enc)])))])]=some (.t (.sl ((lD p k c).map Choice.enc))):=by
 obtain⟨⟨m1,m2,m3,m4⟩,l5⟩:=cO (cP B).1;have l1:=o.lm;have l2:=o.la;have l3:=o.lb;have Ga:=Q' p hs B c o k hk;have k0: ¬k=0:=aa
 unfold stV at Ga
 refine aD (q:=aG k0 Ga ?_);refine aS 37797378607022281333760 c.at_.length (fun i f h x=>(f 33).v=vi i/\lI h x 17 (eF p k c i)/\18<=x) rfl ?_ ?_
 ·exact⟨am,⟨.t .nils,am,.inl ⟨rfl,rfl⟩⟩,am⟩
 rintro i f u H z bs hi ⟨w,hL,hz⟩;have hw:=aC i aa;refine ar w ?_;refine aQ w ?_ ?_<;>intro h
 ·obtain⟨x,Y,C1⟩:=aw (show i<p.threads.length from aa);have hv:=N_ p B c o i aa;obtain⟨_,AE,_⟩:=l5 x C1;refine aY w hv Y ?_;refine aS 2305772640469520384 x.steps.length (fun j f' h' x'=>(f' 46).v=vi j/\h' (z+1+1)=some (.rows 1 [[vi i]] false)/\lI h' x' 17 (eF p k c i++fC p c i x j)/\z+3<=x') rfl ?_ ?_
  ·obtain⟨v,d,g⟩:=hL;have J:17≠z+1+1:=aa
   refine⟨am,am,⟨v,a_ J d,?_⟩,av⟩;have R:fC p c i x 0=[]:=rfl;rw[R,bQ];rcases g with a | ⟨D,a,I,A⟩
   ·exact .inl a
   ·have K:D≠z+1+1:=aa
    exact .inr ⟨D,a,av,a_ K A⟩
  rintro j f' u' H' r bs' hj ⟨C,y,Gg,Mk⟩;have Aw:=aC j aa;refine ar C ?_;refine dz C w ?_ ?_<;>intro h
  ·obtain⟨s,Q,F3⟩:=aw ‹j<x.steps.length›;have Ch:=HB p B k c o i x Y j s Q;unfold stV at Ch;obtain⟨v,d,g⟩:=Gg;refine bG C w y Ch d ?_;refine mI C w y d ?_ ?_<;>intro h
   ·have N:=g.valOf
    have FZ:(eF p k c i++fC p c i x j).length<2^20:=by
     have a:=qZ B (k:=k) o i;have I:=rm p c i x j;rw[zM];omega
    have l:=wt (p:=p) (c:=c) (t:=i) Q;rw[h,ah rfl]at l
    have I1:ay (updC H' (r+1+2+5+4) (some (O.rows 3 [[V.t (T.int IntKind.i64 i),V.t (T.int IntKind.i64 j),V.t (T.int IntKind.i64 0)]] false))) (r+1+2+5+5) v 3 (bj (eF p k c i++fC p c i x j)):=by
     rcases g with a | ⟨D,a,I,A⟩
     ·exact .inl a
     ·exact .inr ⟨D,a,aa,by rw[aq,ac aa];exact A⟩
    have AD:=I1.rowsS;refine cw C w y d N AD ?_;refine bX I1 (aA _) (by rw[i_];omega) aI rfl (o9 _) ?_;intro v3 hp hO Bn Z;rcases hO with⟨_,CY⟩ | ⟨E,rfl,Q5,NI⟩
    ·simp at CY
    have Q4:r+1+2+5+5<=E:=by
     rcases bv E (r+1+2+5+5)with a | a
     ·exact absurd rfl (Bn E a 0 _)
     ·exact a
    have AM: ∀q,(∀rs fz,H' q≠some (.rows 3 rs fz))->aK v q:=fun q hq=>by
     rcases g with⟨rfl,_⟩ | ⟨kv,rfl,I,A⟩
     ·intro i n h0;cases h0
     ·refine cV ?_ _ _;rintro rfl;exact hq _ _ A
    have y1:=Z 17 aa (AM 17 (by rw[d];simp));have y2:=Z (z+1+1) aa (AM _ (by rw[y];simp));rw[aq,ac aa,d]at y1;rw[aq,ac aa,y]at y2;have J:z+1+1≠17:=aa
    have K:E≠17:=aa
    refine aG C y1 ?_;refine⟨aa,al Aw,a_ J y2,⟨.ms E 0 (bj (eF p k c i++fC p c i x j)++[[vi i,vi j,vi 0]]).length,am,.inr ⟨E,?_,av,?_⟩⟩,av⟩
    ·rw[l,<- zQ,mq]
    ·refine ar K ?_;rw[NI,l,<- zQ,mq]
   ·have l:=wt (p:=p) (c:=c) (t:=i) Q;rw[h]at l;simp only[zG,aX,bQ]at l;refine⟨aa,al Aw,al y,⟨v,al d,?_⟩,av⟩;rw[l];exact g.le av
  ·have H1:j=x.steps.length:=aa
   subst H1;have Ao:=Q_ p k c i;unfold stV at Ao;refine aY y w Ao ?_
   generalize U:envC _=env
   have e9:env 9= .mp 17 0 0:=by rw[<- U];exact am
   have S:env 10= .mp (z+1+1) 0 0:=by rw[<- U];exact am
   clear U;have hb:=(o.buf i _ (fx (c:=c) (t:=i) aa)).2.1
   have QX:(eF p k c i++fC p c i x x.steps.length).length<2^19:=by
    have a:=qZ B (k:=k) o i;have I:=rm p c i x x.steps.length;rw[zM];omega
   refine yS (P:=fun e h' F=>e= .normal/\lI (updC h' (r+1+3) (some .dead)) F 17 (eF p k c (i+1))/\18<=F) ?_ ?_
   ·refine OF (Me p B k c o i aa (r+1+3)
     (fun q h n=>h (r+1+3)=some (.loop env [64,65] qG .ready)/\h (z+1+1)=some (.rows 1 [[vi i]] false)/\lI h n 17 (eF p k c i++fC p c i x x.steps.length++iK k i (aF c i) q)/\r+1+4<=n)
     (fun _ _=>False) ?_ (fun _ _ _ h _=>h) ?_ _ _ ?_) ?_
    ·rintro q h n m ⟨L,M,⟨v,d,g⟩,a4⟩ GE;exact⟨L,M,⟨v,d,g.le GE⟩,aa⟩
    ·rintro q e h n X ⟨L,M,a3,a4⟩;have l:=K8 (k:=k) (t:=i) X;have RE:=(zH.1 X).1;have D4:=(o.buf i _ (fx (c:=c) (t:=i) aa)).1;cases ho:di k (aF c i) q e
     ·rw[ac af];rw[ho,ac af,bQ]at l;rw[l];exact⟨L,M,a3,a4⟩
     ·rw[ah rfl];rw[ho,ah rfl]at l;have RP:=xr k i (aF c i) q;obtain⟨h',F,b1,b2,b3,b4,b5,b6⟩:=kcv (i:=q) (e:=e) L e9 S M a3 aa aa aa aa aa aa (hb e (zL X)).ne (by rw[zM];omega);refine⟨true,h',F,b1,?_⟩;rw[ah rfl,l,<- zQ];exact⟨b2,b3,b4,aa⟩
    ·obtain⟨v,d,g⟩:=Gg;have J:z+1+1≠r+1+3:=aa
     have K:17≠r+1+3:=aa
     refine⟨by rw[aq,ah rfl],by rw[aq,ac J];exact y,⟨v,by rw[aq,ac K];exact d,?_⟩,aa⟩;have R:iK k i (aF c i) 0=[]:=rfl;rw[R,bQ];rcases g with a | ⟨D,a,I,A⟩
     ·exact .inl a
     ·exact .inr ⟨D,a,aa,by rw[aq,ac aa];exact A⟩
    ·rintro h' F (W | ⟨⟨⟩⟩);refine⟨env,[64,65],qG,.ready,.normal,W.1,rfl,rfl,?_,aa⟩;rw[wY Y,<- zQ];exact W.2.2.1.upd _ W.1 aa
   ·rintro e h' F ⟨rfl,⟨v,d,g⟩,Fh⟩;refine ar w ?_;refine⟨aa,al hw,⟨v,al d,?_⟩,av⟩;exact g.le av
 ·have Cq:i=c.at_.length:=aa
  subst Cq;obtain⟨v,d,g⟩:=hL;have N:=g.valOf;have Bh:=g.reify (o7 _);have v5:=g.resVal;simp only[Rg.resVal]at v5;refine aY d N v5 ?_;rw[l2]at Bh;exact Bh
structure NxV (p:Prog) (k:Int) (c:Config) (t:Nat) (n:Int) (env:Nat->V) (ky k7 k8 k9 kS:Nat) (h:Nat->Option O) (x:Nat):Prop where
 e7:env 7= .mp k7 0 0
 e8:env 8= .mp k8 0 0
 e9:env 9= .mp k9 0 0
 e10:env 10= .mp kS 0 0
 hy:h ky=some (.loop env [57,58] mR .ready)
 h7:h k7=some (.rows 3 [[vi t,vi (-1),vi n]] false)
 h8:h k8=some (.rows 3 [[.t .nils,.t .nils,.t .nils]] false)
 h9:h k9=some (.rows 1 [[vi 0]] false)
 hS:h kS=some (.rows 8 [[.t (ints c.mem),.t (ints c.at_),.t (.sl (c.buf.map fun b=>[.sl (b.map Entry.enc)])),.t (.sl (p.cells.map Cell.enc)),.t (.sl (p.modules.map Contract.enc)),.t (.sl (p.locks.map Lock.enc)),.t (.sl (p.threads.map Thread.enc)),vi k]] false)
 ly:ky<x
 l7:k7<ky
 l8:k8<ky
 l9:k9<ky
 lS:kS<ky
 d78:k7≠k8
 d79:k7≠k9
 d7S:k7≠kS
 d89:k8≠k9
 d8S:k8≠kS
 d9S:k9≠kS
theorem YU {p:Prog} {k:Int} {c:Config} {t i:Nat} {n:Int} {env:Nat->V} {b g l m q:Nat} {h:ae} {x:Nat} {e:Entry} (H:NxV p k c t n env b g l m q h x) (M:e.cells≠[]) (hn:cg e≠n):
 ∃h' f,DenY Γ G b [vi i,.agg [.t (ints e.cells),.t (ints e.values)]] h x=some (vb true,h',f)/\NxV p k c t n env b g l m q h' f:=by
 have N:e.cells[0]? =some (cg e):=by
  cases F:e.cells with
  | nil=>exact absurd F M
  | cons a r=>simp[cg,F]
 obtain⟨D,e8,e9,A,hy,E,h8,h9,hS,ly,I,J,K,L,s,u,v,w,y,z⟩:=H;have Q:g≠x+1+0:=aa
 have R:l≠x+1+0:=aa
 have S:m≠x+1+0:=aa
 have T:q≠x+1+0:=aa
 have U:b≠x+1+0:=aa
 have c1:x+1+0≠g:=aa
 have c2:x+1+0≠l:=aa
 have c3:x+1+0≠m:=aa
 have c4:x+1+0≠q:=aa
 have c5:x+1+0≠b:=aa
 have W:g≠b:=aa
 have b2:l≠b:=aa
 have X:m≠b:=aa
 have Y:q≠b:=aa
 have:=su (Γ:=Γ) (G:=G) (vs:=[vi i,.agg [.t (ints e.cells),.t (ints e.values)]]) (n:=x) (P:=fun B h' f=>B= .normal/\h' b=some (.loop env [57,58] mR .busy)/\x<=f/\(∀j,j<b->h' j=h j)) hy rfl (fun B h' f hP=>⟨_,_,_,hP.2.1⟩) (by
  simp -dsimp only[go_sem,seval,D,E,Q,R,S,T,U,W,b2,X,Y,c1,c2,c3,c4,c5,N,hn];refine⟨rfl,by simp -dsimp only[go_sem,seval];rfl,av,fun j d=> ?_⟩;have u1:j≠b:=aa
  have u2:j≠x+1+0:=aa
  exact a_ u1 u2)
 obtain⟨B,h',f,⟨rfl,q1,q2,q3⟩,env',ps',Z,C,q7⟩:=this;rw[q1]at C;simp only[zA,O.loop.injEq]at C;obtain⟨rfl,rfl,rfl,_⟩:=C;have d: ∀j o,j<b->updC h' b o j=h j:=fun j o d=>by rw[aq,ac aa];exact q3 j d
 exact⟨_,f,q7,D,e8,e9,A,by rw[aq,ah rfl];rfl,by rw[d _ _ I];exact E,by rw[d _ _ J];exact h8,by rw[d _ _ K];exact h9,by rw[d _ _ L];exact hS,aa,I,J,K,L,s,u,v,w,y,z⟩
theorem XC {p:Prog} (hf:aO p=true) {k:Int} {c:Config} (m:IsB p c) {t i:Nat} (ht:t<p.threads.length) {n:Int} {env:Nat->V} {d o f g q:Nat} {h:ae} {x:Nat} {e:Entry} (H:NxV p k c t n env d o f g q h x)
 (he:(aF c t)[i]? =some e) (B:e.cells≠[]) (hn:cg e=n):
 ∃h' j,DenY Γ G d [vi i,.agg [.t (ints e.cells),.t (ints e.values)]] h x=some (vb false,h',j)/\h' d=some (.loop env [57,58] mR (.done .ret))/\
  h' f=some (.rows 3 [[.t (ints (c9 c t i).mem),.t (ints (c9 c t i).at_),.t (.sl ((c9 c t i).buf.map fun b=>[.sl (b.map Entry.enc)]))]] false)/\h' g=some (.rows 1 [[vi 0]] false)/\d<j:=by
 have C:e.cells[0]? =some (cg e):=by
  cases m:e.cells with
  | nil=>exact absurd m B
  | cons a r=>simp[cg,m]
 have w:=Xr p hf k c m t ht i e he;unfold stV at w;obtain⟨e7,e8,e9,s,hy,h7,h8,h9,hS,ly,l7,l8,l9,lS,W,X,Y,l,Z,d9S⟩:=H;have D:o≠x+1+0:=aa
 have E:f≠x+1+0:=aa
 have F:g≠x+1+0:=aa
 have I:q≠x+1+0:=aa
 have J:d≠x+1+0:=aa
 have Q:x+1+0≠o:=aa
 have R:x+1+0≠f:=aa
 have S:x+1+0≠g:=aa
 have T:x+1+0≠q:=aa
 have U:x+1+0≠d:=aa
 have K:o≠d:=aa
 have b2:f≠d:=aa
 have y:g≠d:=aa
 have L:q≠d:=aa
 have z:d≠f:=aa
 have A:d≠g:=aa
 have M:g≠f:=aa
 have:=su (Γ:=Γ) (G:=G) (vs:=[vi i,.agg [.t (ints e.cells),.t (ints e.values)]]) (n:=x) (P:=fun u h' j=>u= .ret/\h' d=some (.loop env [57,58] mR .busy)/\x<=j/\
  h' f=some (.rows 3 [[.t (ints (c9 c t i).mem),.t (ints (c9 c t i).at_),.t (.sl ((c9 c t i).buf.map fun b=>[.sl (b.map Entry.enc)]))]] false)/\h' g=some (.rows 1 [[vi 0]] false)) hy rfl (fun u h' j hP=>⟨_,_,_,hP.2.1⟩) (by
  simp -dsimp only[go_sem,seval,e7,h7,D,E,F,I,J,K,b2,y,L,Q,R,S,T,U,C,hn,e8,e9,s,hS,w,h8,h9,z,A,M,l]
  refine⟨rfl,by simp -dsimp only[go_sem,seval,z,A];rfl,av,al l,am⟩)
 obtain⟨u,h',j,⟨rfl,q1,q2,q3,q4⟩,env',ps',N,v,q7⟩:=this;rw[q1]at v;simp only[zA,O.loop.injEq]at v;obtain⟨rfl,rfl,rfl,_⟩:=v;exact⟨_,j,q7,by rw[aq,ah rfl];rfl,by rw[aq,ac b2];exact q3,by rw[aq,ac y];exact q4,aa⟩
theorem Y2 (p:Prog) (hs:p.sane) (A:aO p=true) (k:Int) (hk:k=1\/k=2) (c:Config) (g:IsB p c) (x:Choice):
 Den Γ G 180 [(zP p),vi k,(.agg [.t (ints (c).mem),.t (ints (c).at_),.t (.sl ((c).buf.map (fun b=>[.sl (b.map Entry.enc)])))]),(.agg [.t (ti (x).thread),.t (ti (x).step),.t (ti (x).cell)])]=some (.tup [(.agg [.t (ints ((ef p k c x).1).mem),.t (ints ((ef p k c x).1).at_),.t (.sl (((ef p k c x).1).buf.map (fun b=>[.sl (b.map Entry.enc)])))]),vi (ef p k c x).2]):=by
 obtain⟨⟨m1,m2,m3,m4⟩,l5⟩:=cO (cP A).1;have l1:=g.lm;have l2:=g.la;have l3:=g.lb;have o:=Q' p hs A c g k hk;have v: ¬k=0:=aa
 unfold stV at o
 refine aD (q:=?_)
 by_cases C:x.thread<0\/(p.threads.length:Int)<=x.thread\/x.step< -1
 ·have a:ef p k c x=(eL,110):=by rw[ef,ah C]
  rw[a];simp only[eL,be]
  by_cases r:x.thread<0
  ·refine aY v o r ?_;rfl
  ·by_cases w:x.thread>=(p.threads.length:Int)
   ·refine bw v o r w ?_;rfl
   ·have D:x.step< -1:=aa
    refine bG v o r w D ?_;rfl
 ·have r: ¬x.thread<0:=aa
  have w: ¬x.thread>=(p.threads.length:Int):=aa
  have D: ¬x.step< -1:=aa
  by_cases d:x.step= -1
  ·have H:((x.thread.toNat:Nat):Int)=x.thread:=aa
   have T:=Q_ p k c x.thread.toNat;rw[H]at T;unfold stV at T;refine dc v o r w D d T ?_
   generalize M:envC _=env
   have e7:=congrFun M 7;have e8:=congrFun M 8;have e9:=congrFun M 9;have K:=congrFun M 10;clear M;simp -dsimp only[go_sem,seval]at e7 e8 e9 K;have ht:x.thread.toNat<p.threads.length:=aa
   have EV:=(g.buf x.thread.toNat _ (fx (c:=c) (t:=x.thread.toNat) aa)).2.1
   refine yS (P:=fun e h' I=>(e= .normal/\lT k (aF c x.thread.toNat) x.cell=none/\h' 3=some (.rows 3 [[.t .nils,.t .nils,.t .nils]] false)/\h' 4=some (.rows 1 [[vi 0]] false))\/
    (e= .ret/\ ∃i,lT k (aF c x.thread.toNat) x.cell=some i/\
      h' 3=some (.rows 3 [[.t (ints (c9 c x.thread.toNat i).mem),.t (ints (c9 c x.thread.toNat i).at_),.t (.sl ((c9 c x.thread.toNat i).buf.map fun b=>[.sl (b.map Entry.enc)]))]] false)/\h' 4=some (.rows 1 [[vi 0]] false))) ?_ ?_
   ·rw[<- H]
    refine OF (Me p A k c g x.thread.toNat ht 42
     (fun q h n=>NxV p k c x.thread.toNat x.cell env 42 2 3 4 14 h n/\ ∀j e,j<q->(aF c x.thread.toNat)[j]? =some e-> ¬(di k (aF c x.thread.toNat) j e=true/\cg e=x.cell))
     (fun h n=> ∃i,lT k (aF c x.thread.toNat) x.cell=some i/\h 42=some (.loop env [57,58] mR (.done .ret))/\
       h 3=some (.rows 3 [[.t (ints (c9 c x.thread.toNat i).mem),.t (ints (c9 c x.thread.toNat i).at_),.t (.sl ((c9 c x.thread.toNat i).buf.map fun b=>[.sl (b.map Entry.enc)]))]] false)/\h 4=some (.rows 1 [[vi 0]] false)) ?_ (fun _ _ _ h _=>h) ?_ _ _ ?_) ?_
    ·rintro q h n m ⟨f,F⟩ GE;exact⟨{ f with ly:=by have:=f.ly;omega },F⟩
    ·rintro q e h n l ⟨f,F⟩;have BH:=EV e (zL l);cases ho:di k (aF c x.thread.toNat) q e
     ·rw[ac af];refine⟨f,fun j e' B y=> ?_⟩;rcases bv j q with L | L
      ·exact F j e' L y
      ·have:j=q:=aa
       subst this;rw[l]at y;cases y;rw[ho];simp
     ·rw[ah rfl]
      by_cases O:cg e=x.cell
      ·obtain⟨h',I,J,b2,V,W,b5⟩:=XC A g ht f l BH.ne O;refine⟨false,h',I,J,?_⟩;rw[ac af];exact⟨q,by rw[<- O];exact Pj EV l ho,b2,V,W⟩
      ·obtain⟨h',I,J,b2⟩:=YU (i:=q) f BH.ne O;refine⟨true,h',I,J,?_⟩;rw[ah rfl];refine⟨b2,fun j e' B y=> ?_⟩;rcases bv j q with L | L
       ·exact F j e' L y
       ·have:j=q:=aa
        subst this;rw[l]at y;cases y;exact fun h=>O h.2
    ·refine⟨⟨e7.symm,e8.symm,e9.symm,K.symm,am,a_ H d,am,am,am,aa,aa,aa,aa,aa,aa,aa,aa,aa,aa,aa⟩,fun j _ B=>aa⟩
    ·rintro h' I (⟨f,F⟩ | ⟨i,J,b2,V,W⟩)
     ·refine⟨env,[57,58],mR,.ready,.normal,f.hy,rfl,.inl ⟨rfl,?_,f.h8,f.h9⟩⟩;unfold lT;rw[pV];intro j B;rw[dN]at B;rw[zI B];intro h;simp only[zF,aR]at h;exact F j _ B (zI B) h
     ·exact⟨env,[57,58],mR,.done .ret,.ret,b2,rfl,.inr ⟨rfl,i,J,V,W⟩⟩
   ·rintro e h' I (⟨rfl,Y,Z,g3⟩ | ⟨rfl,i,Y,Z,g3⟩)
    ·have a:ef p k c x=(eL,110):=by rw[ef,ac C,ah d,Y]
     rw[a];simp only[eL,be];refine aG Z g3 ?_;rfl
    ·have a:ef p k c x=(c9 c x.thread.toNat i,0):=by rw[ef,ac C,ah d,Y]
     rw[a];exact a_ Z g3
  ·have H:((x.thread.toNat:Nat):Int)=x.thread:=aa
   have es:((x.step.toNat:Nat):Int)=x.step:=aa
   have Q:0<=x.thread:=aa
   have s0:0<=x.step:=aa
   obtain⟨R,u,PQ⟩:=aw (show x.thread.toNat<p.threads.length from aa);have N:=N_ p A c g x.thread.toNat aa;rw[H]at N
   by_cases z:x.cell=0
   ·by_cases X:x.step>=(R.steps.length:Int)
    ·have a:ef p k c x=(eL,110):=by
      rw[ef,ac C,ac d];have:kX p x=none:=by simp[kX,u];omega
      rw[this]
     rw[a];simp only[eL,be];refine kT v o r w D d N u Q z X ?_;rfl
    ·obtain⟨s,U,F3⟩:=aw (show x.step.toNat<R.steps.length from aa);have Ff:kX p x=some s:=by simp[kX,u,U]
     have E:=HB p A k c g x.thread.toNat R u x.step.toNat s U;rw[H,es]at E;unfold stV at E;cases l:dg p c x.thread.toNat s
     ·have a:ef p k c x=(eL,110):=by
       rw[ef,ac C,ac d,Ff];simp[l]
      rw[a];rw[l]at E;simp only[eL,be];refine qV v o r w D d N u Q z X E ?_;rfl
     ·have a:ef p k c x=(eg p c x.thread.toNat s,0):=by
       rw[ef,ac C,ac d,Ff];simp[l,z]
      rw[a];rw[l]at E;have S:=ZZ p A k c g x.thread.toNat R u x.step.toNat s U x (by cases x;simp_all);unfold stV at S;refine qV v o r w D d N u Q z X E ?_;rw[z]at S;exact al S
   ·have a:ef p k c x=(eL,110):=by
     rw[ef,ac C,ac d];split
     ·simp[z]
     ·rfl
    rw[a];simp only[eL,be];refine jk v o r w D d N u Q z ?_;rfl
theorem kaX {p:Prog} {c:Config} (a:IsB p c):jg p c.mem c.at_=true:=by
 have h:IsC p ⟨c.mem,c.at_,p.threads.map fun _=>[]⟩:=⟨a.lm,a.la,af,a.mem,a.at_,af⟩
 have b:=mQ.2 h;simp only[isM,zF]at b;exact b.1.1
theorem Xl (p:Prog) (w:aO p=true) (e:Entry) (b:Proper p e):Den Γ G 204 [(zP p),.agg [.t (ints e.cells),.t (ints e.values)]]=some (vb true):=by
 obtain⟨⟨U,V,W,X⟩,_⟩:=cO (cP w).1;have R:=gQ b;have S:=b.len
 have K: ¬(e.cells.length:Int)=0:=by
  have:e.cells.length≠0:=fun h=>b.ne (fo h)
  omega
 have L:(e.values.length:Int)=(e.cells.length:Int):=aa
 refine aD (q:=aG K L ?_);refine ba 154742504910672534360293616 e.cells.length (fun i f=>(f 5).v=vi i) rfl rfl am ?_;rintro i f u T bb hi a;have I:=aC i aa;refine ar a ?_;refine aQ a ?_ ?_<;>intro h<;>try exact⟨⟩
 ·obtain⟨n,d,O⟩:=aw ‹i<e.cells.length›;obtain⟨v,l,_⟩:=aw (show i<e.values.length from aa);obtain⟨E,y,g,H,F,v0,Z⟩:=b.cell i n v d l;have P:=(zH.1 g).1;obtain⟨w1,w2,_⟩:=qf w (zL g);have B:=o_ y.w aa;have k:=iH n p.cells.length;have m:=iH v (2^y.w.toNat);have M:inR n p.cells.length=true:=by simp only[inR,aR];omega
  have N:inR v (2^y.w.toNat)=true:=by simp only[inR,aR];omega
  rw[M]at k;rw[N]at m
  have A:((y.ghost==decide ((i:Int)>0)) != true)=false:=by
   rw[F]
   by_cases r:0<i
   ·have:(i:Int)>0:=aa
    simp[r]
   ·have : ¬(i:Int)>0:=aa
    simp[r]
  refine jk a d k E g H A l B m ?_;refine ba 154704725978809577200681104 i (fun j o=>(o 7).v=vi j) rfl rfl am ?_;rintro j o Y J D Q c;have z:=aC j aa;refine aG c a ?_;refine dz c a ?_ ?_<;>intro h
  ·obtain⟨q,x,_⟩:=aw (show j<e.cells.length from aa)
   have C: ¬q=n:=by
    rintro rfl;have s:=zH.1 x;have t:=zH.1 d;exact qn.1 (sW.1 b.nd) j i s.1 t.1 aa (by rw[s.2,t.2])
   refine bw c a x C ?_;exact⟨aa,al z⟩
  ·exact⟨aa,a_ I a⟩
theorem kaY (p:Prog) (r:aO p=true) (c:Config) (m:IsB p c):Den Γ G 193 [(zP p),(.agg [.t (ints (c).mem),.t (ints (c).at_),.t (.sl ((c).buf.map (fun b=>[.sl (b.map Entry.enc)])))])]=some (vb true):=by
 obtain⟨⟨P,Q,R,S⟩,_⟩:=cO (cP r).1;have M:=m.lm;have N:=m.la;have O:=m.lb;have F:(c.buf.length:Int)=(p.threads.length:Int):=aa
 have v:=YB p r c.mem c.at_ aa aa;rw[kaX m]at v
 refine aD (q:=aG v F ?_);refine ba 37778931862957153321072 c.buf.length (fun i f=>(f 5).v=vi i) rfl rfl am ?_;rintro t f u L bb hi d;have w:=aC t aa;refine ar d ?_;refine aQ d ?_ ?_<;>intro h<;>try exact⟨⟩
 ·obtain⟨a,q,_⟩:=aw (show t<c.at_.length from aa);have g:=fx (c:=c) (t:=t) aa;obtain⟨K,b2,E⟩:=m.buf t _ g;have x: ¬((aF c t).length:Int)>3:=aa
  by_cases n:((aF c t).length:Int)>0
  ·have B: ¬a= -1:=by
    rintro rfl;have:=E q;rw[this]at n;simp at n
   refine cw d q g x n B ?_;refine ba 37778913848558652227664 (aF c t).length (fun j k=>(k 6).v=vi j) rfl rfl am ?_;rintro j k J s o I l;have y:=aC j aa;refine aY l d g ?_;refine qS l d g ?_ ?_<;>intro h
   ·obtain⟨e,H,z⟩:=aw ‹j<(aF c t).length›;have C:=Xl p r e (b2 e z);refine cw l d g H @Entry.enc.eq_1 C ?_;exact⟨aa,al y⟩
   ·exact⟨aa,a_ w d⟩
  ·have A:(aF c t).length=0:=aa
   refine bG d q g x n ?_;refine ba 37778913848558652227664 0 (fun j k=>(k 6).v=vi j) rfl rfl am ?_;rintro j k J s o I l;have D:j=0:=aa
   subst D;refine bw l d g A ?_;exact⟨aa,a_ w d⟩
theorem XE (c:Config) (l:c.buf.length<2^48):Den Γ G 194 [(.agg [.t (ints (c).mem),.t (ints (c).at_),.t (.sl ((c).buf.map (fun b=>[.sl (b.map Entry.enc)])))])]=some (vb (uK c)):=by
 refine aD (q:=ax ?_);refine ba 262140 c.buf.length (fun i f=>(f 3).v=vi i/\uK c=(c.buf.drop i).all fun b=>b.isEmpty) rfl rfl ⟨am,rfl⟩ ?_;rintro i f u m bb hi ⟨d,g⟩;have k:=aC i aa;refine ar d ?_;refine aQ d ?_ ?_<;>intro h
 ·obtain⟨b,e,_⟩:=aw ‹i<c.buf.length›
  by_cases a:b=[]
  ·have j: ¬(b.length:Int)>0:=by rw[a];simp
   refine aY d e j ?_;exact⟨aa,al k,by rw[g,d9 e (by rw[a];rfl)]⟩
  ·have j:(b.length:Int)>0:=by
    have:b.length≠0:=fun h=>a (fo h)
    omega
   refine aY d e j ?_;rw[g,d8 e (by cases b with | nil=>exact absurd rfl a | cons _ _=>rfl)]
 ·have:i=c.buf.length:=aa
  subst this;rw[g,ed]
theorem kbw (p:Prog) (b:p.sane):Den Γ G 176 [(zP p)]=some (vb (aO p)):=by
 refine aD (q:=?_)
 have a:=wG p b;refine ar a ?_;rfl
theorem Mt (p:Prog) (n:p.sane) (e:aO p=true) (k:Int) (o:0<=k/\k<=2) (c:Config) (d:IsK p k c):Den Γ G 182 [(.agg [.t (.sl ((p).cells.map (Cell.enc))),.t (.sl ((p).modules.map (Contract.enc))),.t (.sl ((p).locks.map (Lock.enc))),.t (.sl ((p).threads.map (Thread.enc)))]),vi k,(.agg [.t (ints (c).mem),.t (ints (c).at_),.t (.sl ((c).buf.map (fun b=>[.sl (b.map Entry.enc)])))])]=some (vb true):=by
 obtain⟨⟨r,s,t,u⟩,_⟩:=cO (cP e).1;have q:=d.b.lb;have a:=kbw p n;rw[e]at a;have g:=kaY p e c d.b;have h:=XE c aa;have i: ¬k<0:=aa
 have j: ¬k>2:=aa
 refine aD (q:=?_)
 by_cases f:k=0
 ·have m:uK c=true:=by
   rw[uK,zN];intro b l;rw[d.q f b l];rfl
  rw[m]at h;exact po i j a g f h
 ·exact sD i j a g f
theorem Hv (p:Prog) (hs:p.sane) (L:aO p=true) (k:Int) (hk:0<=k/\k<=2) (c:Config) (l:IsK p k c):Den Γ G 354 [(zP p),vi k,(.agg [.t (ints (c).mem),.t (ints (c).at_),.t (.sl ((c).buf.map (fun b=>[.sl (b.map Entry.enc)])))])]=some (.t (.sl ((c_ p k c).map Choice.enc))):=by
 rw[q9 l];obtain⟨⟨l1,l2,l3,l4⟩,l5⟩:=cO (cP L).1;have AJ:=Mt p hs L k hk c l;have RH:=l.b.lb
 refine aD (q:=ar AJ ?_);refine aS 309485009821345068724717440 p.threads.length (fun i f h x=>(f 8).v=vi i/\ay h x (f 7).v 3 (bj (eF p k c i))) rfl ⟨am,.inl ⟨am,rfl⟩⟩ ?_;rintro i f u H x bs hi ⟨g,a⟩;have hw:=aC i aa;refine ar g ?_;refine aQ g ?_ ?_<;>intro h
 ·obtain⟨t,z,IW⟩:=aw ‹i<p.threads.length›;obtain⟨_,AE,_⟩:=l5 t IW;obtain⟨b,w,EW⟩:=aw (show i<c.buf.length from aa);have On:=Qk w;obtain⟨H9,W,_⟩:=l.b.buf i b w;have AO:=qZ L l.b (k:=k) i;refine aS 18014398501094016 t.steps.length (fun j O h x=>(O 9).v=vi j/\ay h x (O 7).v 3 (bj (eF p k c i++fC p c i t j))) rfl ⟨am,by simp -dsimp only[go_sem,seval,fC,ft,vG,rz,bQ];exact a.le aa⟩ ?_;clear a;rintro j O u' H' x' bs' hj ⟨K,a⟩;have U:=aC j aa
  by_cases M:j<t.steps.length
  ·have C:=aW M;obtain⟨s,J,F3⟩:=aw M;have E:=W8 p L k c l i t z j s J;have d:=wt (p:=p) (c:=c) (t:=i) J;have C7:=rm p c i t j;cases Z:dg p c i s
   ·rw[Z]at E d;refine dc K g z C J @Step.enc.eq_1 E ?_;refine⟨aa,al U,?_⟩;simp -dsimp only[go_sem,seval,d,bQ,zG,aX];exact a.le aa
   ·rw[Z]at E d;have A:=a.valOf;have Q:=a.r2;have R:=a.r3;have S:=a.r4;have m:=a.r5;refine qV K g z C J @Step.enc.eq_1 E A Q R S m ?_;refine bX (a.upd aa _) aa (by rw[i_,zM];omega) aI rfl (o9 _) ?_;intro v hp o Bp Aq;have T:=o.valOf;refine aG T K ?_;refine⟨aa,al U,?_⟩;simp -dsimp only[go_sem,seval,d,aU];rw[<- zQ,mq];exact o.le aa
  ·have C:=aJ M;have:j=t.steps.length:=aa
   subst this;refine bw K g z C ?_;refine aS 309485009803330670215300224 b.length (fun q f h x=>(f 10).v=vi q/\ay h x (f 7).v 3 (bj ((eF p k c i++fC p c i t t.steps.length)++iK k i b q))) rfl ⟨am,by simp -dsimp only[go_sem,seval,iK,ft,vG,rz,bQ];exact a.le aa⟩ ?_;have C7:=rm p c i t t.steps.length;clear a;rintro q f3 u3 H3 x3 bs3 hq ⟨F,a⟩;have X:=aC q aa
   by_cases N:q<b.length
   ·have I:=aW N;obtain⟨e,P,Cn⟩:=aw N;have V:=W e Cn;have D:=YZ k b q e P aa (fun y hy=>by have:=gQ (W y hy);omega);have d:=K8 (k:=k) (t:=i) P;have D9:=xr k i b q
    have CM:e.cells[0]? =some (cg e):=by
     have:=V.ne
     cases B:e.cells with
     | nil=>exact absurd B this
     | cons n r=>simp[cg,B]
    have By:0<e.cells.length:=by
     have:=V.ne
     cases B:e.cells with
     | nil=>exact absurd B this
     | cons n r=>simp
    have FF:(0:Int)<(e.cells.length:Int):=aa
    cases o:di k b q e
    ·rw[o]at D d;refine bG F g w I D ?_;refine⟨aa,al X,?_⟩;simp -dsimp only[go_sem,seval,d,bQ,zG,aX];exact a.le aa
    ·rw[o]at D d;have A:=a.valOf;have Q:=a.r2;have R:=a.r3;have S:=a.r4;have m:=a.r5;simp -dsimp only[go_sem,seval,F,g,w,I,D,P,Entry.enc,CM,FF,A,Q,R,S,m];refine bX (a.upd aa _) aa (by rw[i_,zM,zM];omega) aI rfl (o9 _) ?_;intro v hp Y Bp Aq;have T:=Y.valOf;refine aG T F ?_;refine⟨aa,al X,?_⟩;simp -dsimp only[go_sem,seval,d,aU];rw[<- zQ,mq];exact Y.le aa
   ·have I:=aJ N;have:q=b.length:=aa
    subst this;refine bw F g w I ?_;refine⟨aa,al hw,?_⟩;refine ax ?_;rw[wY z,On,<- zQ];exact a.le aa
 ·have:i=p.threads.length:=aa
  subst this;have A:=a.valOf;have Bh:=a.reify (o7 _);have m:=a.resVal;simp only[Rg.resVal]at m;refine aG A m ?_;exact Bh
theorem I2 (l:Loop) (d:l.body.length<2^40) (a:Int):Den Γ G 359 [(.agg [.t (ti (l).head),.t (ints (l).body),.t (ti ((l).variant).op),.t (ti ((l).variant).w),.t (ti ((l).variant).n),.t (.sl (((l).variant).kids.map Expr.enc))]),vi a]=some (vb (gl l a)):=by
 refine aD (q:=?_)
 have c:=xe l.body a d
 by_cases b:a=l.head
 ·have:gl l a=true:=by simp[gl,b]
  rw[this];exact al b
 ·have:gl l a=l.body.contains a:=by simp[gl,b]
  rw[this];exact a_ b c
theorem Mf (k:Int) (a:0<=k/\k<=2):Den Γ G 358 [vi k]=some (vb true):=by
 refine aD (q:=?_)
 rcases(show k=0\/k=1\/k=2 from aa)with rfl | rfl | rfl
 ·exact am
 ·exact am
 ·exact am
def dG (l:List Int):List (List V):=l.map fun n=>[.t (.int .u8 n)]
def rP (l:List Int):ByteArray:=⟨(l.map fun n=>UInt8.ofNat n.toNat).toArray⟩
theorem pw (l:List Int):(dG l).length=l.length:=by simp[dG]
theorem px (l m:List Int):dG (l++m)=dG l++dG m:=by simp[dG]
theorem py (l:List Int):((dG l).all fun r=>decide (r.length=1))=true:=by simp[dG]
theorem xd: ∀{l:List Int},(∀n∈l,0<=n/\n<256)->bytesOf (dG l)=some (l.map fun n=>UInt8.ofNat n.toNat)
 | [],_=>rfl
 | n::l,h=>by
   have a:=h n af;rw[dG,aT,bytesOf,ah a,show(l.map fun n=>[V.t (.int .u8 n)])=dG l from rfl,xd fun m b=>h m (by simp[b])];rfl
theorem Ot {l m:List Int} (f: ∀n∈l,0<=n/\n<256) (g: ∀n∈m,0<=n/\n<256) (h:rP l=rP m):l=m:=by
 have c:(l.map fun n=>UInt8.ofNat n.toNat)=m.map fun n=>UInt8.ofNat n.toNat:=by
  have:=bz ByteArray.data h;exact gP.2 this |>fun e=>by simpa[rP]using e
 clear h
 induction l generalizing m with
 | nil=>cases m with
   | nil=>rfl
   | cons _ _=>simp at c
 | cons a l i=>
   cases m with
   | nil=>simp at c
   | cons b m=>
     simp only[aT,gh]at c;have j:=f a af;have k:=g b af
     have e:a.toNat=b.toNat:=by
      have:=bz UInt8.toNat c.1;simp only[pQ]at this;omega
     rw[i (fun n d=>f n (by simp[d])) (fun n d=>g n (by simp[d])) c.2]
     congr 1
     omega
def b2 (l:List Int):List Int:=l.flatMap fun n=>[n % 256,n/ 256 % 256]
theorem qF (l m:List Int):b2 (l++m)=b2 l++b2 m:=by simp[b2]
theorem qE (l:List Int):(b2 l).length=2*l.length:=by
 induction l with
 | nil=>rfl
 | cons a l b=>simp only[b2,dq,zM,d6,i6]at b⊢;omega
theorem xB (l:List Int): ∀n∈b2 l,0<=n/\n<256:=by
 intro n b;simp only[b2,de]at b;obtain⟨m,_,a⟩:=b;simp at a;rcases a with rfl | rfl<;>omega
theorem kcd {l m:List Int} (d: ∀n∈l,-1<=n/\n<256) (e: ∀n∈m,-1<=n/\n<256) (h:b2 l=b2 m):l=m:=by
 induction l generalizing m with
 | nil=>cases m with
   | nil=>rfl
   | cons _ _=>simp[b2]at h
 | cons a l f=>
   cases m with
   | nil=>simp[b2]at h
   | cons b m=>
     simp only[b2,dq,i8,eY,gh]at h;have g:=d a af;have i:=e b af;rw[f (fun n c=>d n (by simp[c])) (fun n c=>e n (by simp[c])) h.2.2]
     congr 1
     omega
theorem p8 (H:ae) (nx:Nat) (v:V) (l:List Int) (n:Int) (c:ay H nx v 1 (dG l)) (m:l.length<2^31):
 ∃r h' d,DenR Γ G 391 [v,vi n] H nx=some (r,h',d)/\(ay h' d r 1 (dG (l++[n % 256,n/ 256 % 256]))/\nx<=d):=by
 have i:=c.valOf;have j:=c.r2;have f: ∀a:Int,IntKind.i64.wrap ((BitVec.ofInt IntKind.i64.bits a&&& BitVec.ofInt IntKind.i64.bits 255).toNat)=a % 256:=fun a=>us a 8 aa
 have g: ∀a:Int,IntKind.u8.wrap (a % 256)=a % 256:=fun a=>by show(a % 256) % 256=_;omega
 have h: ∀a:Int,a.fdiv (2^min 8 64)=a/ 256:=fun a=>So _ aI
 refine bM (q:=bG i j f g h ?_);refine PG (c.upd aa _) aa (by rw[pw];simp;omega) aI rfl (py _) ?_;intro v hp b _ _;have k:=b.valOf;have e:=b.resVal;simp only[Rg.resVal]at e;refine aG k e ?_;refine⟨?_,av⟩;refine ax ?_;rw[px];exact b.le aa
theorem kaL (e:Entry) (h:e.values.length=e.cells.length):(l_ e).length=2*e.cells.length:=by
 have : ∀l:List (Int×Int),(l.flatMap fun q=>[q.1,q.2]).length=2*l.length:=by
  intro l
  induction l with
  | nil=>rfl
  | cons a l b=>simp only[dq,zM,d6,i6]at b⊢;omega
 rw[l_,this,ke];omega
theorem nB {α:Type} {f:α->List Int} {m:Nat}: ∀{l:List α},(∀x∈l,(f x).length<=m)->(l.flatMap f).length<=m*l.length
 | [],_=>af
 | x::l,h=>by
   have b:=h x af;have c:=nB (l:=l) fun y a=>h y (by simp[a])
   rw[dq,zM,d6,xg];omega
theorem tR {p:Prog} (i:aO p=true) {c:Config} (g:IsB p c) {b:List Entry} (f:b∈c.buf):(∀e∈b,(dI e).length<=65)/\b.length<=3/\(dW b).length<=196:=by
 have a: ∀e∈b,(dI e).length<=65:=fun e h=>by
  have hp:=g.ent b f e h;have:=gQ hp;have:=(mj i).1;rw[dI,d6,kaL e hp.len];omega
 obtain⟨t,j⟩:=eC f;have d:=(g.buf t b j).1;have k:=nB a;refine⟨a,d,?_⟩;rw[dW,d6];have:65*b.length<=65*3:=rx _ d;omega
def gy (c:Config):ByteArray:=rP (b2 (iQ 0 c))
theorem Ng (p:Prog) (M:aO p=true) (c:Config) (A:IsB p c):Den Γ G 383 [(.agg [.t (ints (c).mem),.t (ints (c).at_),.t (.sl ((c).buf.map (fun b=>[.sl (b.map Entry.enc)])))])]=some (.t (.str (gy c))):=by
 obtain⟨⟨m1,m2,m3,m4⟩,_⟩:=cO (cP M).1;have By:=(mj M).1;have l1:=A.lm;have l2:=A.la;have l3:=A.lb;have Ck:iQ 0 c=c.mem++c.at_++c.buf.flatMap dW:=by simp[iQ]
 refine aD (q:=ax ?_);refine aS 16776216 c.mem.length (fun i f h x=>(f 4).v=vi i/\ay h x (f 3).v 1 (dG (b2 (c.mem.take i)))) rfl ⟨am,.inl ⟨am,rfl⟩⟩ ?_
 ·rintro i f u H x bs hi ⟨U,a⟩;have C:=aC i aa;have B:=a.valOf
  by_cases g:i<c.mem.length
  ·have k:=aW g;obtain⟨n,s,_⟩:=aw g;refine bw U k s B ?_;refine bf (p8 _ _ _ (b2 (c.mem.take i)) n ?_ (by rw[qE,bJ];omega)) ?_
   ·exact a.le aa
   rintro r h' N ⟨d,D⟩;have w:=d.valOf;refine aG w U ?_;refine⟨aa,al C,?_⟩;refine ax ?_;rw[bc s,qF];exact d.le aa
  ·have k:=aJ g;have:i=c.mem.length:=aa
   subst this;rw[bg]at a;refine aG U k ?_;refine aS 274861129768 c.at_.length (fun i f h x=>(f 5).v=vi i/\ay h x (f 3).v 1 (dG (b2 (c.mem++c.at_.take i)))) rfl ⟨am,by simp -dsimp only[go_sem,seval,ft,bQ];exact a.le aa⟩ ?_;clear a;rintro i f u H x bs hi ⟨V,a⟩;have C:=aC i aa;have B:=a.valOf
   by_cases g:i<c.at_.length
   ·have k:=aW g;obtain⟨n,s,_⟩:=aw g;refine bw V k s B ?_;refine bf (p8 _ _ _ (b2 (c.mem++c.at_.take i)) n ?_ (by rw[qE,zM,bJ];omega)) ?_
    ·exact a.le aa
    rintro r h' N ⟨d,D⟩;have w:=d.valOf;refine aG w V ?_;refine⟨aa,al C,?_⟩;refine ax ?_;rw[bc s,<- zQ,qF];exact d.le aa
   ·have k:=aJ g;have:i=c.at_.length:=aa
    subst this;rw[bg]at a;refine aG V k ?_
    have O4: ∀t,t<=c.buf.length->((c.mem++c.at_)++(c.buf.take t).flatMap dW).length<=100+196*t:=fun t W=>by
     have:=nB (l:=c.buf.take t) fun b z=>(tR M A (lq z)).2.2
     rw[bJ]at this;rw[zM,zM];have:196*min t c.buf.length=196*t:=by rw[iZ W]
     omega
    refine aS 20282409603651670423672373380040 c.buf.length (fun i f h x=>(f 6).v=vi i/\ay h x (f 3).v 1 (dG (b2 ((c.mem++c.at_)++(c.buf.take i).flatMap dW)))) rfl ⟨am,by simp -dsimp only[go_sem,seval,ft,fK,bQ];exact a.le aa⟩ ?_;clear a;rintro t f u H x bs W ⟨y,a⟩;have C:=aC t aa;have B:=a.valOf;have O3:=O4 t W
    by_cases g:t<c.buf.length
    ·have k:=aW g;obtain⟨b,z,Z⟩:=aw g;obtain⟨e1,e2,e3⟩:=tR M A Z;have BH:=A.ent b Z
     generalize hL:(c.mem++c.at_)++(c.buf.take t).flatMap dW=L at *
     refine bw y k z B ?_;refine bf (p8 _ _ _ (b2 L) b.length ?_ (by rw[qE];omega)) ?_
     ·exact a.le aa
     rintro r h' N ⟨d,D⟩;rw[<- show b2 [(b.length:Int)]=[(b.length:Int) % 256,(b.length:Int)/ 256 % 256]from rfl,<- qF]at d;have w:=d.valOf;refine aG w y ?_;refine aS 20282409603651661416747996545928 b.length (fun i f h x=>(f 7).v=vi i/\ay h x (f 3).v 1 (dG (b2 ((L++[(b.length:Int)])++(b.take i).flatMap dI)))) rfl ⟨am,by simp -dsimp only[go_sem,seval,ft,fK,bQ];exact d.le aa⟩ ?_;clear d w;rintro i f3 u3 H3 x3 bs3 C8 ⟨I,d⟩;have Gl:=aC i aa;have w:=d.valOf
     have IF:((L++[(b.length:Int)])++(b.take i).flatMap dI).length<=101+196*t+65*i:=by
      have:=nB (l:=b.take i) fun e K=>e1 e (lq K)
      rw[bJ]at this;rw[zM,zM,fN];have:65*min i b.length=65*i:=by rw[iZ C8]
      omega
     by_cases S:i<b.length
     ·have Q:=aW S;obtain⟨e,K,Cn⟩:=aw S;have Y:=BH e Cn;have BL:=gQ Y;have E6:=Y.len
      generalize O7:(L++[(b.length:Int)])++(b.take i).flatMap dI=F at *
      refine dc I y Q z K @Entry.enc.eq_1 w ?_;refine bf (p8 _ _ _ (b2 F) e.cells.length ?_ (by rw[qE];omega)) ?_
      ·exact d.le aa
      rintro r h' N ⟨o,D⟩;rw[<- show b2 [(e.cells.length:Int)]=[(e.cells.length:Int) % 256,(e.cells.length:Int)/ 256 % 256]from rfl,<- qF]at o;have O:=o.valOf;refine aY O I y ?_;refine aS 20282409528093806698032927867400 e.cells.length (fun j f h x=>(f 9).v=vi j/\ay h x (f 3).v 1 (dG (b2 ((F++[(e.cells.length:Int)])++((e.cells.zip e.values).take j).flatMap fun q=>[q.1,q.2])))) rfl ⟨am,by simp -dsimp only[go_sem,seval,ft,fK,bQ];exact o.le aa⟩ ?_;clear o O;rintro j f4 u4 H4 x4 bs4 hj ⟨J,o⟩;have Kd:=aC j aa;have O:=o.valOf
      have O5:((F++[(e.cells.length:Int)])++((e.cells.zip e.values).take j).flatMap fun q=>[q.1,q.2]).length<=102+196*t+65*i+2*j:=by
       have:=nB (f:=fun q:Int×Int=>[q.1,q.2]) (m:=2) (l:=(e.cells.zip e.values).take j) fun q _=>af
       rw[bJ,ke]at this;rw[zM,zM,fN];omega
      by_cases R:j<e.cells.length
      ·have P:=aW R;have Ln:(j:Int)<(e.values.length:Int):=aa
       obtain⟨n,s,_⟩:=aw R;obtain⟨v,X,_⟩:=aw (show j<e.values.length from aa);have hz:(e.cells.zip e.values)[j]? =some (n,v):=ow.2 ⟨s,X⟩
       generalize O6:((F++[(e.cells.length:Int)])++((e.cells.zip e.values).take j).flatMap fun q=>[q.1,q.2])=L3 at *
       refine cw J P Ln s X O ?_;refine bf (p8 _ _ _ (b2 L3) n ?_ (by rw[qE];omega)) ?_
       ·exact o.le aa
       rintro r h' N ⟨T,D⟩;rw[<- show b2 [n]=[n % 256,n/ 256 % 256]from rfl,<- qF]at T;have w3:=T.valOf;refine aY J X w3 ?_;refine bf (p8 _ _ _ (b2 (L3++[n])) v ?_ (by rw[qE,zM,fN];omega)) ?_
       ·exact T.le aa
       rintro r2 h2 n2 ⟨E,D⟩;rw[<- show b2 [v]=[v % 256,v/ 256 % 256]from rfl,<- qF]at E;have w4:=E.valOf;refine aG J w4 ?_;refine⟨aa,al Kd,?_⟩;refine ax ?_;rw[bc hz,i7,<- zQ,O6];rw[zQ]at E;exact E.le aa
      ·have P:=aJ R;have:j=e.cells.length:=aa
       subst this;refine aY J P I ?_;refine⟨aa,al Gl,?_⟩;refine ax ?_;rw[bc K,i7,<- zQ,O7,show [e].flatMap dI=[(e.cells.length:Int)]++(e.cells.zip e.values).flatMap (fun q=>[q.1,q.2])by simp[dI,l_]];rw[c7 (by rw[ke];omega),zQ]at o;refine o.le ?_;omega
     ·have Q:=aJ S;have:i=b.length:=aa
      subst this;rw[bg]at d;refine bw I y Q z ?_;refine⟨aa,al C,?_⟩;refine ax ?_;rw[bc z,i7,<- zQ,hL,show [b].flatMap dW=[(b.length:Int)]++b.flatMap dI by simp[dW]];rw[zQ]at d;refine d.le ?_;omega
    ·have k:=aJ g;have:t=c.buf.length:=aa
     subst this;rw[bg,<- Ck]at a;have AD:=a.rowsS;have ET:=xd (xB (iQ 0 c));refine bG y k B AD ET ?_;rfl
def ey (c:Config):ByteArray:=rP (iQ 1 c)
theorem ZQ {p:Prog} (f:aO p=true) {c d:Config} (b:IsB p c) (e:IsB p d) (h:ey c=ey d):c=d:=by
 refine Q3 b e (Ot (fun n a=> ?_) (fun n a=> ?_) h)
 ·have:=qa f (sh:=1) aa b n a;omega
 ·have:=qa f (sh:=1) aa e n a;omega
theorem ZP {p:Prog} (f:aO p=true) {c d:Config} (b:IsB p c) (e:IsB p d) (h:gy c=gy d):c=d:=by
 refine Q3 b e (kcd (fun n a=> ?_) (fun n a=> ?_) (Ot (xB _) (xB _) h))
 ·have:=qa f (sh:=0) aa b n a;omega
 ·have:=qa f (sh:=0) aa e n a;omega
theorem Zu (p:Prog) (D:aO p=true) (c:Config) (y:IsB p c):Den Γ G 394 [(.agg [.t (ints (c).mem),.t (ints (c).at_),.t (.sl ((c).buf.map (fun b=>[.sl (b.map Entry.enc)])))])]=some (.t (.str (ey c))):=by
 obtain⟨⟨m1,m2,m3,m4⟩,_⟩:=cO (cP D).1;have By:=(mj D).1;have l1:=y.lm;have l2:=y.la;have l3:=y.lb;have F:iQ 1 c=c.mem++c.at_.map (· +1)++c.buf.flatMap dW:=rfl;have J: ∀n∈iQ 1 c,0<=n/\n<256:=fun n d=>by have:=qa D (sh:=1) aa y n d;omega
 have A: ∀n,0<=n/\n<256->IntKind.u8.wrap n=n:=fun n h=>by show n % 256=n;omega
 have r1: ∀n∈c.mem,0<=n/\n<256:=fun n d=>J n (by rw[F];simp[d])
 have r2: ∀n∈c.at_,0<=n+1/\n+1<256:=fun n d=>J (n+1) (by rw[F];simp only[cx,df];exact .inl (.inr ⟨n,d,rfl⟩))
 have r3: ∀b∈c.buf,∀n∈dW b,0<=n/\n<256:=fun b B n d=>J n (by rw[F];simp only[cx,de];exact .inr ⟨b,B,d⟩)
 refine aD (q:=ax ?_);refine aS 134086696 c.mem.length (fun i f h x=>(f 17).v=vi i/\ay h x (f 3).v 1 (dG (c.mem.take i))) rfl ⟨am,.inl ⟨am,rfl⟩⟩ ?_
 ·rintro i f u H x bs hi ⟨W,a⟩;have E:=aC i aa;have s:=a.valOf;have z:=a.r3
  by_cases k:i<c.mem.length
  ·have o:=aW k;obtain⟨n,d,I⟩:=aw k;have C:=A n (r1 n I);refine cw W o d s z C ?_;refine bX (a.upd aa _) aa (by rw[pw,bJ];omega) aI rfl (py _) ?_;intro v hp g _ _;have w:=g.valOf;refine aG w W ?_;refine⟨aa,al E,?_⟩;refine ax ?_;rw[bc d,px];exact g.le aa
  ·have o:=aJ k;have:i=c.mem.length:=aa
   subst this;rw[bg]at a;refine aG W o ?_;refine aS 2197949513864 c.at_.length (fun i f h x=>(f 30).v=vi i/\ay h x (f 3).v 1 (dG (c.mem++(c.at_.take i).map (· +1)))) rfl ⟨am,by simp -dsimp only[go_sem,seval,ft,be,bQ];exact a.le aa⟩ ?_;clear a s z;rintro i f u H x bs hi ⟨X,a⟩;have E:=aC i aa;have s:=a.valOf;have z:=a.r3
   by_cases k:i<c.at_.length
   ·have o:=aW k;obtain⟨n,d,I⟩:=aw k;have C:=A _ (r2 n I);have Qo:IntKind.i64.wrap (n+1)=n+1:=bq (by have:=r2 n I;omega);refine dc X o d s z Qo C ?_;refine bX (a.upd aa _) aa (by rw[pw,zM,cL,bJ];omega) aI rfl (py _) ?_;intro v hp g _ _;have w:=g.valOf;refine aG w X ?_;refine⟨aa,al E,?_⟩;refine ax ?_;rw[bc d,dZ,<- zQ,px];exact g.le aa
   ·have o:=aJ k;have:i=c.at_.length:=aa
    subst this;rw[bg]at a;refine aG X o ?_
    have O4: ∀t,t<=c.buf.length->((c.mem++c.at_.map (· +1))++(c.buf.take t).flatMap dW).length<=100+196*t:=fun t Z=>by
     have:=nB (l:=c.buf.take t) fun b B=>(tR D y (lq B)).2.2
     rw[bJ]at this;rw[zM,zM,cL];have:196*min t c.buf.length=196*t:=by rw[iZ Z]
     omega
    refine aS 618970019642672545263532552 c.buf.length (fun i f h x=>(f 44).v=vi i/\ay h x (f 3).v 1 (dG ((c.mem++c.at_.map (· +1))++(c.buf.take i).flatMap dW))) rfl ⟨am,by simp -dsimp only[go_sem,seval,ft,fK,bQ];exact a.le aa⟩ ?_;clear a s z;rintro t f u H x bs Z ⟨K,a⟩;have E:=aC t aa;have s:=a.valOf;have z:=a.r3;have O3:=O4 t Z
    by_cases k:t<c.buf.length
    ·have o:=aW k;obtain⟨b,B,T⟩:=aw k;obtain⟨e1,e2,e3⟩:=tR D y T;have BH:=y.ent b T;have rb:=r3 b T;have QN:=A _ (rb b.length (by simp[dW]))
     generalize hL:(c.mem++c.at_.map (· +1))++(c.buf.take t).flatMap dW=L at *
     refine cw K o B s z QN ?_;refine bX (a.upd aa _) aa (by rw[pw];omega) aI rfl (py _) ?_;intro v hp g _ _;rw[<- show dG [(b.length:Int)]=[[.t (.int .u8 (b.length:Int))]]from rfl,<- px]at g;have w:=g.valOf;refine aG w K ?_;refine aS 309485009749287474686867464 b.length (fun i f h x=>(f 56).v=vi i/\ay h x (f 3).v 1 (dG ((L++[(b.length:Int)])++(b.take i).flatMap dI))) rfl ⟨am,by simp -dsimp only[go_sem,seval,ft,fK,bQ];exact g.le aa⟩ ?_;clear g w;rintro i f3 u3 H3 x3 bs3 C8 ⟨M,g⟩;have Gl:=aC i aa;have w:=g.valOf;have w3:=g.r3
     have IF:((L++[(b.length:Int)])++(b.take i).flatMap dI).length<=101+196*t+65*i:=by
      have:=nB (l:=b.take i) fun e N=>e1 e (lq N)
      rw[bJ]at this;rw[zM,zM,fN];have:65*min i b.length=65*i:=by rw[iZ C8]
      omega
     by_cases S:i<b.length
     ·have Q:=aW S;obtain⟨e,N,Cn⟩:=aw S;have CC:=BH e Cn;have BL:=gQ CC;have E6:=CC.len;have re: ∀n∈dI e,0<=n/\n<256:=fun n d=>rb n (by simp only[dW,cq,de];exact .inr ⟨e,Cn,d⟩)
      have QE:=A _ (re e.cells.length (by simp[dI]))
      generalize O7:(L++[(b.length:Int)])++(b.take i).flatMap dI=V at *
      refine dc M Q N @Entry.enc.eq_1 w w3 QE ?_;refine bX (g.upd aa _) aa (by rw[pw];omega) aI rfl (py _) ?_;intro v hp r _ _;rw[<- show dG [(e.cells.length:Int)]=[[.t (.int .u8 (e.cells.length:Int))]]from rfl,<- px]at r;have O:=r.valOf;refine aG O M ?_;refine aS 154741324319051816951099400 e.cells.length (fun j f h x=>(f 70).v=vi j/\ay h x (f 3).v 1 (dG ((V++[(e.cells.length:Int)])++((e.cells.zip e.values).take j).flatMap fun q=>[q.1,q.2]))) rfl ⟨am,by simp -dsimp only[go_sem,seval,ft,fK,bQ];exact r.le aa⟩ ?_;clear r O;rintro j f4 u4 H4 x4 bs4 hj ⟨Y,r⟩;have Kd:=aC j aa;have O:=r.valOf;have w4:=r.r3
      have O5:((V++[(e.cells.length:Int)])++((e.cells.zip e.values).take j).flatMap fun q=>[q.1,q.2]).length<=102+196*t+65*i+2*j:=by
       have:=nB (f:=fun q:Int×Int=>[q.1,q.2]) (m:=2) (l:=(e.cells.zip e.values).take j) fun q _=>af
       rw[bJ,ke]at this;rw[zM,zM,fN];omega
      by_cases R:j<e.cells.length
      ·have P:=aW R;obtain⟨n,d,_⟩:=aw R;obtain⟨v,hv,_⟩:=aw (show j<e.values.length from aa);have hz:(e.cells.zip e.values)[j]? =some (n,v):=ow.2 ⟨d,hv⟩;have Mj:=zL hz;have C:=A _ (re n (by simp only[dI,l_,cq,de];exact .inr ⟨_,Mj,af⟩));have PK:=A _ (re v (by simp only[dI,l_,cq,de];exact .inr ⟨_,Mj,af⟩))
       generalize O6:((V++[(e.cells.length:Int)])++((e.cells.zip e.values).take j).flatMap fun q=>[q.1,q.2])=L3 at *
       refine qR Y P d hv O w4 C PK ?_;refine PG (r.upd aa _) aa (by rw[pw];simp;omega) aI rfl (py _) ?_;intro v2 hp U _ _;rw[<- show dG [n,v]=[[.t (.int .u8 n)],[.t (.int .u8 v)]]from rfl,<- px]at U;have w5:=U.valOf;refine aG Y w5 ?_;refine⟨aa,al Kd,?_⟩;refine ax ?_;rw[bc hz,i7,<- zQ,O6];exact U.le aa
      ·have P:=aJ R;have:j=e.cells.length:=aa
       subst this;refine aY Y P M ?_;refine⟨aa,al Gl,?_⟩;refine ax ?_;rw[bc N,i7,<- zQ,O7,show [e].flatMap dI=[(e.cells.length:Int)]++(e.cells.zip e.values).flatMap (fun q=>[q.1,q.2])by simp[dI,l_]];rw[c7 (by rw[ke];omega),zQ]at r;refine r.le ?_;omega
     ·have Q:=aJ S;have:i=b.length:=aa
      subst this;rw[bg]at g;refine aY M K Q ?_;refine⟨aa,al E,?_⟩;refine ax ?_;rw[bc B,i7,<- zQ,hL,show [b].flatMap dW=[(b.length:Int)]++b.flatMap dI by simp[dW]];rw[zQ]at g;refine g.le ?_;omega
    ·have o:=aJ k;have:t=c.buf.length:=aa
     subst this;rw[bg,<- F]at a;have AD:=a.rowsS;have ET:=xd J;refine bG K o s AD ET ?_;rfl
theorem u_ {h:ae} {c:Nat} {l:List Int} {K:V->List (Nat×O)->Prop} {w:WK K} (g:l.length<2^31)
 (f: ∀v hp,ay (At h hp) (c+1) v 1 (ai l)->(∀j,j≠c->At h hp j=h j)->(∀j,j≠c->aK v j)->(Rg.valOf v=some v/\V.cells v=some [v])->K v hp):rU (Γ:=Γ) (G:=G) false h c 32 [.t (ints l)] K w:=by
 obtain⟨r,h',i,e,d,_,_⟩:=tQ l g (fun _=>none) 0;refine qD (es:=l.map fun n=>[ti n]) rfl rfl ⟨r,h',i,e,d⟩ fun v hp o a b=>f v hp o a b ?_
 rcases o with⟨rfl,_⟩ | ⟨k,rfl,_⟩<;>exact⟨rfl,rfl⟩
def jL (h:ae) (lo hi:Nat) (v:V) (rows:List (List V)):Prop:=
 (v= .t .nils/\rows=[])\/ ∃k,v= .ms k 0 rows.length/\lo<=k/\k<hi/\h k=some (.rows 1 rows false)
theorem jL.keep {h h':ae} {lo hi:Nat} {v:V} {rows:List (List V)} (o:jL h lo hi v rows) (e: ∀k,lo<=k->k<hi->h' k=h k):jL h' lo hi v rows:=by
 rcases o with o | ⟨k,c,a,b,d⟩
 ·exact .inl o
 ·exact .inr ⟨k,c,a,b,by rw[e k a b];exact d⟩
theorem jL.val {h:ae} {lo hi:Nat} {v:V} {rows:List (List V)} (o:jL h lo hi v rows):Rg.valOf v=some v/\V.cells v=some [v]:=by
 rcases o with⟨rfl,_⟩ | ⟨k,rfl,_⟩<;>exact⟨rfl,rfl⟩
theorem jL.tree {h:ae} {lo hi:Nat} {v:V} {l:List Int} (o:jL h lo hi v (ai l)) (d:Nat):toT h (d+1) v=some (ints l):=by
 rcases o with⟨rfl,b⟩ | ⟨k,rfl,_,_,c⟩
 ·have:l=[]:=by
   have:=bz List.length b;rw[aB]at this;exact fo this
  subst this;rfl
 ·have a:List.take (ai l).length (ai l)=ai l:=d7 rfl;simp only[toT,c,rd,gq,aA,aU,ie,a,zC,zD,gS]
def Vl (h:ae) (x:Nat) (g f:V) (b:Nat) (c:Config):Prop:=
 ∃d e a vs,jL h 0 d g (ai c.mem)/\jL h d e f (ai c.at_)/\d<=e/\e<=b/\b<a 0/\h b=some (.rows 1 vs false)/\BufsV h a vs c.buf/\a c.buf.length<=x
theorem MN (p:Prog) (hf:aO p=true) (c:Config) (hc:IsB p c) (nx:Nat):
 ∃r h' n',DenR Γ G 356 [(.agg [.t (ints (c).mem),.t (ints (c).at_),.t (.sl ((c).buf.map (fun b=>[.sl (b.map Entry.enc)])))])] (fun _=>none) nx=some (r,h',n')/\ ∃Q P kB,r= .agg [Q,P,.ms kB 0 c.buf.length]/\Vl h' n' Q P kB c:=by
 obtain⟨⟨m1,m2,m3,m4⟩,_⟩:=cO (cP hf).1;have l1:=hc.lm;have l2:=hc.la;have l3:=hc.lb;have e3:(c.buf.length:Int)<=4294967296:=aa
 refine bM (q:=ax ?_);refine u_ aa ?_;rintro Q DN KZ DC H6 ⟨AX,Dr⟩;refine ar AX ?_;refine u_ aa ?_;rintro P D0 KY Cl Cv ⟨DT,CG⟩;unfold V.cells at Dr CG;refine cw AX Dr DT CG e3 @iY ?_
 generalize Rh:At (At (fun _=>none) DN) D0=H0 at *
 refine aS 2305843009213431920 c.buf.length (fun i f h x=>(f 4).v=vi i/\ ∃N vs,h (nx+2+9)=some (.rows 1 (vs++List.replicate (c.buf.length-i) [.t .nils]) false)/\BufsV h N vs (c.buf.take i)/\N 0=nx+2+10/\N i<=x/\(∀k,k<nx+2+9->h k=H0 k)) rfl ?_ ?_
 ·refine⟨am,fun _=>nx+2+10,[],by simp -dsimp only[go_sem,seval,eY,s_],⟨rfl,fun q w=>aA _,fun q b E=>by simp at E⟩,rfl,av,?_⟩;intro k g;have:k≠nx+2+9:=aa
  exact al this
 rintro i f u Ho x bs hi ⟨D,N,vs,hB,I,Co,He,AG⟩;have hw:=aC i aa;refine ar D ?_;refine aQ D ?_ ?_<;>intro h
 ·obtain⟨b,E,EW⟩:=aw ‹i<c.buf.length›;obtain⟨b1,b2,_⟩:=hc.buf i b E
  have Ae:List.replicate (c.buf.length-i) [V.t T.nils]=[V.t T.nils]::List.replicate (c.buf.length-i-1) [V.t T.nils]:=by
   rw[<- ou];congr 1;omega
  have E6:vs.length=i:=by rw[I.len,bJ];omega
  have Do:nx+2+9<x:=by have:=I.le (q:=0) (r:=i) aa (by rw[bJ];omega);omega
  refine aS 2305843009180139616 b.length (fun j f' h' d=>(f' 5).v=vi j/\ ∃v,h' (nx+2+9)=some (.rows 1 (vs++[v]::List.replicate (c.buf.length-i-1) [.t .nils]) false)/\hJ h' x d v (b.take j)/\x<=d/\(∀k,k<x->k≠nx+2+9->h' k=Ho k)) rfl ?_ ?_
  ·refine⟨am,.t .nils,a_ hB Ae,⟨[],.inl ⟨rfl,rfl⟩,af,af,af⟩,av,fun k _ _=>rfl⟩
  rintro j f' u' s d bs' hj ⟨Y,v,EX,X,PA,DD⟩;have Aw:=aC j aa;refine aY Y D E ?_;refine qS Y D E ?_ ?_<;>intro h
  ·obtain⟨e,he,Cn⟩:=aw ‹j<b.length›;have L:=b2 e Cn;have BL:=gQ L
   have B5:(vs++[v]::List.replicate (c.buf.length-i-1) [V.t T.nils])[i]? =some [v]:=by
    rw[eE aa,E6,dA];rfl
   obtain⟨Bs,Fc⟩:=X.val;have C8:(i:Int)<(c.buf.length:Int):=aa
   have Dq:(0:Int)<=(i:Int):=aa
   refine jk Y D E he @Entry.enc.eq_1 EX B5 C8 Dq Bs ?_;refine u_ aa ?_;rintro l J Ny NQ Kv ⟨Bu,Bi⟩;refine ar Bu ?_;refine u_ (by have:=L.len;omega) ?_;rintro m K HQ L7 LD ⟨Di,CL⟩;unfold V.cells at Bi CL;obtain⟨rows,S,C,U,Bh⟩:=X
   have hG: ∀k,k<d->updC (At (At s J) K) (d+8+10+15) (some (O.rows 2 [[l,m]] false)) k=s k:=fun k g=>by
    rw[aq,ac aa,L7 k aa,NQ k aa]
   have I1:ay (updC (At (At s J) K) (d+8+10+15) (some (O.rows 2 [[l,m]] false))) (d+8+10+16) v 2 rows:=by
    rcases S with h | ⟨k,a,Z,B,A⟩
    ·exact .inl h
    ·exact .inr ⟨k,a,aa,by rw[hG k B];exact A⟩
   have AD:=I1.rowsS;refine cw Bs Bu Bi Di CL AD ?_;have Aa:(rows.all fun r=>decide (r.length=2))=true:=ak U
   refine bX I1 (aA _) (by have:=I.len;rw[C,bJ];omega) aI rfl Aa ?_;intro v2 hp hO Bp Aq;rcases hO with⟨_,CY⟩ | ⟨t,rfl,AF,C4⟩
   ·simp at CY
   have FA:d+8+10+16<=t:=by
    rcases bv t (d+8+10+16)with a | a
    ·exact absurd rfl (Bp t a 0 _)
    ·exact a
   have AM: ∀k,(k<x\/d<=k\/ ∀rs fz,s k≠some (O.rows 2 rs fz))->aK v k:=by
    intro k g;rcases S with⟨rfl,_⟩ | ⟨k',rfl,Z,B,A⟩
    ·intro i n z;cases z
    ·refine cV ?_ _ _;rintro rfl;rcases g with g | g | g
     ·omega
     ·omega
     ·exact g _ _ A
   have A8: ∀k,k<d->(k<x\/ ∀rs fz,s k≠some (O.rows 2 rs fz))->At (updC (At (At s J) K) (d+8+10+15) (some (O.rows 2 [[l,m]] false))) hp k=s k:=by
    intro k g Ah;rw[Aq k aa (AM k (by rcases Ah with h | h;exact .inl h;exact .inr (.inr h))),hG k g]
   have Ij:=A8 (nx+2+9) aa (.inl aa);rw[EX]at Ij
   have E8:(vs++[v]::List.replicate (c.buf.length-i-1) [V.t T.nils]).set i [V.ms t 0 (rows++[[l,m]]).length]=vs++[V.ms t 0 (rows++[[l,m]]).length]::List.replicate (c.buf.length-i-1) [V.t T.nils]:=by
    rw[vX _ _ aa,E6,dA];rfl
   refine dc Y D Ij B5 C8 Dq E8 ?_;have M: ∀(o:Option O) k,k≠nx+2+9->updC (At (updC (At (At s J) K) (d+8+10+15) (some (O.rows 2 [[l,m]] false))) hp) (nx+2+9) o k=At (updC (At (At s J) K) (d+8+10+15) (some (O.rows 2 [[l,m]] false))) hp k:=fun o k g=>by rw[aq,ac g]
   have Hb: ∀(o:Option O) H,t<H->hJ (updC (At (updC (At (At s J) K) (d+8+10+15) (some (O.rows 2 [[l,m]] false))) hp) (nx+2+9) o) x H (.ms t 0 (rows++[[l,m]]).length) (b.take (j+1)):=by
    intro o H IQ;refine⟨rows++[[l,m]],.inr ⟨t,rfl,aa,IQ,by rw[M _ _ aa];exact C4⟩,by rw[zM,C,bJ,bJ];simp;omega,?_,?_⟩
    ·intro r y;rcases cx.1 y with y | y
     ·exact U r y
     ·rw[bD]at y;rw[y];rfl
    ·intro q e0 w;rw[bc he]at w;have R:(b.take j).length=j:=by rw[bJ];omega
     rcases bv q j with a | a
     ·rw[bP aa]at w;obtain⟨r,y,hE⟩:=Bh q e0 w;refine⟨r,by rw[bP (by rw[C];omega)];exact y,hE.keep (aA _) aa fun k a1 a2 a3=> ?_⟩;rw[M _ _ aa,A8 k a2 (.inr a3)]
     ·have Cc:q=j:=by
       have:=(zH.1 w).1;rw[zM,R,fN]at this;omega
      subst Cc;rw[eE aa,R,dA]at w;simp only[dr,zA]at w;subst w;refine⟨[l,m],by rw[eE (by rw[C,R];exact aA _),C,R,dA];rfl,?_⟩;have NZ:ai e.cells≠[]:=fun z=>L.ne (fo (by rw[<- aB,z];rfl))
      have Ak:ai e.values≠[]:=fun z=>L.ne (fo (by rw[<- L.len,<- aB,z];rfl))
      rcases Ny with⟨_,z⟩ | ⟨F,rfl,DO,J8⟩
      ·exact absurd z NZ
      rcases HQ with⟨_,z⟩ | ⟨kv,rfl,Eh,J2⟩
      ·exact absurd z Ak
      have qc:F=d+8+10+10:=by
       rcases Nat.decEq F (d+8+10+10)with a | a
       ·exact absurd rfl (Kv F a 0 _)
       ·exact a
      have qv:kv=d+8+10+13:=by
       rcases Nat.decEq kv (d+8+10+13)with a | a
       ·exact absurd rfl (LD kv a 0 _)
       ·exact a
      refine⟨F,kv,by rw[aB,aB],aa,aa,aa,aa,?_,?_⟩
      ·rw[M _ _ aa,Aq F aa (AM F (.inr (.inl aa))),aq,ac aa,L7 F aa];exact J8
      ·rw[M _ _ aa,Aq kv aa (AM kv (.inr (.inl aa))),aq,ac aa];exact J2
   refine⟨aa,al Aw,.ms t 0 (rows++[[l,m]]).length,am,?_,av,?_⟩
   ·refine ax ?_;exact Hb _ _ aa
   intro k g Ls;simp -dsimp only[go_sem,seval,M _ k Ls];rw[A8 k aa (.inl g)];exact DD k g Ls
  ·have:j=b.length:=aa
   subst this;rw[bg]at X;have Dv:c.buf.take (i+1)=c.buf.take i++[b]:=bc E;have W:(c.buf.take i).length=i:=by rw[bJ];omega
   have C6:=I.snoc (h':=s) (x:=d) (v:=v) (b:=b) (by rw[W];omega) (fun k k1 t=>by rw[W]at t;exact DD k aa aa) (by
    rw[W];obtain⟨rows,S,C,U,Bh⟩:=X;refine⟨rows,?_,C,U,fun q e0 w=> ?_⟩
    ·rcases S with h | ⟨k,a,Z,B,A⟩
     ·exact .inl h
     ·exact .inr ⟨k,a,aa,B,A⟩
    ·obtain⟨r,y,hE⟩:=Bh q e0 w
     exact⟨r,y,hE.keep He (aA _) fun _ _ _ _=>rfl⟩)
   rw[W,<- Dv]at C6;refine⟨aa,a_ hw D,_,vs++[[v]],?_,C6,by rw[ah (pm _)];exact Co,by rw[ac aa];refine ax ?_;omega,?_⟩
   ·refine ar EX ?_;rw[zQ];rfl
   ·intro k g;refine ar (DD k aa aa) ?_;exact AG k g
 ·have Cq:i=c.buf.length:=aa
  subst Cq;rw[dA,sU,bQ]at hB;rw[bg]at I
  have hM:jL Ho 0 (nx+5) Q (ai c.mem):=by
   rcases KZ with a | ⟨k,a,Z,B⟩
   ·exact .inl a
   ·exact .inr ⟨k,a,aa,aa,by rw[AG k aa,Cl k aa];exact B⟩
  have hA:jL Ho (nx+5) (nx+8) P (ai c.at_):=by
   rcases KY with a | ⟨k,a,Z,B⟩
   ·exact .inl a
   ·have g:k=nx+2+5:=by
     rcases Nat.decEq k (nx+2+5)with A | A
     ·subst a;exact absurd rfl (Cv k A 0 _)
     ·exact A
    exact .inr ⟨k,a,aa,aa,by rw[AG k aa];exact B⟩
  refine⟨Q,P,nx+2+9,rfl,nx+5,nx+8,N,vs,hM,hA,aa,aa,aa,hB,I,av⟩
def noF:Option O->Option O
 | some (.rows sz rs _)=>some (.rows sz rs true)
 | o=>o
theorem pC {o:Option O} {b:Nat} {rs:List (List V)} {f:Bool} (h:noF o=noF (some (.rows b rs f))): ∃a,o=some (.rows b rs a):=by
 match o with
 | none=>cases h
 | some (.rows sz' rs' a)=>cases h;exact⟨a,rfl⟩
 | some (.map _)=>cases h
 | some (.loop _ _ _ _)=>cases h
 | some (.raw _)=>cases h
 | some .dead=>cases h
theorem y_ {a b:Option O} (h:noF a=noF b):a=b\/ ∃c rs f d,a=some (.rows c rs f)/\b=some (.rows c rs d):=by
 match a,b with
 | some (.rows c rs f),b=>
   obtain⟨d,rfl⟩:=pC h.symm
   exact .inr ⟨c,rs,f,d,rfl,rfl⟩
 | a,some (.rows c rs f)=>
   obtain⟨d,rfl⟩:=pC h
   exact .inr ⟨c,rs,d,f,rfl,rfl⟩
 | none,none=>exact .inl rfl
 | none,some (.map _)=>cases h
 | none,some (.loop _ _ _ _)=>cases h
 | none,some (.raw _)=>cases h
 | none,some .dead=>cases h
 | some (.map _),none=>cases h
 | some (.loop _ _ _ _),none=>cases h
 | some (.raw _),none=>cases h
 | some .dead,none=>cases h
 | some (.map _),some (.map _)=>exact .inl h
 | some (.map _),some (.loop _ _ _ _)=>exact .inl h
 | some (.map _),some (.raw _)=>exact .inl h
 | some (.map _),some .dead=>exact .inl h
 | some (.loop _ _ _ _),some (.map _)=>exact .inl h
 | some (.loop _ _ _ _),some (.loop _ _ _ _)=>exact .inl h
 | some (.loop _ _ _ _),some (.raw _)=>exact .inl h
 | some (.loop _ _ _ _),some .dead=>exact .inl h
 | some (.raw _),some (.map _)=>exact .inl h
 | some (.raw _),some (.loop _ _ _ _)=>exact .inl h
 | some (.raw _),some (.raw _)=>exact .inl h
 | some (.raw _),some .dead=>exact .inl h
 | some .dead,some (.map _)=>exact .inl h
 | some .dead,some (.loop _ _ _ _)=>exact .inl h
 | some .dead,some (.raw _)=>exact .inl h
 | some .dead,some .dead=>exact .inl h
theorem RF {h h':ae} (l: ∀k,noF (h k)=noF (h' k)): ∀(d:Nat) (v:V),toT h d v=toT h' d v:=by
 intro d
 induction d with
 | zero=>intro v;cases v<;>simp only[toT]
 | succ d p=>
   intro v;have j:toT h d=toT h' d:=funext p
   match v with
   | .t x=>simp only[toT]
   | .ms k i n=>
     rcases y_ (l k)with e | ⟨o,rs,f,m,c,g⟩
     ·simp only[toT,e,j]
     ·simp only[toT,c,g,j]
   | .mp k i n=>
     rcases y_ (l k)with e | ⟨o,rs,f,m,c,g⟩
     ·simp only[toT,e,j]
     ·simp only[toT,c,g,j]
   | .fn f a b=>simp only[toT,j]
   | .mm k=>
     rcases y_ (l k)with e | ⟨o,rs,f,m,c,g⟩
     ·simp only[toT,e]
     ·simp only[toT,c,g]
   | .yl k=>simp only[toT]
   | .agg cs=>simp only[toT]
   | .tup cs=>simp only[toT]
   | .undef=>simp only[toT]
   | .lb=>simp only[toT]
theorem Sm (h:ae): ∀(l:List Nat) (g:ae) (k:Nat),noF (g k)=noF (h k)->noF (At g (freezes h l) k)=noF (h k)
 | [],g,k,hg=>by simpa only[freezes,rz,bE]using hg
 | q::l,g,k,hg=>by
   have c:=Sm h l;unfold freezes at c⊢;rw[sV];split
   ·exact c g k hg
   ·rename_i b a;rw[cy];split at a
    ·rename_i i rs f e;cases a;refine c _ k ?_;rw[aq];split
     ·rename_i d;rw[d,e];rfl
     ·exact hg
    ·cases a
theorem SA (h:ae): ∀(l:List Nat) (g:ae) (k:Nat),k∉ l->At g (freezes h l) k=g k
 | [],g,k,_=>by simp only[freezes,rz,bE]
 | q::l,g,k,hk=>by
   have c:=SA h l;unfold freezes at c⊢;rw[sV];simp only[cq,mf]at hk;split
   ·exact c g k hk.2
   ·rename_i b a;rw[cy];split at a
    ·cases a;rw[c _ k hk.2,aq,ac hk.1]
    ·cases a
theorem kam {r:V} {h:ae} {vs:List V} {K:V->ae->Prop} {w:WK K} (a: ∀b,(∀k,noF (b k)=noF (h k))->(∀k,k∉ vs.flatMap (bU h)->b k=h k)->K r b):fU (some r) false h vs K w:=by
 unfold fU;simp only;split
 ·exact a _ (fun _=>rfl) fun _ _=>rfl
 ·exact⟨fun h=>Bool.noConfusion h,a _ (fun k=>Sm h _ h k rfl) fun k a=>SA h _ h k a⟩
theorem wy {h:ae} {k:Nat} {l:List Int} {f:Bool} {i n d:Nat} (g:h k=some (.rows 1 (ai l) f)):bZ h (d+1) (.ms k i n)=[k]:=by
 have e: ∀r∈ai l,∀v∈r,V.tree v=true:=by
  intro r j v a;obtain⟨b,c,rfl⟩:=df.1 j;obtain⟨n,_,rfl⟩:=df.1 c;simp at a;subst a;rfl
 simp only[bZ,g,K3 h d e]
end Rg
end
