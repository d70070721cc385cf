/- Part of the proof of laws of relyguardlaw36. No condition. -/
import Derived.Test.YtaiokglcgiemnaaGreatDoorGartAQ
import Derived.Test.YtaiokglcgiemnaaGreatDoorGartAP
set_option linter.unusedSimpArgs false
set_option linter.unusedVariables false
set_option linter.defProp false
section
namespace Rg
open Go
theorem lN.upd {h:ae} {n d e:Nat} {l:List Choice} {env:Nat->V} {m:List Nat} {g:C} {p:LSt} (o:Option O) (a:lN h n d l) (j:h e=some (.loop env m g p)) (f:e≠d):lN (updC h e o) n d l:=by
 obtain⟨v,q,r⟩:=a;refine⟨v,by rw[aq,ac f.symm];exact q,?_⟩;rcases r with b | ⟨k,b,i,c⟩
 ·exact .inl b
 ·exact .inr ⟨k,b,i,by rw[aq,ac (by rintro rfl;rw[j]at c;simp at c)];exact c⟩
theorem Pp {o:Option (V×ae×Nat)} {k:Nat} {P:Ex->ae->Nat->Prop} {Q:ae->Nat->Prop} (h: ∃r h' a,o=some (r,h',a)/\Q h' a)
 (i: ∀h' a,Q h' a-> ∃env d c b e,h' k=some (.loop env d c b)/\b.ends=some e/\P e h' a): ∃r h' a,o=some (r,h',a)/\ ∃env d c b e,h' k=some (.loop env d c b)/\b.ends=some e/\P e h' a:=by
 obtain⟨r,h',a,f,g⟩:=h;exact⟨r,h',a,f,i h' a g⟩
theorem Xy (p:Prog) (hs:p.sane) (B:aN p=true) (k:Int) (hk:k=1\/k=2) (c:Config) (o:IsB p c):Den Γ G 179 [(zP p),vi k,(.agg [.t (ints (c).mem),.t (ints (c).at_),.t (.sl ((c).buf.map (fun b=>[.sl (b.map Entry.enc)])))])]=some (.t (.sl ((lJ p k c).map Choice.enc))):=by
 obtain⟨⟨m1,m2,m3,m4⟩,l5⟩:=cS (cT B).1;have l1:=o.lm;have l2:=o.la;have l3:=o.lb;have Ga:=Sc p hs B c o k hk;have k0: ¬k=0:=aa
 unfold stV at Ga
 refine aD (q:=aJ k0 Ga ?_);refine aS 37797378607022281333760 c.at_.length (fun i f h x=>(f 33).v=vi i/\lN h x 17 (eK p k c i)/\18<=x) rfl ?_ ?_
 ·exact⟨am,⟨.t .nils,am,.inl ⟨rfl,rfl⟩⟩,am⟩
 rintro i f u H z bs hi ⟨w,hL,hz⟩;have hw:=aB i aa;refine aw w ?_;refine aR w ?_ ?_<;>intro h
 ·obtain⟨x,Y,C1⟩:=au (show i<p.threads.length from aa);have hv:=Pb p B c o i aa;obtain⟨_,AE,_⟩:=l5 x C1;refine a7 w hv Y ?_;refine aS 2305772640469520384 x.steps.length (fun j f' h' x'=>(f' 46).v=vi j/\h' (z+1+1)=some (.rows 1 [[vi i]] false)/\lN h' x' 17 (eK p k c i++fH p c i x j)/\z+3<=x') rfl ?_ ?_
  ·obtain⟨v,d,g⟩:=hL;have J:17≠z+1+1:=aa
   refine⟨am,am,⟨v,bg J d,?_⟩,av⟩;have R:fH p c i x 0=[]:=rfl;rw[R,bW];rcases g with a | ⟨D,a,I,A⟩
   ·exact .inl a
   ·have K:D≠z+1+1:=aa
    exact .inr ⟨D,a,av,bg K A⟩
  rintro j f' u' H' r bs' hj ⟨C,y,Gg,Mk⟩;have Aw:=aB j aa;refine aw C ?_;refine dH C w ?_ ?_<;>intro h
  ·obtain⟨s,Q,F3⟩:=au ‹j<x.steps.length›;have Ch:=I9 p B k c o i x Y j s Q;unfold stV at Ch;obtain⟨v,d,g⟩:=Gg;refine bT C w y Ch d ?_;refine mL C w y d ?_ ?_<;>intro h
   ·have N:=g.valOf
    have FZ:(eK p k c i++fH p c i x j).length<2^20:=by
     have a:=rl B (k:=k) o i;have I:=rv p c i x j;rw[zM];omega
    have l:=wv (p:=p) (c:=c) (t:=i) Q;rw[h,ah rfl]at l
    have I1:ax (updC H' (r+1+2+5+4) (some (O.rows 3 [[V.t (T.int IntKind.i64 i),V.t (T.int IntKind.i64 j),V.t (T.int IntKind.i64 0)]] false))) (r+1+2+5+5) v 3 (bj (eK p k c i++fH p c i x j)):=by
     rcases g with a | ⟨D,a,I,A⟩
     ·exact .inl a
     ·exact .inr ⟨D,a,aa,by rw[aq,ac aa];exact A⟩
    have AD:=I1.rowsS;refine de C w y d N AD ?_;refine ce I1 (ay _) (by rw[je];omega) aG rfl (pd _) ?_;intro v3 hp hO Bn Z;rcases hO with⟨_,CY⟩ | ⟨E,rfl,Q5,NI⟩
    ·simp at CY
    have Q4:r+1+2+5+5<=E:=by
     rcases bw E (r+1+2+5+5)with a | a
     ·exact absurd rfl (Bn E a 0 _)
     ·exact a
    have AM: ∀q,(∀rs fz,H' q≠some (.rows 3 rs fz))->aK v q:=fun q hq=>by
     rcases g with⟨rfl,_⟩ | ⟨kv,rfl,I,A⟩
     ·intro i n h0;cases h0
     ·refine c8 ?_ _ _;rintro rfl;exact hq _ _ A
    have y1:=Z 17 aa (AM 17 (by rw[d];simp));have y2:=Z (z+1+1) aa (AM _ (by rw[y];simp));rw[aq,ac aa,d]at y1;rw[aq,ac aa,y]at y2;have J:z+1+1≠17:=aa
    have K:E≠17:=aa
    refine aJ C y1 ?_;refine⟨aa,ak Aw,bg J y2,⟨.ms E 0 (bj (eK p k c i++fH p c i x j)++[[vi i,vi j,vi 0]]).length,am,.inr ⟨E,?_,av,?_⟩⟩,av⟩
    ·rw[l,<- zQ,mw]
    ·refine aw K ?_;rw[NI,l,<- zQ,mw]
   ·have l:=wv (p:=p) (c:=c) (t:=i) Q;rw[h]at l;simp only[zG,aX,bW]at l;refine⟨aa,ak Aw,ak y,⟨v,ak d,?_⟩,av⟩;rw[l];exact g.le av
  ·have H1:j=x.steps.length:=aa
   subst H1;have Ao:=Sb p k c i;unfold stV at Ao;refine a7 y w Ao ?_
   generalize U:envC _=env
   have e9:env 9= .mp 17 0 0:=by rw[<- U];exact am
   have S:env 10= .mp (z+1+1) 0 0:=by rw[<- U];exact am
   clear U;have hb:=(o.buf i _ (fC (c:=c) (t:=i) aa)).2.1
   have QX:(eK p k c i++fH p c i x x.steps.length).length<2^19:=by
    have a:=rl B (k:=k) o i;have I:=rv p c i x x.steps.length;rw[zM];omega
   refine yS (P:=fun e h' F=>e= .normal/\lN (updC h' (r+1+3) (some .dead)) F 17 (eK p k c (i+1))/\18<=F) ?_ ?_
   ·refine Pp (Nd p B k c o i aa (r+1+3)
     (fun q h n=>h (r+1+3)=some (.loop env [64,65] qN .ready)/\h (z+1+1)=some (.rows 1 [[vi i]] false)/\lN h n 17 (eK p k c i++fH p c i x x.steps.length++iS k i (aF c i) q)/\r+1+4<=n)
     (fun _ _=>False) ?_ (fun _ _ _ h _=>h) ?_ _ _ ?_) ?_
    ·rintro q h n m ⟨L,M,⟨v,d,g⟩,a4⟩ GE;exact⟨L,M,⟨v,d,g.le GE⟩,aa⟩
    ·rintro q e h n X ⟨L,M,a3,a4⟩;have l:=L8 (k:=k) (t:=i) X;have RE:=(zH.1 X).1;have D4:=(o.buf i _ (fC (c:=c) (t:=i) aa)).1;cases ho:dm k (aF c i) q e
     ·rw[ac af];rw[ho,ac af,bW]at l;rw[l];exact⟨L,M,a3,a4⟩
     ·rw[ah rfl];rw[ho,ah rfl]at l;have RP:=xu k i (aF c i) q;obtain⟨h',F,b1,b2,b3,b4,b5,b6⟩:=kcR (i:=q) (e:=e) L e9 S M a3 aa aa aa aa aa aa (hb e (zL X)).ne (by rw[zM];omega);refine⟨true,h',F,b1,?_⟩;rw[ah rfl,l,<- zQ];exact⟨b2,b3,b4,aa⟩
    ·obtain⟨v,d,g⟩:=Gg;have J:z+1+1≠r+1+3:=aa
     have K:17≠r+1+3:=aa
     refine⟨by rw[aq,ah rfl],by rw[aq,ac J];exact y,⟨v,by rw[aq,ac K];exact d,?_⟩,aa⟩;have R:iS k i (aF c i) 0=[]:=rfl;rw[R,bW];rcases g with a | ⟨D,a,I,A⟩
     ·exact .inl a
     ·exact .inr ⟨D,a,aa,by rw[aq,ac aa];exact A⟩
    ·rintro h' F (W | ⟨⟨⟩⟩);refine⟨env,[64,65],qN,.ready,.normal,W.1,rfl,rfl,?_,aa⟩;rw[w7 Y,<- zQ];exact W.2.2.1.upd _ W.1 aa
   ·rintro e h' F ⟨rfl,⟨v,d,g⟩,Fh⟩;refine aw w ?_;refine⟨aa,ak hw,⟨v,ak d,?_⟩,av⟩;exact g.le av
 ·have Cq:i=c.at_.length:=aa
  subst Cq;obtain⟨v,d,g⟩:=hL;have N:=g.valOf;have Bh:=g.reify (pb _);have v5:=g.resVal;simp only[Rg.resVal]at v5;refine a7 d N v5 ?_;rw[l2]at Bh;exact Bh
structure NxV (p:Prog) (k:Int) (c:Config) (t:Nat) (n:Int) (env:Nat->V) (ky k7 k8 k9 kS:Nat) (h:Nat->Option O) (x:Nat):Prop where
 e7:env 7= .mp k7 0 0
 e8:env 8= .mp k8 0 0
 e9:env 9= .mp k9 0 0
 e10:env 10= .mp kS 0 0
 hy:h ky=some (.loop env [57,58] mX .ready)
 h7:h k7=some (.rows 3 [[vi t,vi (-1),vi n]] false)
 h8:h k8=some (.rows 3 [[.t .nils,.t .nils,.t .nils]] false)
 h9:h k9=some (.rows 1 [[vi 0]] false)
 hS:h kS=some (.rows 8 [[.t (ints c.mem),.t (ints c.at_),.t (.sl (c.buf.map fun b=>[.sl (b.map Entry.enc)])),.t (.sl (p.cells.map Cell.enc)),.t (.sl (p.modules.map Contract.enc)),.t (.sl (p.locks.map Lock.enc)),.t (.sl (p.threads.map Thread.enc)),vi k]] false)
 ly:ky<x
 l7:k7<ky
 l8:k8<ky
 l9:k9<ky
 lS:kS<ky
 d78:k7≠k8
 d79:k7≠k9
 d7S:k7≠kS
 d89:k8≠k9
 d8S:k8≠kS
 d9S:k9≠kS
theorem Zk {p:Prog} {k:Int} {c:Config} {t i:Nat} {n:Int} {env:Nat->V} {b g l m q:Nat} {h:ae} {x:Nat} {e:Entry} (H:NxV p k c t n env b g l m q h x) (M:e.cells≠[]) (hn:ct e≠n):
 ∃h' f,DenY Γ G b [vi i,.agg [.t (ints e.cells),.t (ints e.values)]] h x=some (vb true,h',f)/\NxV p k c t n env b g l m q h' f:=by
 have N:e.cells[0]? =some (ct e):=by
  cases F:e.cells with
  | nil=>exact absurd F M
  | cons a r=>simp[ct,F]
 obtain⟨D,e8,e9,A,hy,E,h8,h9,hS,ly,I,J,K,L,s,u,v,w,y,z⟩:=H;have Q:g≠x+1+0:=aa
 have R:l≠x+1+0:=aa
 have S:m≠x+1+0:=aa
 have T:q≠x+1+0:=aa
 have U:b≠x+1+0:=aa
 have c1:x+1+0≠g:=aa
 have c2:x+1+0≠l:=aa
 have c3:x+1+0≠m:=aa
 have c4:x+1+0≠q:=aa
 have c5:x+1+0≠b:=aa
 have W:g≠b:=aa
 have b2:l≠b:=aa
 have X:m≠b:=aa
 have Y:q≠b:=aa
 have:=sx (Γ:=Γ) (G:=G) (vs:=[vi i,.agg [.t (ints e.cells),.t (ints e.values)]]) (n:=x) (P:=fun B h' f=>B= .normal/\h' b=some (.loop env [57,58] mX .busy)/\x<=f/\(∀j,j<b->h' j=h j)) hy rfl (fun B h' f hP=>⟨_,_,_,hP.2.1⟩) (by
  simp -dsimp only[go_sem,seval,D,E,Q,R,S,T,U,W,b2,X,Y,c1,c2,c3,c4,c5,N,hn];refine⟨rfl,by simp -dsimp only[go_sem,seval];rfl,av,fun j d=> ?_⟩;have u1:j≠b:=aa
  have u2:j≠x+1+0:=aa
  exact bg u1 u2)
 obtain⟨B,h',f,⟨rfl,q1,q2,q3⟩,env',ps',Z,C,q7⟩:=this;rw[q1]at C;simp only[zA,O.loop.injEq]at C;obtain⟨rfl,rfl,rfl,_⟩:=C;have d: ∀j o,j<b->updC h' b o j=h j:=fun j o d=>by rw[aq,ac aa];exact q3 j d
 exact⟨_,f,q7,D,e8,e9,A,by rw[aq,ah rfl];rfl,by rw[d _ _ I];exact E,by rw[d _ _ J];exact h8,by rw[d _ _ K];exact h9,by rw[d _ _ L];exact hS,aa,I,J,K,L,s,u,v,w,y,z⟩
theorem X5 {p:Prog} (hf:aN p=true) {k:Int} {c:Config} (m:IsB p c) {t i:Nat} (ht:t<p.threads.length) {n:Int} {env:Nat->V} {d o f g q:Nat} {h:ae} {x:Nat} {e:Entry} (H:NxV p k c t n env d o f g q h x)
 (he:(aF c t)[i]? =some e) (B:e.cells≠[]) (hn:ct e=n):
 ∃h' j,DenY Γ G d [vi i,.agg [.t (ints e.cells),.t (ints e.values)]] h x=some (vb false,h',j)/\h' d=some (.loop env [57,58] mX (.done .ret))/\
  h' f=some (.rows 3 [[.t (ints (c7 c t i).mem),.t (ints (c7 c t i).at_),.t (.sl ((c7 c t i).buf.map fun b=>[.sl (b.map Entry.enc)]))]] false)/\h' g=some (.rows 1 [[vi 0]] false)/\d<j:=by
 have C:e.cells[0]? =some (ct e):=by
  cases m:e.cells with
  | nil=>exact absurd m B
  | cons a r=>simp[ct,m]
 have w:=XU p hf k c m t ht i e he;unfold stV at w;obtain⟨e7,e8,e9,s,hy,h7,h8,h9,hS,ly,l7,l8,l9,lS,W,X,Y,l,Z,d9S⟩:=H;have D:o≠x+1+0:=aa
 have E:f≠x+1+0:=aa
 have F:g≠x+1+0:=aa
 have I:q≠x+1+0:=aa
 have J:d≠x+1+0:=aa
 have Q:x+1+0≠o:=aa
 have R:x+1+0≠f:=aa
 have S:x+1+0≠g:=aa
 have T:x+1+0≠q:=aa
 have U:x+1+0≠d:=aa
 have K:o≠d:=aa
 have b2:f≠d:=aa
 have y:g≠d:=aa
 have L:q≠d:=aa
 have z:d≠f:=aa
 have A:d≠g:=aa
 have M:g≠f:=aa
 have:=sx (Γ:=Γ) (G:=G) (vs:=[vi i,.agg [.t (ints e.cells),.t (ints e.values)]]) (n:=x) (P:=fun u h' j=>u= .ret/\h' d=some (.loop env [57,58] mX .busy)/\x<=j/\
  h' f=some (.rows 3 [[.t (ints (c7 c t i).mem),.t (ints (c7 c t i).at_),.t (.sl ((c7 c t i).buf.map fun b=>[.sl (b.map Entry.enc)]))]] false)/\h' g=some (.rows 1 [[vi 0]] false)) hy rfl (fun u h' j hP=>⟨_,_,_,hP.2.1⟩) (by
  simp -dsimp only[go_sem,seval,e7,h7,D,E,F,I,J,K,b2,y,L,Q,R,S,T,U,C,hn,e8,e9,s,hS,w,h8,h9,z,A,M,l]
  refine⟨rfl,by simp -dsimp only[go_sem,seval,z,A];rfl,av,ak l,am⟩)
 obtain⟨u,h',j,⟨rfl,q1,q2,q3,q4⟩,env',ps',N,v,q7⟩:=this;rw[q1]at v;simp only[zA,O.loop.injEq]at v;obtain⟨rfl,rfl,rfl,_⟩:=v;exact⟨_,j,q7,by rw[aq,ah rfl];rfl,by rw[aq,ac b2];exact q3,by rw[aq,ac y];exact q4,aa⟩
theorem Zs (p:Prog) (hs:p.sane) (A:aN p=true) (k:Int) (hk:k=1\/k=2) (c:Config) (g:IsB p c) (x:Choice):
 Den Γ G 180 [(zP p),vi k,(.agg [.t (ints (c).mem),.t (ints (c).at_),.t (.sl ((c).buf.map (fun b=>[.sl (b.map Entry.enc)])))]),(.agg [.t (ti (x).thread),.t (ti (x).step),.t (ti (x).cell)])]=some (.tup [(.agg [.t (ints ((en p k c x).1).mem),.t (ints ((en p k c x).1).at_),.t (.sl (((en p k c x).1).buf.map (fun b=>[.sl (b.map Entry.enc)])))]),vi (en p k c x).2]):=by
 obtain⟨⟨m1,m2,m3,m4⟩,l5⟩:=cS (cT A).1;have l1:=g.lm;have l2:=g.la;have l3:=g.lb;have o:=Sc p hs A c g k hk;have v: ¬k=0:=aa
 unfold stV at o
 refine aD (q:=?_)
 by_cases C:x.thread<0\/(p.threads.length:Int)<=x.thread\/x.step< -1
 ·have a:en p k c x=(eQ,110):=by rw[en,ah C]
  rw[a];simp only[eQ,bc]
  by_cases r:x.thread<0
  ·refine a7 v o r ?_;rfl
  ·by_cases w:x.thread>=(p.threads.length:Int)
   ·refine bN v o r w ?_;rfl
   ·have D:x.step< -1:=aa
    refine bT v o r w D ?_;rfl
 ·have r: ¬x.thread<0:=aa
  have w: ¬x.thread>=(p.threads.length:Int):=aa
  have D: ¬x.step< -1:=aa
  by_cases d:x.step= -1
  ·have H:((x.thread.toNat:Nat):Int)=x.thread:=aa
   have T:=Sb p k c x.thread.toNat;rw[H]at T;unfold stV at T;refine dG v o r w D d T ?_
   generalize M:envC _=env
   have e7:=congrFun M 7;have e8:=congrFun M 8;have e9:=congrFun M 9;have K:=congrFun M 10;clear M;simp -dsimp only[go_sem,seval]at e7 e8 e9 K;have ht:x.thread.toNat<p.threads.length:=aa
   have EV:=(g.buf x.thread.toNat _ (fC (c:=c) (t:=x.thread.toNat) aa)).2.1
   refine yS (P:=fun e h' I=>(e= .normal/\lZ k (aF c x.thread.toNat) x.cell=none/\h' 3=some (.rows 3 [[.t .nils,.t .nils,.t .nils]] false)/\h' 4=some (.rows 1 [[vi 0]] false))\/
    (e= .ret/\ ∃i,lZ k (aF c x.thread.toNat) x.cell=some i/\
      h' 3=some (.rows 3 [[.t (ints (c7 c x.thread.toNat i).mem),.t (ints (c7 c x.thread.toNat i).at_),.t (.sl ((c7 c x.thread.toNat i).buf.map fun b=>[.sl (b.map Entry.enc)]))]] false)/\h' 4=some (.rows 1 [[vi 0]] false))) ?_ ?_
   ·rw[<- H]
    refine Pp (Nd p A k c g x.thread.toNat ht 42
     (fun q h n=>NxV p k c x.thread.toNat x.cell env 42 2 3 4 14 h n/\ ∀j e,j<q->(aF c x.thread.toNat)[j]? =some e-> ¬(dm k (aF c x.thread.toNat) j e=true/\ct e=x.cell))
     (fun h n=> ∃i,lZ k (aF c x.thread.toNat) x.cell=some i/\h 42=some (.loop env [57,58] mX (.done .ret))/\
       h 3=some (.rows 3 [[.t (ints (c7 c x.thread.toNat i).mem),.t (ints (c7 c x.thread.toNat i).at_),.t (.sl ((c7 c x.thread.toNat i).buf.map fun b=>[.sl (b.map Entry.enc)]))]] false)/\h 4=some (.rows 1 [[vi 0]] false)) ?_ (fun _ _ _ h _=>h) ?_ _ _ ?_) ?_
    ·rintro q h n m ⟨f,F⟩ GE;exact⟨{ f with ly:=by have:=f.ly;omega },F⟩
    ·rintro q e h n l ⟨f,F⟩;have BH:=EV e (zL l);cases ho:dm k (aF c x.thread.toNat) q e
     ·rw[ac af];refine⟨f,fun j e' B y=> ?_⟩;rcases bw j q with L | L
      ·exact F j e' L y
      ·have:j=q:=aa
       subst this;rw[l]at y;cases y;rw[ho];simp
     ·rw[ah rfl]
      by_cases O:ct e=x.cell
      ·obtain⟨h',I,J,b2,V,W,b5⟩:=X5 A g ht f l BH.ne O;refine⟨false,h',I,J,?_⟩;rw[ac af];exact⟨q,by rw[<- O];exact QB EV l ho,b2,V,W⟩
      ·obtain⟨h',I,J,b2⟩:=Zk (i:=q) f BH.ne O;refine⟨true,h',I,J,?_⟩;rw[ah rfl];refine⟨b2,fun j e' B y=> ?_⟩;rcases bw j q with L | L
       ·exact F j e' L y
       ·have:j=q:=aa
        subst this;rw[l]at y;cases y;exact fun h=>O h.2
    ·refine⟨⟨e7.symm,e8.symm,e9.symm,K.symm,am,bg H d,am,am,am,aa,aa,aa,aa,aa,aa,aa,aa,aa,aa,aa⟩,fun j _ B=>aa⟩
    ·rintro h' I (⟨f,F⟩ | ⟨i,J,b2,V,W⟩)
     ·refine⟨env,[57,58],mX,.ready,.normal,f.hy,rfl,.inl ⟨rfl,?_,f.h8,f.h9⟩⟩;unfold lZ;rw[p8];intro j B;rw[dS]at B;rw[zI B];intro h;simp only[zF,aQ]at h;exact F j _ B (zI B) h
     ·exact⟨env,[57,58],mX,.done .ret,.ret,b2,rfl,.inr ⟨rfl,i,J,V,W⟩⟩
   ·rintro e h' I (⟨rfl,Y,Z,g3⟩ | ⟨rfl,i,Y,Z,g3⟩)
    ·have a:en p k c x=(eQ,110):=by rw[en,ac C,ah d,Y]
     rw[a];simp only[eQ,bc];refine aJ Z g3 ?_;rfl
    ·have a:en p k c x=(c7 c x.thread.toNat i,0):=by rw[en,ac C,ah d,Y]
     rw[a];exact bg Z g3
  ·have H:((x.thread.toNat:Nat):Int)=x.thread:=aa
   have es:((x.step.toNat:Nat):Int)=x.step:=aa
   have Q:0<=x.thread:=aa
   have s0:0<=x.step:=aa
   obtain⟨R,u,PQ⟩:=au (show x.thread.toNat<p.threads.length from aa);have N:=Pb p A c g x.thread.toNat aa;rw[H]at N
   by_cases z:x.cell=0
   ·by_cases X:x.step>=(R.steps.length:Int)
    ·have a:en p k c x=(eQ,110):=by
      rw[en,ac C,ac d];have:li p x=none:=by simp[li,u];omega
      rw[this]
     rw[a];simp only[eQ,bc];refine nK v o r w D d N u Q z X ?_;rfl
    ·obtain⟨s,U,F3⟩:=au (show x.step.toNat<R.steps.length from aa);have Ff:li p x=some s:=by simp[li,u,U]
     have E:=I9 p A k c g x.thread.toNat R u x.step.toNat s U;rw[H,es]at E;unfold stV at E;cases l:df p c x.thread.toNat s
     ·have a:en p k c x=(eQ,110):=by
       rw[en,ac C,ac d,Ff];simp[l]
      rw[a];rw[l]at E;simp only[eQ,bc];refine sI v o r w D d N u Q z X E ?_;rfl
     ·have a:en p k c x=(eo p c x.thread.toNat s,0):=by
       rw[en,ac C,ac d,Ff];simp[l,z]
      rw[a];rw[l]at E;have S:=kam p A k c g x.thread.toNat R u x.step.toNat s U x (by cases x;simp_all);unfold stV at S;refine sI v o r w D d N u Q z X E ?_;rw[z]at S;exact ak S
   ·have a:en p k c x=(eQ,110):=by
     rw[en,ac C,ac d];split
     ·simp[z]
     ·rfl
    rw[a];simp only[eQ,bc];refine mP v o r w D d N u Q z ?_;rfl
theorem kbk {p:Prog} {c:Config} (a:IsB p c):jl p c.mem c.at_=true:=by
 have h:IsC p ⟨c.mem,c.at_,p.threads.map fun _=>[]⟩:=⟨a.lm,a.la,af,a.mem,a.at_,af⟩
 have b:=mW.2 h;simp only[isM,zF]at b;exact b.1.1
theorem XO (p:Prog) (w:aN p=true) (e:Entry) (b:Proper p e):Den Γ G 204 [(zP p),.agg [.t (ints e.cells),.t (ints e.values)]]=some (vb true):=by
 obtain⟨⟨U,V,W,X⟩,_⟩:=cS (cT w).1;have R:=gX b;have S:=b.len
 have K: ¬(e.cells.length:Int)=0:=by
  have:e.cells.length≠0:=fun h=>b.ne (fu h)
  omega
 have L:(e.values.length:Int)=(e.cells.length:Int):=aa
 refine aD (q:=aJ K L ?_);refine a8 154742504910672534360293616 e.cells.length (fun i f=>(f 5).v=vi i) rfl rfl am ?_;rintro i f u T bb hi a;have I:=aB i aa;refine aw a ?_;refine aR a ?_ ?_<;>intro h<;>try exact⟨⟩
 ·obtain⟨n,d,O⟩:=au ‹i<e.cells.length›;obtain⟨v,l,_⟩:=au (show i<e.values.length from aa);obtain⟨E,y,g,H,F,v0,Z⟩:=b.cell i n v d l;have P:=(zH.1 g).1;obtain⟨w1,w2,_⟩:=qm w (zL g);have B:=pe y.w aa;have k:=iP n p.cells.length;have m:=iP v (2^y.w.toNat);have M:inR n p.cells.length=true:=by simp only[inR,aQ];omega
  have N:inR v (2^y.w.toNat)=true:=by simp only[inR,aQ];omega
  rw[M]at k;rw[N]at m
  have A:((y.ghost==decide ((i:Int)>0)) != true)=false:=by
   rw[F]
   by_cases r:0<i
   ·have:(i:Int)>0:=aa
    simp[r]
   ·have : ¬(i:Int)>0:=aa
    simp[r]
  refine mP a d k E g H A l B m ?_;refine a8 154704725978809577200681104 i (fun j o=>(o 7).v=vi j) rfl rfl am ?_;rintro j o Y J D Q c;have z:=aB j aa;refine aJ c a ?_;refine dH c a ?_ ?_<;>intro h
  ·obtain⟨q,x,_⟩:=au (show j<e.cells.length from aa)
   have C: ¬q=n:=by
    rintro rfl;have s:=zH.1 x;have t:=zH.1 d;exact qt.1 (s9.1 b.nd) j i s.1 t.1 aa (by rw[s.2,t.2])
   refine bN c a x C ?_;exact⟨aa,ak z⟩
  ·exact⟨aa,bg I a⟩
theorem kbl (p:Prog) (r:aN p=true) (c:Config) (m:IsB p c):Den Γ G 193 [(zP p),(.agg [.t (ints (c).mem),.t (ints (c).at_),.t (.sl ((c).buf.map (fun b=>[.sl (b.map Entry.enc)])))])]=some (vb true):=by
 obtain⟨⟨P,Q,R,S⟩,_⟩:=cS (cT r).1;have M:=m.lm;have N:=m.la;have O:=m.lb;have F:(c.buf.length:Int)=(p.threads.length:Int):=aa
 have v:=Y4 p r c.mem c.at_ aa aa;rw[kbk m]at v
 refine aD (q:=aJ v F ?_);refine a8 37778931862957153321072 c.buf.length (fun i f=>(f 5).v=vi i) rfl rfl am ?_;rintro t f u L bb hi d;have w:=aB t aa;refine aw d ?_;refine aR d ?_ ?_<;>intro h<;>try exact⟨⟩
 ·obtain⟨a,q,_⟩:=au (show t<c.at_.length from aa);have g:=fC (c:=c) (t:=t) aa;obtain⟨K,b2,E⟩:=m.buf t _ g;have x: ¬((aF c t).length:Int)>3:=aa
  by_cases n:((aF c t).length:Int)>0
  ·have B: ¬a= -1:=by
    rintro rfl;have:=E q;rw[this]at n;simp at n
   refine de d q g x n B ?_;refine a8 37778913848558652227664 (aF c t).length (fun j k=>(k 6).v=vi j) rfl rfl am ?_;rintro j k J s o I l;have y:=aB j aa;refine a7 l d g ?_;refine qZ l d g ?_ ?_<;>intro h
   ·obtain⟨e,H,z⟩:=au ‹j<(aF c t).length›;have C:=XO p r e (b2 e z);refine de l d g H @Entry.enc.eq_1 C ?_;exact⟨aa,ak y⟩
   ·exact⟨aa,bg w d⟩
  ·have A:(aF c t).length=0:=aa
   refine bT d q g x n ?_;refine a8 37778913848558652227664 0 (fun j k=>(k 6).v=vi j) rfl rfl am ?_;rintro j k J s o I l;have D:j=0:=aa
   subst D;refine bN l d g A ?_;exact⟨aa,bg w d⟩
theorem X7 (c:Config) (l:c.buf.length<2^48):Den Γ G 194 [(.agg [.t (ints (c).mem),.t (ints (c).at_),.t (.sl ((c).buf.map (fun b=>[.sl (b.map Entry.enc)])))])]=some (vb (uN c)):=by
 refine aD (q:=aA ?_);refine a8 262140 c.buf.length (fun i f=>(f 3).v=vi i/\uN c=(c.buf.drop i).all fun b=>b.isEmpty) rfl rfl ⟨am,rfl⟩ ?_;rintro i f u m bb hi ⟨d,g⟩;have k:=aB i aa;refine aw d ?_;refine aR d ?_ ?_<;>intro h
 ·obtain⟨b,e,_⟩:=au ‹i<c.buf.length›
  by_cases a:b=[]
  ·have j: ¬(b.length:Int)>0:=by rw[a];simp
   refine a7 d e j ?_;exact⟨aa,ak k,by rw[g,ee e (by rw[a];rfl)]⟩
  ·have j:(b.length:Int)>0:=by
    have:b.length≠0:=fun h=>a (fu h)
    omega
   refine a7 d e j ?_;rw[g,ed e (by cases b with | nil=>exact absurd rfl a | cons _ _=>rfl)]
 ·have:i=c.buf.length:=aa
  subst this;rw[g,ek]
theorem kbT (p:Prog) (b:p.sane):Den Γ G 176 [(zP p)]=some (vb (aN p)):=by
 refine aD (q:=?_)
 have a:=wI p b;refine aw a ?_;rfl
theorem Nt (p:Prog) (n:p.sane) (e:aN p=true) (k:Int) (o:0<=k/\k<=2) (c:Config) (d:IsK p k c):Den Γ G 182 [(.agg [.t (.sl ((p).cells.map (Cell.enc))),.t (.sl ((p).modules.map (Contract.enc))),.t (.sl ((p).locks.map (Lock.enc))),.t (.sl ((p).threads.map (Thread.enc)))]),vi k,(.agg [.t (ints (c).mem),.t (ints (c).at_),.t (.sl ((c).buf.map (fun b=>[.sl (b.map Entry.enc)])))])]=some (vb true):=by
 obtain⟨⟨r,s,t,u⟩,_⟩:=cS (cT e).1;have q:=d.b.lb;have a:=kbT p n;rw[e]at a;have g:=kbl p e c d.b;have h:=X7 c aa;have i: ¬k<0:=aa
 have j: ¬k>2:=aa
 refine aD (q:=?_)
 by_cases f:k=0
 ·have m:uN c=true:=by
   rw[uN,zN];intro b l;rw[d.q f b l];rfl
  rw[m]at h;exact pv i j a g f h
 ·exact sG i j a g f
theorem z_ (p:Prog) (hs:p.sane) (L:aN p=true) (k:Int) (hk:0<=k/\k<=2) (c:Config) (l:IsK p k c):Den Γ G 354 [(zP p),vi k,(.agg [.t (ints (c).mem),.t (ints (c).at_),.t (.sl ((c).buf.map (fun b=>[.sl (b.map Entry.enc)])))])]=some (.t (.sl ((bP p k c).map Choice.enc))):=by
 rw[rm l];obtain⟨⟨l1,l2,l3,l4⟩,l5⟩:=cS (cT L).1;have AJ:=Nt p hs L k hk c l;have RH:=l.b.lb
 refine aD (q:=aw AJ ?_);refine aS 309485009821345068724717440 p.threads.length (fun i f h x=>(f 8).v=vi i/\ax h x (f 7).v 3 (bj (eK p k c i))) rfl ⟨am,.inl ⟨am,rfl⟩⟩ ?_;rintro i f u H x bs hi ⟨g,a⟩;have hw:=aB i aa;refine aw g ?_;refine aR g ?_ ?_<;>intro h
 ·obtain⟨t,z,IW⟩:=au ‹i<p.threads.length›;obtain⟨_,AE,_⟩:=l5 t IW;obtain⟨b,w,EW⟩:=au (show i<c.buf.length from aa);have On:=RM w;obtain⟨H9,W,_⟩:=l.b.buf i b w;have AO:=rl L l.b (k:=k) i;refine aS 18014398501094016 t.steps.length (fun j O h x=>(O 9).v=vi j/\ax h x (O 7).v 3 (bj (eK p k c i++fH p c i t j))) rfl ⟨am,by simp -dsimp only[go_sem,seval,fH,fy,vN,rE,bW];exact a.le aa⟩ ?_;clear a;rintro j O u' H' x' bs' hj ⟨K,a⟩;have U:=aB j aa
  by_cases M:j<t.steps.length
  ·have C:=aW M;obtain⟨s,J,F3⟩:=au M;have E:=Xz p L k c l i t z j s J;have d:=wv (p:=p) (c:=c) (t:=i) J;have C7:=rv p c i t j;cases Z:df p c i s
   ·rw[Z]at E d;refine dG K g z C J @Step.enc.eq_1 E ?_;refine⟨aa,ak U,?_⟩;simp -dsimp only[go_sem,seval,d,bW,zG,aX];exact a.le aa
   ·rw[Z]at E d;have A:=a.valOf;have Q:=a.r2;have R:=a.r3;have S:=a.r4;have m:=a.r5;refine sI K g z C J @Step.enc.eq_1 E A Q R S m ?_;refine ce (a.upd aa _) aa (by rw[je,zM];omega) aG rfl (pd _) ?_;intro v hp o Bp Aq;have T:=o.valOf;refine aJ T K ?_;refine⟨aa,ak U,?_⟩;simp -dsimp only[go_sem,seval,d,aU];rw[<- zQ,mw];exact o.le aa
  ·have C:=aI M;have:j=t.steps.length:=aa
   subst this;refine bN K g z C ?_;refine aS 309485009803330670215300224 b.length (fun q f h x=>(f 10).v=vi q/\ax h x (f 7).v 3 (bj ((eK p k c i++fH p c i t t.steps.length)++iS k i b q))) rfl ⟨am,by simp -dsimp only[go_sem,seval,iS,fy,vN,rE,bW];exact a.le aa⟩ ?_;have C7:=rv p c i t t.steps.length;clear a;rintro q f3 u3 H3 x3 bs3 hq ⟨F,a⟩;have X:=aB q aa
   by_cases N:q<b.length
   ·have I:=aW N;obtain⟨e,P,Cn⟩:=au N;have V:=W e Cn;have D:=Zp k b q e P aa (fun y hy=>by have:=gX (W y hy);omega);have d:=L8 (k:=k) (t:=i) P;have D9:=xu k i b q
    have CM:e.cells[0]? =some (ct e):=by
     have:=V.ne
     cases B:e.cells with
     | nil=>exact absurd B this
     | cons n r=>simp[ct,B]
    have By:0<e.cells.length:=by
     have:=V.ne
     cases B:e.cells with
     | nil=>exact absurd B this
     | cons n r=>simp
    have FF:(0:Int)<(e.cells.length:Int):=aa
    cases o:dm k b q e
    ·rw[o]at D d;refine bT F g w I D ?_;refine⟨aa,ak X,?_⟩;simp -dsimp only[go_sem,seval,d,bW,zG,aX];exact a.le aa
    ·rw[o]at D d;have A:=a.valOf;have Q:=a.r2;have R:=a.r3;have S:=a.r4;have m:=a.r5;simp -dsimp only[go_sem,seval,F,g,w,I,D,P,Entry.enc,CM,FF,A,Q,R,S,m];refine ce (a.upd aa _) aa (by rw[je,zM,zM];omega) aG rfl (pd _) ?_;intro v hp Y Bp Aq;have T:=Y.valOf;refine aJ T F ?_;refine⟨aa,ak X,?_⟩;simp -dsimp only[go_sem,seval,d,aU];rw[<- zQ,mw];exact Y.le aa
   ·have I:=aI N;have:q=b.length:=aa
    subst this;refine bN F g w I ?_;refine⟨aa,ak hw,?_⟩;refine aA ?_;rw[w7 z,On,<- zQ];exact a.le aa
 ·have:i=p.threads.length:=aa
  subst this;have A:=a.valOf;have Bh:=a.reify (pb _);have m:=a.resVal;simp only[Rg.resVal]at m;refine aJ A m ?_;exact Bh
theorem Tx (l:Loop) (r:l.body.length<2^40) (a:Int):Den Γ G 339 [(.agg [.t (ti (l).head),.t (ints (l).body),.t (ti ((l).variant).op),.t (ti ((l).variant).w),.t (ti ((l).variant).n),.t (.sl (((l).variant).kids.map Expr.enc))]),vi a]=some (vb (cg l a)):=by
 refine aD (q:=?_)
 by_cases j:a=l.head
 ·have:cg l a=true:=by simp[cg,j]
  rw[this];simp -dsimp only[go_sem,seval,j]
 ·have:cg l a=l.body.contains a:=by simp[cg,j]
  rw[this];simp -dsimp only[go_sem,seval,j];refine a8 16776240 l.body.length (fun i f=>(f 5).v=vi i/\ ∀c∈l.body.take i,c≠a) rfl rfl ⟨am,af⟩ ?_;rintro i f u x bs hi ⟨n,m⟩;have q:=aB i aa
  by_cases k:i<l.body.length
  ·have e:=aW k;obtain⟨c,o,p⟩:=au k
   by_cases g:c=a
   ·have:l.body.contains a=true:=by simp only[nQ,aQ];exact g▸p
    rw[this];simp -dsimp only[go_sem,seval,n,e,o,g]
   ·simp -dsimp only[go_sem,seval,n,e,o,g];refine⟨aa,ak q,?_⟩;intro d b;rw[a_ o,cz]at b;rcases b with b | b
    ·exact m d b
    ·simp only[bB]at b;subst b;exact g
  ·have e:=aI k;have:i=l.body.length:=aa
   subst this;rw[be]at m
   have:l.body.contains a=false:=by
    simp only[nQ,d8];exact fun h=>m a h rfl
   rw[this];simp -dsimp only[go_sem,seval,n,e]
theorem J0 (l:Loop) (d:l.body.length<2^40) (a:Int):Den Γ G 359 [(.agg [.t (ti (l).head),.t (ints (l).body),.t (ti ((l).variant).op),.t (ti ((l).variant).w),.t (ti ((l).variant).n),.t (.sl (((l).variant).kids.map Expr.enc))]),vi a]=some (vb (cg l a)):=by
 refine aD (q:=?_)
 have c:=xg l.body a d
 by_cases b:a=l.head
 ·have:cg l a=true:=by simp[cg,b]
  rw[this];exact ak b
 ·have:cg l a=l.body.contains a:=by simp[cg,b]
  rw[this];exact bg b c
theorem Nf (k:Int) (a:0<=k/\k<=2):Den Γ G 358 [vi k]=some (vb true):=by
 refine aD (q:=?_)
 rcases(show k=0\/k=1\/k=2 from aa)with rfl | rfl | rfl
 ·exact am
 ·exact am
 ·exact am
def dM (l:List Int):List (List V):=l.map fun n=>[.t (.int .u8 n)]
def rU (l:List Int):ByteArray:=⟨(l.map fun n=>UInt8.ofNat n.toNat).toArray⟩
theorem pE (l:List Int):(dM l).length=l.length:=by simp[dM]
theorem pF (l m:List Int):dM (l++m)=dM l++dM m:=by simp[dM]
theorem pG (l:List Int):((dM l).all fun r=>decide (r.length=1))=true:=by simp[dM]
theorem xf: ∀{l:List Int},(∀n∈l,0<=n/\n<256)->bytesOf (dM l)=some (l.map fun n=>UInt8.ofNat n.toNat)
 | [],_=>rfl
 | n::l,h=>by
   have a:=h n af;rw[dM,aT,bytesOf,ah a,show(l.map fun n=>[V.t (.int .u8 n)])=dM l from rfl,xf fun m b=>h m (by simp[b])];rfl
theorem Ph {l m:List Int} (f: ∀n∈l,0<=n/\n<256) (g: ∀n∈m,0<=n/\n<256) (h:rU l=rU m):l=m:=by
 have c:(l.map fun n=>UInt8.ofNat n.toNat)=m.map fun n=>UInt8.ofNat n.toNat:=by
  have:=bz ByteArray.data h;exact gW.2 this |>fun e=>by simpa[rU]using e
 clear h
 induction l generalizing m with
 | nil=>cases m with
   | nil=>rfl
   | cons _ _=>simp at c
 | cons a l i=>
   cases m with
   | nil=>simp at c
   | cons b m=>
     simp only[aT,gu]at c;have j:=f a af;have k:=g b af
     have e:a.toNat=b.toNat:=by
      have:=bz UInt8.toNat c.1;simp only[p5]at this;omega
     rw[i (fun n d=>f n (by simp[d])) (fun n d=>g n (by simp[d])) c.2]
     congr 1
     omega
def b2 (l:List Int):List Int:=l.flatMap fun n=>[n % 256,n/ 256 % 256]
theorem qM (l m:List Int):b2 (l++m)=b2 l++b2 m:=by simp[b2]
theorem qL (l:List Int):(b2 l).length=2*l.length:=by
 induction l with
 | nil=>rfl
 | cons a l b=>simp only[b2,du,zM,d_,jQ]at b⊢;omega
theorem xD (l:List Int): ∀n∈b2 l,0<=n/\n<256:=by
 intro n b;simp only[b2,dk]at b;obtain⟨m,_,a⟩:=b;simp at a;rcases a with rfl | rfl<;>omega
theorem kcz {l m:List Int} (d: ∀n∈l,-1<=n/\n<256) (e: ∀n∈m,-1<=n/\n<256) (h:b2 l=b2 m):l=m:=by
 induction l generalizing m with
 | nil=>cases m with
   | nil=>rfl
   | cons _ _=>simp[b2]at h
 | cons a l f=>
   cases m with
   | nil=>simp[b2]at h
   | cons b m=>
     simp only[b2,du,jd,ff,gu]at h;have g:=d a af;have i:=e b af;rw[f (fun n c=>d n (by simp[c])) (fun n c=>e n (by simp[c])) h.2.2]
     congr 1
     omega
theorem qe (H:ae) (nx:Nat) (v:V) (l:List Int) (n:Int) (c:ax H nx v 1 (dM l)) (m:l.length<2^31):
 ∃r h' d,DenR Γ G 391 [v,vi n] H nx=some (r,h',d)/\(ax h' d r 1 (dM (l++[n % 256,n/ 256 % 256]))/\nx<=d):=by
 have i:=c.valOf;have j:=c.r2;have f: ∀a:Int,IntKind.i64.wrap ((BitVec.ofInt IntKind.i64.bits a&&& BitVec.ofInt IntKind.i64.bits 255).toNat)=a % 256:=fun a=>uw a 8 aa
 have g: ∀a:Int,IntKind.u8.wrap (a % 256)=a % 256:=fun a=>by show(a % 256) % 256=_;omega
 have h: ∀a:Int,a.fdiv (2^min 8 64)=a/ 256:=fun a=>GD _ aG
 refine bO (q:=?_)
 simp -dsimp only[go_sem,seval,i,j,f,g,h];refine Q3 (c.upd aa _) aa (by rw[pE];simp;omega) aG rfl (pG _) ?_;intro v hp b _ _;have k:=b.valOf;have e:=b.resVal;simp only[Rg.resVal]at e;simp -dsimp only[go_sem,seval,k,e];refine⟨?_,av⟩;simp -dsimp only[go_sem,seval];rw[pF];exact b.le aa
theorem ka9 (e:Entry) (h:e.values.length=e.cells.length):(mf e).length=2*e.cells.length:=by
 have : ∀l:List (Int×Int),(l.flatMap fun q=>[q.1,q.2]).length=2*l.length:=by
  intro l
  induction l with
  | nil=>rfl
  | cons a l b=>simp only[du,zM,d_,jQ]at b⊢;omega
 rw[mf,this,kj];omega
theorem nA {α:Type} {f:α->List Int} {m:Nat}: ∀{l:List α},(∀x∈l,(f x).length<=m)->(l.flatMap f).length<=m*l.length
 | [],_=>af
 | x::l,h=>by
   have b:=h x af;have c:=nA (l:=l) fun y a=>h y (by simp[a])
   rw[du,zM,d_,xi];omega
theorem tX {p:Prog} (i:aN p=true) {c:Config} (g:IsB p c) {b:List Entry} (f:b∈c.buf):(∀e∈b,(dP e).length<=65)/\b.length<=3/\(d4 b).length<=196:=by
 have a: ∀e∈b,(dP e).length<=65:=fun e h=>by
  have hp:=g.ent b f e h;have:=gX hp;have:=(mt i).1;rw[dP,d_,ka9 e hp.len];omega
 obtain⟨t,j⟩:=eH f;have d:=(g.buf t b j).1;have k:=nA a;refine⟨a,d,?_⟩;rw[d4,d_];have:65*b.length<=65*3:=rC _ d;omega
def gP (c:Config):ByteArray:=rU (b2 (iX 0 c))
theorem ON (p:Prog) (M:aN p=true) (c:Config) (A:IsB p c):Den Γ G 383 [(.agg [.t (ints (c).mem),.t (ints (c).at_),.t (.sl ((c).buf.map (fun b=>[.sl (b.map Entry.enc)])))])]=some (.t (.str (gP c))):=by
 obtain⟨⟨m1,m2,m3,m4⟩,_⟩:=cS (cT M).1;have By:=(mt M).1;have l1:=A.lm;have l2:=A.la;have l3:=A.lb;have Ck:iX 0 c=c.mem++c.at_++c.buf.flatMap d4:=by simp[iX]
 refine aD (q:=aA ?_);refine aS 16776216 c.mem.length (fun i f h x=>(f 4).v=vi i/\ax h x (f 3).v 1 (dM (b2 (c.mem.take i)))) rfl ⟨am,.inl ⟨am,rfl⟩⟩ ?_
 ·rintro i f u H x bs hi ⟨U,a⟩;have C:=aB i aa;have B:=a.valOf
  by_cases g:i<c.mem.length
  ·have k:=aW g;obtain⟨n,s,_⟩:=au g;refine bN U k s B ?_;refine bf (qe _ _ _ (b2 (c.mem.take i)) n ?_ (by rw[qL,bJ];omega)) ?_
   ·exact a.le aa
   rintro r h' N ⟨d,D⟩;have w:=d.valOf;refine aJ w U ?_;refine⟨aa,ak C,?_⟩;refine aA ?_;rw[a_ s,qM];exact d.le aa
  ·have k:=aI g;have:i=c.mem.length:=aa
   subst this;rw[be]at a;refine aJ U k ?_;refine aS 274861129768 c.at_.length (fun i f h x=>(f 5).v=vi i/\ax h x (f 3).v 1 (dM (b2 (c.mem++c.at_.take i)))) rfl ⟨am,by simp -dsimp only[go_sem,seval,fy,bW];exact a.le aa⟩ ?_;clear a;rintro i f u H x bs hi ⟨V,a⟩;have C:=aB i aa;have B:=a.valOf
   by_cases g:i<c.at_.length
   ·have k:=aW g;obtain⟨n,s,_⟩:=au g;refine bN V k s B ?_;refine bf (qe _ _ _ (b2 (c.mem++c.at_.take i)) n ?_ (by rw[qL,zM,bJ];omega)) ?_
    ·exact a.le aa
    rintro r h' N ⟨d,D⟩;have w:=d.valOf;refine aJ w V ?_;refine⟨aa,ak C,?_⟩;refine aA ?_;rw[a_ s,<- zQ,qM];exact d.le aa
   ·have k:=aI g;have:i=c.at_.length:=aa
    subst this;rw[be]at a;refine aJ V k ?_
    have O4: ∀t,t<=c.buf.length->((c.mem++c.at_)++(c.buf.take t).flatMap d4).length<=100+196*t:=fun t W=>by
     have:=nA (l:=c.buf.take t) fun b z=>(tX M A (lB z)).2.2
     rw[bJ]at this;rw[zM,zM];have:196*min t c.buf.length=196*t:=by rw[jb W]
     omega
    refine aS 20282409603651670423672373380040 c.buf.length (fun i f h x=>(f 6).v=vi i/\ax h x (f 3).v 1 (dM (b2 ((c.mem++c.at_)++(c.buf.take i).flatMap d4)))) rfl ⟨am,by simp -dsimp only[go_sem,seval,fy,fR,bW];exact a.le aa⟩ ?_;clear a;rintro t f u H x bs W ⟨y,a⟩;have C:=aB t aa;have B:=a.valOf;have O3:=O4 t W
    by_cases g:t<c.buf.length
    ·have k:=aW g;obtain⟨b,z,Z⟩:=au g;obtain⟨e1,e2,e3⟩:=tX M A Z;have BH:=A.ent b Z
     generalize hL:(c.mem++c.at_)++(c.buf.take t).flatMap d4=L at *
     refine bN y k z B ?_;refine bf (qe _ _ _ (b2 L) b.length ?_ (by rw[qL];omega)) ?_
     ·exact a.le aa
     rintro r h' N ⟨d,D⟩;rw[<- show b2 [(b.length:Int)]=[(b.length:Int) % 256,(b.length:Int)/ 256 % 256]from rfl,<- qM]at d;have w:=d.valOf;refine aJ w y ?_;refine aS 20282409603651661416747996545928 b.length (fun i f h x=>(f 7).v=vi i/\ax h x (f 3).v 1 (dM (b2 ((L++[(b.length:Int)])++(b.take i).flatMap dP)))) rfl ⟨am,by simp -dsimp only[go_sem,seval,fy,fR,bW];exact d.le aa⟩ ?_;clear d w;rintro i f3 u3 H3 x3 bs3 C8 ⟨I,d⟩;have Gl:=aB i aa;have w:=d.valOf
     have IF:((L++[(b.length:Int)])++(b.take i).flatMap dP).length<=101+196*t+65*i:=by
      have:=nA (l:=b.take i) fun e K=>e1 e (lB K)
      rw[bJ]at this;rw[zM,zM,gp];have:65*min i b.length=65*i:=by rw[jb C8]
      omega
     by_cases S:i<b.length
     ·have Q:=aW S;obtain⟨e,K,Cn⟩:=au S;have Y:=BH e Cn;have BL:=gX Y;have E6:=Y.len
      generalize O7:(L++[(b.length:Int)])++(b.take i).flatMap dP=F at *
      refine dG I y Q z K @Entry.enc.eq_1 w ?_;refine bf (qe _ _ _ (b2 F) e.cells.length ?_ (by rw[qL];omega)) ?_
      ·exact d.le aa
      rintro r h' N ⟨o,D⟩;rw[<- show b2 [(e.cells.length:Int)]=[(e.cells.length:Int) % 256,(e.cells.length:Int)/ 256 % 256]from rfl,<- qM]at o;have O:=o.valOf;refine a7 O I y ?_;refine aS 20282409528093806698032927867400 e.cells.length (fun j f h x=>(f 9).v=vi j/\ax h x (f 3).v 1 (dM (b2 ((F++[(e.cells.length:Int)])++((e.cells.zip e.values).take j).flatMap fun q=>[q.1,q.2])))) rfl ⟨am,by simp -dsimp only[go_sem,seval,fy,fR,bW];exact o.le aa⟩ ?_;clear o O;rintro j f4 u4 H4 x4 bs4 hj ⟨J,o⟩;have Kd:=aB j aa;have O:=o.valOf
      have O5:((F++[(e.cells.length:Int)])++((e.cells.zip e.values).take j).flatMap fun q=>[q.1,q.2]).length<=102+196*t+65*i+2*j:=by
       have:=nA (f:=fun q:Int×Int=>[q.1,q.2]) (m:=2) (l:=(e.cells.zip e.values).take j) fun q _=>af
       rw[bJ,kj]at this;rw[zM,zM,gp];omega
      by_cases R:j<e.cells.length
      ·have P:=aW R;have Ln:(j:Int)<(e.values.length:Int):=aa
       obtain⟨n,s,_⟩:=au R;obtain⟨v,X,_⟩:=au (show j<e.values.length from aa);have hz:(e.cells.zip e.values)[j]? =some (n,v):=oH.2 ⟨s,X⟩
       generalize O6:((F++[(e.cells.length:Int)])++((e.cells.zip e.values).take j).flatMap fun q=>[q.1,q.2])=L3 at *
       refine de J P Ln s X O ?_;refine bf (qe _ _ _ (b2 L3) n ?_ (by rw[qL];omega)) ?_
       ·exact o.le aa
       rintro r h' N ⟨T,D⟩;rw[<- show b2 [n]=[n % 256,n/ 256 % 256]from rfl,<- qM]at T;have w3:=T.valOf;refine a7 J X w3 ?_;refine bf (qe _ _ _ (b2 (L3++[n])) v ?_ (by rw[qL,zM,gp];omega)) ?_
       ·exact T.le aa
       rintro r2 h2 n2 ⟨E,D⟩;rw[<- show b2 [v]=[v % 256,v/ 256 % 256]from rfl,<- qM]at E;have w4:=E.valOf;refine aJ J w4 ?_;refine⟨aa,ak Kd,?_⟩;refine aA ?_;rw[a_ hz,jc,<- zQ,O6];rw[zQ]at E;exact E.le aa
      ·have P:=aI R;have:j=e.cells.length:=aa
       subst this;refine a7 J P I ?_;refine⟨aa,ak Gl,?_⟩;refine aA ?_;rw[a_ K,jc,<- zQ,O7,show [e].flatMap dP=[(e.cells.length:Int)]++(e.cells.zip e.values).flatMap (fun q=>[q.1,q.2])by simp[dP,mf]];rw[c6 (by rw[kj];omega),zQ]at o;refine o.le ?_;omega
     ·have Q:=aI S;have:i=b.length:=aa
      subst this;rw[be]at d;refine bN I y Q z ?_;refine⟨aa,ak C,?_⟩;refine aA ?_;rw[a_ z,jc,<- zQ,hL,show [b].flatMap d4=[(b.length:Int)]++b.flatMap dP by simp[d4]];rw[zQ]at d;refine d.le ?_;omega
    ·have k:=aI g;have:t=c.buf.length:=aa
     subst this;rw[be,<- Ck]at a;have AD:=a.rowsS;have ET:=xf (xD (iX 0 c));refine bT y k B AD ET ?_;rfl
def eD (c:Config):ByteArray:=rU (iX 1 c)
theorem kad {p:Prog} (f:aN p=true) {c d:Config} (b:IsB p c) (e:IsB p d) (h:eD c=eD d):c=d:=by
 refine R9 b e (Ph (fun n a=> ?_) (fun n a=> ?_) h)
 ·have:=qi f (sh:=1) aa b n a;omega
 ·have:=qi f (sh:=1) aa e n a;omega
theorem kac {p:Prog} (f:aN p=true) {c d:Config} (b:IsB p c) (e:IsB p d) (h:gP c=gP d):c=d:=by
 refine R9 b e (kcz (fun n a=> ?_) (fun n a=> ?_) (Ph (xD _) (xD _) h))
 ·have:=qi f (sh:=0) aa b n a;omega
 ·have:=qi f (sh:=0) aa e n a;omega
theorem ZT (p:Prog) (D:aN p=true) (c:Config) (y:IsB p c):Den Γ G 394 [(.agg [.t (ints (c).mem),.t (ints (c).at_),.t (.sl ((c).buf.map (fun b=>[.sl (b.map Entry.enc)])))])]=some (.t (.str (eD c))):=by
 obtain⟨⟨m1,m2,m3,m4⟩,_⟩:=cS (cT D).1;have By:=(mt D).1;have l1:=y.lm;have l2:=y.la;have l3:=y.lb;have F:iX 1 c=c.mem++c.at_.map (· +1)++c.buf.flatMap d4:=rfl;have J: ∀n∈iX 1 c,0<=n/\n<256:=fun n d=>by have:=qi D (sh:=1) aa y n d;omega
 have A: ∀n,0<=n/\n<256->IntKind.u8.wrap n=n:=fun n h=>by show n % 256=n;omega
 have r1: ∀n∈c.mem,0<=n/\n<256:=fun n d=>J n (by rw[F];simp[d])
 have r2: ∀n∈c.at_,0<=n+1/\n+1<256:=fun n d=>J (n+1) (by rw[F];simp only[cz,cy];exact .inl (.inr ⟨n,d,rfl⟩))
 have r3: ∀b∈c.buf,∀n∈d4 b,0<=n/\n<256:=fun b B n d=>J n (by rw[F];simp only[cz,dk];exact .inr ⟨b,B,d⟩)
 refine aD (q:=aA ?_);refine aS 134086696 c.mem.length (fun i f h x=>(f 17).v=vi i/\ax h x (f 3).v 1 (dM (c.mem.take i))) rfl ⟨am,.inl ⟨am,rfl⟩⟩ ?_
 ·rintro i f u H x bs hi ⟨W,a⟩;have E:=aB i aa;have s:=a.valOf;have z:=a.r3
  by_cases k:i<c.mem.length
  ·have o:=aW k;obtain⟨n,d,I⟩:=au k;have C:=A n (r1 n I);refine de W o d s z C ?_;refine ce (a.upd aa _) aa (by rw[pE,bJ];omega) aG rfl (pG _) ?_;intro v hp g _ _;have w:=g.valOf;refine aJ w W ?_;refine⟨aa,ak E,?_⟩;refine aA ?_;rw[a_ d,pF];exact g.le aa
  ·have o:=aI k;have:i=c.mem.length:=aa
   subst this;rw[be]at a;refine aJ W o ?_;refine aS 2197949513864 c.at_.length (fun i f h x=>(f 30).v=vi i/\ax h x (f 3).v 1 (dM (c.mem++(c.at_.take i).map (· +1)))) rfl ⟨am,by simp -dsimp only[go_sem,seval,fy,bc,bW];exact a.le aa⟩ ?_;clear a s z;rintro i f u H x bs hi ⟨X,a⟩;have E:=aB i aa;have s:=a.valOf;have z:=a.r3
   by_cases k:i<c.at_.length
   ·have o:=aW k;obtain⟨n,d,I⟩:=au k;have C:=A _ (r2 n I);have Qo:IntKind.i64.wrap (n+1)=n+1:=bu (by have:=r2 n I;omega);refine dG X o d s z Qo C ?_;refine ce (a.upd aa _) aa (by rw[pE,zM,cP,bJ];omega) aG rfl (pG _) ?_;intro v hp g _ _;have w:=g.valOf;refine aJ w X ?_;refine⟨aa,ak E,?_⟩;refine aA ?_;rw[a_ d,d6,<- zQ,pF];exact g.le aa
   ·have o:=aI k;have:i=c.at_.length:=aa
    subst this;rw[be]at a;refine aJ X o ?_
    have O4: ∀t,t<=c.buf.length->((c.mem++c.at_.map (· +1))++(c.buf.take t).flatMap d4).length<=100+196*t:=fun t Z=>by
     have:=nA (l:=c.buf.take t) fun b B=>(tX D y (lB B)).2.2
     rw[bJ]at this;rw[zM,zM,cP];have:196*min t c.buf.length=196*t:=by rw[jb Z]
     omega
    refine aS 618970019642672545263532552 c.buf.length (fun i f h x=>(f 44).v=vi i/\ax h x (f 3).v 1 (dM ((c.mem++c.at_.map (· +1))++(c.buf.take i).flatMap d4))) rfl ⟨am,by simp -dsimp only[go_sem,seval,fy,fR,bW];exact a.le aa⟩ ?_;clear a s z;rintro t f u H x bs Z ⟨K,a⟩;have E:=aB t aa;have s:=a.valOf;have z:=a.r3;have O3:=O4 t Z
    by_cases k:t<c.buf.length
    ·have o:=aW k;obtain⟨b,B,T⟩:=au k;obtain⟨e1,e2,e3⟩:=tX D y T;have BH:=y.ent b T;have rb:=r3 b T;have QN:=A _ (rb b.length (by simp[d4]))
     generalize hL:(c.mem++c.at_.map (· +1))++(c.buf.take t).flatMap d4=L at *
     refine de K o B s z QN ?_;refine ce (a.upd aa _) aa (by rw[pE];omega) aG rfl (pG _) ?_;intro v hp g _ _;rw[<- show dM [(b.length:Int)]=[[.t (.int .u8 (b.length:Int))]]from rfl,<- pF]at g;have w:=g.valOf;refine aJ w K ?_;refine aS 309485009749287474686867464 b.length (fun i f h x=>(f 56).v=vi i/\ax h x (f 3).v 1 (dM ((L++[(b.length:Int)])++(b.take i).flatMap dP))) rfl ⟨am,by simp -dsimp only[go_sem,seval,fy,fR,bW];exact g.le aa⟩ ?_;clear g w;rintro i f3 u3 H3 x3 bs3 C8 ⟨M,g⟩;have Gl:=aB i aa;have w:=g.valOf;have w3:=g.r3
     have IF:((L++[(b.length:Int)])++(b.take i).flatMap dP).length<=101+196*t+65*i:=by
      have:=nA (l:=b.take i) fun e N=>e1 e (lB N)
      rw[bJ]at this;rw[zM,zM,gp];have:65*min i b.length=65*i:=by rw[jb C8]
      omega
     by_cases S:i<b.length
     ·have Q:=aW S;obtain⟨e,N,Cn⟩:=au S;have CC:=BH e Cn;have BL:=gX CC;have E6:=CC.len;have re: ∀n∈dP e,0<=n/\n<256:=fun n d=>rb n (by simp only[d4,cj,dk];exact .inr ⟨e,Cn,d⟩)
      have QE:=A _ (re e.cells.length (by simp[dP]))
      generalize O7:(L++[(b.length:Int)])++(b.take i).flatMap dP=V at *
      refine dG M Q N @Entry.enc.eq_1 w w3 QE ?_;refine ce (g.upd aa _) aa (by rw[pE];omega) aG rfl (pG _) ?_;intro v hp r _ _;rw[<- show dM [(e.cells.length:Int)]=[[.t (.int .u8 (e.cells.length:Int))]]from rfl,<- pF]at r;have O:=r.valOf;refine aJ O M ?_;refine aS 154741324319051816951099400 e.cells.length (fun j f h x=>(f 70).v=vi j/\ax h x (f 3).v 1 (dM ((V++[(e.cells.length:Int)])++((e.cells.zip e.values).take j).flatMap fun q=>[q.1,q.2]))) rfl ⟨am,by simp -dsimp only[go_sem,seval,fy,fR,bW];exact r.le aa⟩ ?_;clear r O;rintro j f4 u4 H4 x4 bs4 hj ⟨Y,r⟩;have Kd:=aB j aa;have O:=r.valOf;have w4:=r.r3
      have O5:((V++[(e.cells.length:Int)])++((e.cells.zip e.values).take j).flatMap fun q=>[q.1,q.2]).length<=102+196*t+65*i+2*j:=by
       have:=nA (f:=fun q:Int×Int=>[q.1,q.2]) (m:=2) (l:=(e.cells.zip e.values).take j) fun q _=>af
       rw[bJ,kj]at this;rw[zM,zM,gp];omega
      by_cases R:j<e.cells.length
      ·have P:=aW R;obtain⟨n,d,_⟩:=au R;obtain⟨v,hv,_⟩:=au (show j<e.values.length from aa);have hz:(e.cells.zip e.values)[j]? =some (n,v):=oH.2 ⟨d,hv⟩;have Mj:=zL hz;have C:=A _ (re n (by simp only[dP,mf,cj,dk];exact .inr ⟨_,Mj,af⟩));have PK:=A _ (re v (by simp only[dP,mf,cj,dk];exact .inr ⟨_,Mj,af⟩))
       generalize O6:((V++[(e.cells.length:Int)])++((e.cells.zip e.values).take j).flatMap fun q=>[q.1,q.2])=L3 at *
       refine qY Y P d hv O w4 C PK ?_;refine Q3 (r.upd aa _) aa (by rw[pE];simp;omega) aG rfl (pG _) ?_;intro v2 hp U _ _;rw[<- show dM [n,v]=[[.t (.int .u8 n)],[.t (.int .u8 v)]]from rfl,<- pF]at U;have w5:=U.valOf;refine aJ Y w5 ?_;refine⟨aa,ak Kd,?_⟩;refine aA ?_;rw[a_ hz,jc,<- zQ,O6];exact U.le aa
      ·have P:=aI R;have:j=e.cells.length:=aa
       subst this;refine a7 Y P M ?_;refine⟨aa,ak Gl,?_⟩;refine aA ?_;rw[a_ N,jc,<- zQ,O7,show [e].flatMap dP=[(e.cells.length:Int)]++(e.cells.zip e.values).flatMap (fun q=>[q.1,q.2])by simp[dP,mf]];rw[c6 (by rw[kj];omega),zQ]at r;refine r.le ?_;omega
     ·have Q:=aI S;have:i=b.length:=aa
      subst this;rw[be]at g;refine a7 M K Q ?_;refine⟨aa,ak E,?_⟩;refine aA ?_;rw[a_ B,jc,<- zQ,hL,show [b].flatMap d4=[(b.length:Int)]++b.flatMap dP by simp[d4]];rw[zQ]at g;refine g.le ?_;omega
    ·have o:=aI k;have:t=c.buf.length:=aa
     subst this;rw[be,<- F]at a;have AD:=a.rowsS;have ET:=xf J;refine bT K o s AD ET ?_;rfl
theorem vg {h:ae} {c:Nat} {l:List Int} {K:V->List (Nat×O)->Prop} {w:WK K} (g:l.length<2^31)
 (f: ∀v hp,ax (At h hp) (c+1) v 1 (ai l)->(∀j,j≠c->At h hp j=h j)->(∀j,j≠c->aK v j)->(Rg.valOf v=some v/\V.cells v=some [v])->K v hp):rY (Γ:=Γ) (G:=G) false h c 32 [.t (ints l)] K w:=by
 obtain⟨r,h',i,e,d,_,_⟩:=tW l g (fun _=>none) 0;refine qK (es:=l.map fun n=>[ti n]) rfl rfl ⟨r,h',i,e,d⟩ fun v hp o a b=>f v hp o a b ?_
 rcases o with⟨rfl,_⟩ | ⟨k,rfl,_⟩<;>exact⟨rfl,rfl⟩
def jP (h:ae) (lo hi:Nat) (v:V) (rows:List (List V)):Prop:=
 (v= .t .nils/\rows=[])\/ ∃k,v= .ms k 0 rows.length/\lo<=k/\k<hi/\h k=some (.rows 1 rows false)
theorem jP.keep {h h':ae} {lo hi:Nat} {v:V} {rows:List (List V)} (o:jP h lo hi v rows) (e: ∀k,lo<=k->k<hi->h' k=h k):jP h' lo hi v rows:=by
 rcases o with o | ⟨k,c,a,b,d⟩
 ·exact .inl o
 ·exact .inr ⟨k,c,a,b,by rw[e k a b];exact d⟩
theorem jP.val {h:ae} {lo hi:Nat} {v:V} {rows:List (List V)} (o:jP h lo hi v rows):Rg.valOf v=some v/\V.cells v=some [v]:=by
 rcases o with⟨rfl,_⟩ | ⟨k,rfl,_⟩<;>exact⟨rfl,rfl⟩
theorem jP.tree {h:ae} {lo hi:Nat} {v:V} {l:List Int} (o:jP h lo hi v (ai l)) (d:Nat):toT h (d+1) v=some (ints l):=by
 rcases o with⟨rfl,b⟩ | ⟨k,rfl,_,_,c⟩
 ·have:l=[]:=by
   have:=bz List.length b;rw[aC]at this;exact fu this
  subst this;rfl
 ·have a:List.take (ai l).length (ai l)=ai l:=ec rfl;simp only[toT,c,rd,gy,ay,aU,ij,a,zC,zD,gY]
def VR (h:ae) (x:Nat) (g f:V) (b:Nat) (c:Config):Prop:=
 ∃d e a vs,jP h 0 d g (ai c.mem)/\jP h d e f (ai c.at_)/\d<=e/\e<=b/\b<a 0/\h b=some (.rows 1 vs false)/\BufsV h a vs c.buf/\a c.buf.length<=x
theorem N' (p:Prog) (hf:aN p=true) (c:Config) (hc:IsB p c) (nx:Nat):
 ∃r h' n',DenR Γ G 356 [(.agg [.t (ints (c).mem),.t (ints (c).at_),.t (.sl ((c).buf.map (fun b=>[.sl (b.map Entry.enc)])))])] (fun _=>none) nx=some (r,h',n')/\ ∃Q P kB,r= .agg [Q,P,.ms kB 0 c.buf.length]/\VR h' n' Q P kB c:=by
 obtain⟨⟨m1,m2,m3,m4⟩,_⟩:=cS (cT hf).1;have l1:=hc.lm;have l2:=hc.la;have l3:=hc.lb;have e3:(c.buf.length:Int)<=4294967296:=aa
 refine bO (q:=aA ?_);refine vg aa ?_;rintro Q DN KZ DC H6 ⟨AX,Dr⟩;refine aw AX ?_;refine vg aa ?_;rintro P D0 KY Cl Cv ⟨DT,CG⟩;unfold V.cells at Dr CG;refine de AX Dr DT CG e3 @iN ?_
 generalize Rh:At (At (fun _=>none) DN) D0=H0 at *
 refine aS 2305843009213431920 c.buf.length (fun i f h x=>(f 4).v=vi i/\ ∃N vs,h (nx+2+9)=some (.rows 1 (vs++List.replicate (c.buf.length-i) [.t .nils]) false)/\BufsV h N vs (c.buf.take i)/\N 0=nx+2+10/\N i<=x/\(∀k,k<nx+2+9->h k=H0 k)) rfl ?_ ?_
 ·refine⟨am,fun _=>nx+2+10,[],by simp -dsimp only[go_sem,seval,ff,tp],⟨rfl,fun q w=>ay _,fun q b E=>by simp at E⟩,rfl,av,?_⟩;intro k g;have:k≠nx+2+9:=aa
  exact ak this
 rintro i f u Ho x bs hi ⟨D,N,vs,hB,I,Co,He,AG⟩;have hw:=aB i aa;refine aw D ?_;refine aR D ?_ ?_<;>intro h
 ·obtain⟨b,E,EW⟩:=au ‹i<c.buf.length›;obtain⟨b1,b2,_⟩:=hc.buf i b E
  have Ae:List.replicate (c.buf.length-i) [V.t T.nils]=[V.t T.nils]::List.replicate (c.buf.length-i-1) [V.t T.nils]:=by
   rw[<- oE];congr 1;omega
  have E6:vs.length=i:=by rw[I.len,bJ];omega
  have Do:nx+2+9<x:=by have:=I.le (q:=0) (r:=i) aa (by rw[bJ];omega);omega
  refine aS 2305843009180139616 b.length (fun j f' h' d=>(f' 5).v=vi j/\ ∃v,h' (nx+2+9)=some (.rows 1 (vs++[v]::List.replicate (c.buf.length-i-1) [.t .nils]) false)/\h_ h' x d v (b.take j)/\x<=d/\(∀k,k<x->k≠nx+2+9->h' k=Ho k)) rfl ?_ ?_
  ·refine⟨am,.t .nils,bg hB Ae,⟨[],.inl ⟨rfl,rfl⟩,af,af,af⟩,av,fun k _ _=>rfl⟩
  rintro j f' u' s d bs' hj ⟨Y,v,EX,X,PA,DD⟩;have Aw:=aB j aa;refine a7 Y D E ?_;refine qZ Y D E ?_ ?_<;>intro h
  ·obtain⟨e,he,Cn⟩:=au ‹j<b.length›;have L:=b2 e Cn;have BL:=gX L
   have B5:(vs++[v]::List.replicate (c.buf.length-i-1) [V.t T.nils])[i]? =some [v]:=by
    rw[eJ aa,E6,dI];rfl
   obtain⟨Bs,Fc⟩:=X.val;have C8:(i:Int)<(c.buf.length:Int):=aa
   have Dq:(0:Int)<=(i:Int):=aa
   refine mP Y D E he @Entry.enc.eq_1 EX B5 C8 Dq Bs ?_;refine vg aa ?_;rintro l J Ny NQ Kv ⟨Bu,Bi⟩;refine aw Bu ?_;refine vg (by have:=L.len;omega) ?_;rintro m K HQ L7 LD ⟨Di,CL⟩;unfold V.cells at Bi CL;obtain⟨rows,S,C,U,Bh⟩:=X
   have hG: ∀k,k<d->updC (At (At s J) K) (d+8+10+15) (some (O.rows 2 [[l,m]] false)) k=s k:=fun k g=>by
    rw[aq,ac aa,L7 k aa,NQ k aa]
   have I1:ax (updC (At (At s J) K) (d+8+10+15) (some (O.rows 2 [[l,m]] false))) (d+8+10+16) v 2 rows:=by
    rcases S with h | ⟨k,a,Z,B,A⟩
    ·exact .inl h
    ·exact .inr ⟨k,a,aa,by rw[hG k B];exact A⟩
   have AD:=I1.rowsS;refine de Bs Bu Bi Di CL AD ?_;have Aa:(rows.all fun r=>decide (r.length=2))=true:=al U
   refine ce I1 (ay _) (by have:=I.len;rw[C,bJ];omega) aG rfl Aa ?_;intro v2 hp hO Bp Aq;rcases hO with⟨_,CY⟩ | ⟨t,rfl,AF,C4⟩
   ·simp at CY
   have FA:d+8+10+16<=t:=by
    rcases bw t (d+8+10+16)with a | a
    ·exact absurd rfl (Bp t a 0 _)
    ·exact a
   have AM: ∀k,(k<x\/d<=k\/ ∀rs fz,s k≠some (O.rows 2 rs fz))->aK v k:=by
    intro k g;rcases S with⟨rfl,_⟩ | ⟨k',rfl,Z,B,A⟩
    ·intro i n z;cases z
    ·refine c8 ?_ _ _;rintro rfl;rcases g with g | g | g
     ·omega
     ·omega
     ·exact g _ _ A
   have A8: ∀k,k<d->(k<x\/ ∀rs fz,s k≠some (O.rows 2 rs fz))->At (updC (At (At s J) K) (d+8+10+15) (some (O.rows 2 [[l,m]] false))) hp k=s k:=by
    intro k g Ah;rw[Aq k aa (AM k (by rcases Ah with h | h;exact .inl h;exact .inr (.inr h))),hG k g]
   have Ij:=A8 (nx+2+9) aa (.inl aa);rw[EX]at Ij
   have E8:(vs++[v]::List.replicate (c.buf.length-i-1) [V.t T.nils]).set i [V.ms t 0 (rows++[[l,m]]).length]=vs++[V.ms t 0 (rows++[[l,m]]).length]::List.replicate (c.buf.length-i-1) [V.t T.nils]:=by
    rw[v6 _ _ aa,E6,dI];rfl
   refine dG Y D Ij B5 C8 Dq E8 ?_;have M: ∀(o:Option O) k,k≠nx+2+9->updC (At (updC (At (At s J) K) (d+8+10+15) (some (O.rows 2 [[l,m]] false))) hp) (nx+2+9) o k=At (updC (At (At s J) K) (d+8+10+15) (some (O.rows 2 [[l,m]] false))) hp k:=fun o k g=>by rw[aq,ac g]
   have Hb: ∀(o:Option O) H,t<H->h_ (updC (At (updC (At (At s J) K) (d+8+10+15) (some (O.rows 2 [[l,m]] false))) hp) (nx+2+9) o) x H (.ms t 0 (rows++[[l,m]]).length) (b.take (j+1)):=by
    intro o H IQ;refine⟨rows++[[l,m]],.inr ⟨t,rfl,aa,IQ,by rw[M _ _ aa];exact C4⟩,by rw[zM,C,bJ,bJ];simp;omega,?_,?_⟩
    ·intro r y;rcases cz.1 y with y | y
     ·exact U r y
     ·rw[bB]at y;rw[y];rfl
    ·intro q e0 w;rw[a_ he]at w;have R:(b.take j).length=j:=by rw[bJ];omega
     rcases bw q j with a | a
     ·rw[bU aa]at w;obtain⟨r,y,hE⟩:=Bh q e0 w;refine⟨r,by rw[bU (by rw[C];omega)];exact y,hE.keep (ay _) aa fun k a1 a2 a3=> ?_⟩;rw[M _ _ aa,A8 k a2 (.inr a3)]
     ·have Cc:q=j:=by
       have:=(zH.1 w).1;rw[zM,R,gp]at this;omega
      subst Cc;rw[eJ aa,R,dI]at w;simp only[dv,zA]at w;subst w;refine⟨[l,m],by rw[eJ (by rw[C,R];exact ay _),C,R,dI];rfl,?_⟩;have NZ:ai e.cells≠[]:=fun z=>L.ne (fu (by rw[<- aC,z];rfl))
      have Ak:ai e.values≠[]:=fun z=>L.ne (fu (by rw[<- L.len,<- aC,z];rfl))
      rcases Ny with⟨_,z⟩ | ⟨F,rfl,DO,J8⟩
      ·exact absurd z NZ
      rcases HQ with⟨_,z⟩ | ⟨kv,rfl,Eh,J2⟩
      ·exact absurd z Ak
      have qc:F=d+8+10+10:=by
       rcases Nat.decEq F (d+8+10+10)with a | a
       ·exact absurd rfl (Kv F a 0 _)
       ·exact a
      have qv:kv=d+8+10+13:=by
       rcases Nat.decEq kv (d+8+10+13)with a | a
       ·exact absurd rfl (LD kv a 0 _)
       ·exact a
      refine⟨F,kv,by rw[aC,aC],aa,aa,aa,aa,?_,?_⟩
      ·rw[M _ _ aa,Aq F aa (AM F (.inr (.inl aa))),aq,ac aa,L7 F aa];exact J8
      ·rw[M _ _ aa,Aq kv aa (AM kv (.inr (.inl aa))),aq,ac aa];exact J2
   refine⟨aa,ak Aw,.ms t 0 (rows++[[l,m]]).length,am,?_,av,?_⟩
   ·refine aA ?_;exact Hb _ _ aa
   intro k g Ls;simp -dsimp only[go_sem,seval,M _ k Ls];rw[A8 k aa (.inl g)];exact DD k g Ls
  ·have:j=b.length:=aa
   subst this;rw[be]at X;have Dv:c.buf.take (i+1)=c.buf.take i++[b]:=a_ E;have W:(c.buf.take i).length=i:=by rw[bJ];omega
   have C6:=I.snoc (h':=s) (x:=d) (v:=v) (b:=b) (by rw[W];omega) (fun k k1 t=>by rw[W]at t;exact DD k aa aa) (by
    rw[W];obtain⟨rows,S,C,U,Bh⟩:=X;refine⟨rows,?_,C,U,fun q e0 w=> ?_⟩
    ·rcases S with h | ⟨k,a,Z,B,A⟩
     ·exact .inl h
     ·exact .inr ⟨k,a,aa,B,A⟩
    ·obtain⟨r,y,hE⟩:=Bh q e0 w
     exact⟨r,y,hE.keep He (ay _) fun _ _ _ _=>rfl⟩)
   rw[W,<- Dv]at C6;refine⟨aa,bg hw D,_,vs++[[v]],?_,C6,by rw[ah (pr _)];exact Co,by rw[ac aa];refine aA ?_;omega,?_⟩
   ·refine aw EX ?_;rw[zQ];rfl
   ·intro k g;refine aw (DD k aa aa) ?_;exact AG k g
 ·have Cq:i=c.buf.length:=aa
  subst Cq;rw[dI,s7,bW]at hB;rw[be]at I
  have hM:jP Ho 0 (nx+5) Q (ai c.mem):=by
   rcases KZ with a | ⟨k,a,Z,B⟩
   ·exact .inl a
   ·exact .inr ⟨k,a,aa,aa,by rw[AG k aa,Cl k aa];exact B⟩
  have hA:jP Ho (nx+5) (nx+8) P (ai c.at_):=by
   rcases KY with a | ⟨k,a,Z,B⟩
   ·exact .inl a
   ·have g:k=nx+2+5:=by
     rcases Nat.decEq k (nx+2+5)with A | A
     ·subst a;exact absurd rfl (Cv k A 0 _)
     ·exact A
    exact .inr ⟨k,a,aa,aa,by rw[AG k aa];exact B⟩
  refine⟨Q,P,nx+2+9,rfl,nx+5,nx+8,N,vs,hM,hA,aa,aa,aa,hB,I,av⟩
def noF:Option O->Option O
 | some (.rows sz rs _)=>some (.rows sz rs true)
 | o=>o
theorem pK {o:Option O} {b:Nat} {rs:List (List V)} {f:Bool} (h:noF o=noF (some (.rows b rs f))): ∃a,o=some (.rows b rs a):=by
 match o with
 | none=>cases h
 | some (.rows sz' rs' a)=>cases h;exact⟨a,rfl⟩
 | some (.map _)=>cases h
 | some (.loop _ _ _ _)=>cases h
 | some (.raw _)=>cases h
 | some .dead=>cases h
theorem y_ {a b:Option O} (h:noF a=noF b):a=b\/ ∃c rs f d,a=some (.rows c rs f)/\b=some (.rows c rs d):=by
 match a,b with
 | some (.rows c rs f),b=>
   obtain⟨d,rfl⟩:=pK h.symm
   exact .inr ⟨c,rs,f,d,rfl,rfl⟩
 | a,some (.rows c rs f)=>
   obtain⟨d,rfl⟩:=pK h
   exact .inr ⟨c,rs,d,f,rfl,rfl⟩
 | none,none=>exact .inl rfl
 | none,some (.map _)=>cases h
 | none,some (.loop _ _ _ _)=>cases h
 | none,some (.raw _)=>cases h
 | none,some .dead=>cases h
 | some (.map _),none=>cases h
 | some (.loop _ _ _ _),none=>cases h
 | some (.raw _),none=>cases h
 | some .dead,none=>cases h
 | some (.map _),some (.map _)=>exact .inl h
 | some (.map _),some (.loop _ _ _ _)=>exact .inl h
 | some (.map _),some (.raw _)=>exact .inl h
 | some (.map _),some .dead=>exact .inl h
 | some (.loop _ _ _ _),some (.map _)=>exact .inl h
 | some (.loop _ _ _ _),some (.loop _ _ _ _)=>exact .inl h
 | some (.loop _ _ _ _),some (.raw _)=>exact .inl h
 | some (.loop _ _ _ _),some .dead=>exact .inl h
 | some (.raw _),some (.map _)=>exact .inl h
 | some (.raw _),some (.loop _ _ _ _)=>exact .inl h
 | some (.raw _),some (.raw _)=>exact .inl h
 | some (.raw _),some .dead=>exact .inl h
 | some .dead,some (.map _)=>exact .inl h
 | some .dead,some (.loop _ _ _ _)=>exact .inl h
 | some .dead,some (.raw _)=>exact .inl h
 | some .dead,some .dead=>exact .inl h
theorem Si {h h':ae} (l: ∀k,noF (h k)=noF (h' k)): ∀(d:Nat) (v:V),toT h d v=toT h' d v:=by
 intro d
 induction d with
 | zero=>intro v;cases v<;>simp only[toT]
 | succ d p=>
   intro v;have j:toT h d=toT h' d:=funext p
   match v with
   | .t x=>simp only[toT]
   | .ms k i n=>
     rcases y_ (l k)with e | ⟨o,rs,f,m,c,g⟩
     ·simp only[toT,e,j]
     ·simp only[toT,c,g,j]
   | .mp k i n=>
     rcases y_ (l k)with e | ⟨o,rs,f,m,c,g⟩
     ·simp only[toT,e,j]
     ·simp only[toT,c,g,j]
   | .fn f a b=>simp only[toT,j]
   | .mm k=>
     rcases y_ (l k)with e | ⟨o,rs,f,m,c,g⟩
     ·simp only[toT,e]
     ·simp only[toT,c,g]
   | .yl k=>simp only[toT]
   | .agg cs=>simp only[toT]
   | .tup cs=>simp only[toT]
   | .undef=>simp only[toT]
   | .lb=>simp only[toT]
theorem SM (h:ae): ∀(l:List Nat) (g:ae) (k:Nat),noF (g k)=noF (h k)->noF (At g (freezes h l) k)=noF (h k)
 | [],g,k,hg=>by simpa only[freezes,rE,bE]using hg
 | q::l,g,k,hg=>by
   have c:=SM h l;unfold freezes at c⊢;rw[s8];split
   ·exact c g k hg
   ·rename_i b a;rw[cD];split at a
    ·rename_i i rs f e;cases a;refine c _ k ?_;rw[aq];split
     ·rename_i d;rw[d,e];rfl
     ·exact hg
    ·cases a
theorem SW (h:ae): ∀(l:List Nat) (g:ae) (k:Nat),k∉ l->At g (freezes h l) k=g k
 | [],g,k,_=>by simp only[freezes,rE,bE]
 | q::l,g,k,hk=>by
   have c:=SW h l;unfold freezes at c⊢;rw[s8];simp only[cj,ml]at hk;split
   ·exact c g k hk.2
   ·rename_i b a;rw[cD];split at a
    ·cases a;rw[c _ k hk.2,aq,ac hk.1]
    ·cases a
theorem kaK {r:V} {h:ae} {vs:List V} {K:V->ae->Prop} {w:WK K} (a: ∀b,(∀k,noF (b k)=noF (h k))->(∀k,k∉ vs.flatMap (b_ h)->b k=h k)->K r b):fY (some r) false h vs K w:=by
 unfold fY;simp only;split
 ·exact a _ (fun _=>rfl) fun _ _=>rfl
 ·exact⟨fun h=>Bool.noConfusion h,a _ (fun k=>SM h _ h k rfl) fun k a=>SW h _ h k a⟩
theorem wB {h:ae} {k:Nat} {l:List Int} {f:Bool} {i n d:Nat} (g:h k=some (.rows 1 (ai l) f)):cn h (d+1) (.ms k i n)=[k]:=by
 have e: ∀r∈ai l,∀v∈r,V.tree v=true:=by
  intro r j v a;obtain⟨b,c,rfl⟩:=cy.1 j;obtain⟨n,_,rfl⟩:=cy.1 c;simp at a;subst a;rfl
 simp only[cn,g,LY h d e]
end Rg
end
