/- Part of the proof of laws of relyguardlaw36. No condition. -/
import Derived.Test.YtaiokglcgiemnaaGreatDoorGartAT
import Derived.Test.YtaiokglcgiemnaaGreatDoorGartAS
set_option linter.unusedSimpArgs false
set_option linter.unusedVariables false
set_option linter.defProp false
section
namespace Rg
open Go
def wK (F c d e:Nat) (vs:List V) (n:Nat) (E:Nat->List (Nat×Choice)) (a:Nat->Bool) (t:Nat) (m:Nat) (P:Nat->List (Nat×Choice)):Prop:=
 ∀(h:ae) (x u:Nat),GrfH h x c d e vs n E a t->u<m->
  ∃r h' b,DenR Γ G F [.mp c 0 0,vi u] h x=some (r,h',b)/\(ax h' b r 4 (cA (P u))/\x<=b/\ ∀q,q<x->h' q=h q)
theorem Sv (m i:Nat) (h:i<m):(List.replicate i (-1:Int)++List.replicate (m-i) 0).set i (-1)=List.replicate (i+1) (-1)++List.replicate (m-(i+1)) 0:=by
 obtain⟨k,a⟩: ∃k,m-i=k+1:=⟨m-i-1,aa⟩
 rw[a,show m-(i+1)=k from aa,v6 _ _ af,oE];simp only[iB,dI,List.set_cons_zero];rw[List.replicate_succ',zQ];rfl
theorem Ta (m i:Nat) (h:i<m):(List.replicate i (-1:Int)++List.replicate (m-i) 0)[i]? =some 0:=by
 rw[eJ af,iB,dI,nk,ah aa]
theorem Zi (m:Nat):bj (List.replicate m ch0)=List.replicate m [vi 0,vi 0,vi 0]:=by simp[bj,ch0,Choice.enc]
def qI (l:List Nat):List Int:=l.map Int.ofNat
theorem cB (l:List Nat):(qI l).length=l.length:=by simp[qI]
theorem qC {l:List Nat} {i v:Nat} (h:l[i]? =some v):(qI l)[i]? =some (v:Int):=by simp[qI,h]
theorem NU {H:ae} {nx F kG kE kI:Nat} {vs:List V} {n:Nat} {E:Nat->List (Nat×Choice)} {ins:Nat->Bool} {t m:Nat} {P:Nat->List (Nat×Choice)} (T:GrfH H nx kG kE kI vs n E ins t) (hF:wK F kG kE kI vs n E ins t m P)
 (hP: ∀u,u<m->(P u).length<=268/\ ∀e∈P u,e.1<m) (hm:m<=40000) {fr to:Nat} (AG:fr<m) (Fd:to<m):
 ∃r h' g,DenR Γ G 363 [.mp kG 0 0,vi fr,vi to,vi m,.fn F [.mp kG 0 0] []] H nx=some (r,h',g)/\(ax h' g r 3 (bj (eG P m fr to))/\nx<=g/\ ∀q,q<nx->h' q=H q):=by
 refine bO (q:=?_)
 have E1:((m:Int)<=(m:Int)/\(m:Int)<=4294967296)=True:=aW aa;have n1:(nx=nx+1)=False:=aI aa;have n2:(nx+1=nx)=False:=aI aa;simp -dsimp only[go_sem,seval,E1,aU,n1,n2];have c2:(nx=nx+2)=False:=aI aa;have c3:(nx=nx+3)=False:=aI aa;have c4:(nx=nx+4)=False:=aI aa
 refine aS 2130714624 m (fun i f h x=>(f 24).v=vi i/\h (nx+1+1)=some (.rows 1 (ai (List.replicate i (-1)++List.replicate (m-i) 0)) false)/\h (nx+1+3)=some (.rows 3 (bj (List.replicate m ch0)) false)/\
  h (nx+1+4)=some (.rows 1 [[.ms (nx+1+1) 0 m]] false)/\h (nx+1+5)=some (.rows 1 [[.ms (nx+1+3) 0 m]] false)/\nx+1+5<x/\ ∀q,q<nx->h q=H q) rfl
  ⟨am,sG c2 c3 c4 @tp @up,ds n1 c2 @Zi,ak n1,am,av,fun q o=> ?_⟩ ?_
 ·simp -dsimp only[go_sem,seval];rw[ac aa,ac aa,ac aa,ac aa,ac aa,ac aa]
 rintro i f u h x bs hi ⟨IL,k,A,l,C,hx,B⟩;have Z:=aB i aa
 by_cases Ad:i<m
 ·have Af:=aW Ad;have I:=fS (Ta m i Ad);have st:=Sv m i Ad;have ln:(List.replicate i (-1:Int)++List.replicate (m-i) 0).length=m:=by simp;omega
  simp -dsimp only[go_sem,seval,IL,Af,k,l,I,aC,ln];refine⟨aa,ak Z,?_,by simp -dsimp only[go_sem,seval];rw[ac aa];exact A,by simp -dsimp only[go_sem,seval];rw[ac aa];exact l,by simp -dsimp only[go_sem,seval];rw[ac aa];exact C,av,fun q o=> ?_⟩
  ·simp -dsimp only[go_sem,seval];rw[dV,st]
  ·simp -dsimp only[go_sem,seval];rw[ac aa];exact B q o
 ·have Af:=aI Ad;have:i=m:=aa
  subst this;rw[dI,s7,bW]at k;have JN:=aW AG;have I:(ai (List.replicate i (-1)))[fr]? =some [vi (-1)]:=fS (by simp[AG]);simp -dsimp only[go_sem,seval,IL,Af,k,l,JN,I]
  refine aS 154742504910672396923617280 i (fun j f h y=>(f 15).v=vi j/\ ∃s:PS,POk P fr i s j/\goP P to (i-j) j s=jU P i fr to/\ax h y (f 14).v 1 (ai (qI s.q))/\h (nx+1+1)=some (.rows 1 (ai s.par) false)/\h (nx+1+3)=some (.rows 3 (bj s.ch) false)/\
   h (nx+1+4)=some (.rows 1 [[.ms (nx+1+1) 0 i]] false)/\h (nx+1+5)=some (.rows 1 [[.ms (nx+1+3) 0 i]] false)/\nx+1+5<y/\(∀q,q<nx->h q=H q)/\ ∀q,q<=nx+1+5->aK (f 14).v q) rfl
   ⟨am,ps0 i fr,Tc AG,rfl,?_,?_,?_,?_,?_,?_,?_,?_⟩ ?_
  ·refine .inr ⟨x+1+5+1,?_,?_,?_⟩
   ·simp -dsimp only[go_sem,seval]
    try rfl
   ·simp -dsimp only[go_sem,seval];try omega
   ·simp -dsimp only[go_sem,seval];try rfl
  ·simp -dsimp only[go_sem,seval]
   (repeat first | rw[ac aa] | rw[ah aa])
   rw[dV];rfl
  ·simp -dsimp only[go_sem,seval]
   (repeat first | rw[ac aa] | rw[ah aa])
   exact A
  ·simp -dsimp only[go_sem,seval]
   (repeat first | rw[ac aa] | rw[ah aa])
   exact l
  ·simp -dsimp only[go_sem,seval]
   (repeat first | rw[ac aa] | rw[ah aa])
   exact C
  ·simp -dsimp only[go_sem,seval];omega
  ·simp -dsimp only[go_sem,seval];intro q o
   (repeat first | rw[ac aa] | rw[ah aa])
   exact B q o
  ·simp -dsimp only[go_sem,seval];exact fun q o=>c8 aa _ _
  clear k A l C B hx I IL Af hi Z;rintro j f u h y bs hj ⟨Cy,s,J,N,M,k,A,l,C,hy,B,Bn⟩;have C9:=aB j aa;have Ed:=J.len;have A5:=J.le;have v1:=M.valOf;have v2:=M.lenS;have Gp:=aW Fd;have BL:(ai s.par).length=i:=by rw[aC];exact J.lp
  have By:(bj s.ch).length=i:=by rw[je];exact J.lc
  have I:(ai s.par)[to]? =some [vi (s.par.getD to (-1))]:=by
   have R:to<s.par.length:=by rw[J.lp];exact Fd
   rw[zK,zI R];exact fS (zI R)
  have Fu: ∀z,y<=z->s=jU P i fr to-> ∃r h' g,DenR Γ G 382 [.agg [.fn 380 [] [.mp (nx+1+4) 0 0],.fn 381 [] [.mp (nx+1+5) 0 0]],vi fr,vi to] h z=some (r,h',g)/\(ax h' g r 3 (bj (eG P i fr to))/\z<=g/\ ∀q,q<z->h' q=h q):=by
   intro z hz he
   have:=X0 (nx:=z) l k C A J.lp J.lc ⟨aa,aa,aa,aa⟩ (fun v=>s.q.idxOf v) (fun v a b c=>by
    obtain⟨u,Q,X,g3,_⟩:=J.rk a b c
    exact⟨u,Q,X,g3⟩) Fd (by have:s.q.idxOf to<=s.q.length:=List.idxOf_le_length;omega)
   rw[eG,<- he];exact this
  have GR: ∀(r:V) (h':ae) (g z:Nat),y<=z->(ax h' g r 3 (bj (eG P i fr to))/\z<=g/\ ∀q,q<z->h' q=h q)-> ∀m',g<=m'->ax h' m' r 3 (bj (eG P i fr to))/\nx<=m'/\ ∀q,q<nx->h' q=H q:=fun r h' g z hz ⟨p1,p2,p3⟩ m' Fm=>
   ⟨p1.le Fm,aa,fun q o=>(p3 q aa).trans (B q o)⟩
  by_cases NL:j<s.q.length
  ·obtain⟨w,Z,FP⟩:=au NL;have BF:=J.lt w FP;have HY:=aW NL;rw[show i-j=i-j-1+1 from aa,goP,Z]at N;simp only at N
   by_cases Fg:s.par.getD to (-1)= -1
   ·rw[ah Fg]at N;rcases M with⟨e,e0⟩ | ⟨kq,AT,AF,B4⟩
    ·have:s.q.length=0:=by rw[<- cB,<- aC,e0];rfl
     omega
    ·have a2:=fS (qC Z);simp -dsimp only[go_sem,seval,Cy,v1,AT,B4,aC,cB,HY,k,l,Gp,I,BL,Fg,a2];refine bf (hF _ _ w (T.keep aa B) BF) ?_;rintro r h' g ⟨hR,hn,S⟩;have w1:=hR.valOf;have K:=hR.lenS;obtain⟨pl,pt⟩:=hP w BF;simp -dsimp only[go_sem,seval,w1,K,ef]
     generalize Ov:P w=L at *
     refine aS 154742504766557346286682112 L.length (fun c f h z=>(f 57).v=vi c/\ ∃d:PS,d=(L.take c).foldl (gl w) s/\POk P fr i d j/\d.q[j]? =some w/\ax h z (f 14).v 1 (ai (qI d.q))/\h (nx+1+1)=some (.rows 1 (ai d.par) false)/\h (nx+1+3)=some (.rows 3 (bj d.ch) false)/\
      h (nx+1+4)=some (.rows 1 [[.ms (nx+1+1) 0 i]] false)/\h (nx+1+5)=some (.rows 1 [[.ms (nx+1+3) 0 i]] false)/\g<=z/\(∀q,q<nx->h q=H q)/\(∀q,q<=nx+1+5->aK (f 14).v q)/\ax h z r 4 (cA L)) rfl
      ⟨am,s,rfl,J,Z,?_,?_,?_,?_,?_,?_,?_,?_,?_⟩ ?_
     ·simp -dsimp only[go_sem,seval,AT];exact .inr ⟨kq,rfl,aa,(S kq aa).trans B4⟩
     ·exact(S _ aa).trans k
     ·exact(S _ aa).trans A
     ·exact(S _ aa).trans l
     ·exact(S _ aa).trans C
     ·first | omega | (simp -dsimp only[go_sem,seval];omega)
     ·exact fun q o=>(S q aa).trans (B q o)
     ·simp -dsimp only[go_sem,seval];exact Bn
     ·exact hR.le (by first | omega | (simp -dsimp only[go_sem,seval];omega))
     clear Bn B k A l C w1 K I Fu GR BL By B4 S;rintro c f u h z bs hc ⟨HE,d,F4,W,Cc,M,k,A,l,C,hz,B,Bn,hR⟩;have FQ:=aB c aa;have v1:=M.valOf;have v2:=M.lenS;have BL:(ai d.par).length=i:=by rw[aC];exact W.lp
     have By:(bj d.ch).length=i:=by rw[je];exact W.lc
     have AN:=(zH.1 Cc).1
     by_cases Oh:c<L.length
     ·have Ie:=aW Oh;obtain⟨e,he,Cn⟩:=au Oh;have Kw:=pt e Cn;have LG:=aW Kw
      have I:(ai d.par)[e.1]? =some [vi (d.par.getD e.1 (-1))]:=by
       have R:e.1<d.par.length:=by rw[W.lp];exact Kw
       rw[zK,zI R];exact fS (zI R)
      have D3:(L.take (c+1)).foldl (gl w) s=gl w d e:=by rw[a_ he,iD,<- F4];rfl
      rcases hR with⟨_,e0⟩ | ⟨kr,rfl,B3,U⟩
      ·have:L.length=0:=by rw[<- ef,e0];rfl
       omega
      ·have Ap:(cA L)[c]? =some [vi e.1,vi e.2.thread,vi e.2.step,vi e.2.cell]:=by rw[cA,zJ,he];rfl
       by_cases CC:d.par.getD e.1 (-1)= -1
       ·rcases M with⟨_,e0⟩ | ⟨p,Iz,HN,HM⟩
        ·have:d.q.length=0:=by rw[<- cB,<- aC,e0];rfl
         omega
        ·have a2:=fS (qC Cc);have Ba:=aW AN
         have a3:(bj d.ch)[e.1]? =some [vi (d.ch.getD e.1 ch0).thread,vi (d.ch.getD e.1 ch0).step,vi (d.ch.getD e.1 ch0).cell]:=by
          have R:e.1<d.ch.length:=by rw[W.lc];exact Kw
          rw[zK,zI R];exact vk (zI R)
         have d2:(nx+2=nx)=False:=aI aa;simp -dsimp only[go_sem,seval,HE,Ie,U,ef,Ap,k,l,LG,I,BL,CC,Iz,HM,Cy,A,C,a2,a3,aC,cB,Ba,By,d2];have kn: ∀q,q<=nx+1+5->p≠q:=fun q o e=>Bn q o 0 _ (by rw[Iz,aC,cB,e])
         have k1:p≠z+1+4+6+16+3:=aa
         have k2:=kn (nx+1+3) aa;have k3:=kn (nx+1+1) aa;have tk:List.take d.q.length (ai (qI d.q))=ai (qI d.q):=c6 (by rw[aC,cB];exact ay _);refine⟨?_,?_⟩
         ·simp only[mI,ey,qq,lz,dv,sep,AOp.looks,AOp.opds,AOp.wopd,jJ,bQ,du,fR];simp -dsimp only[go_sem,seval,V.top];simp
         ·simp -dsimp only[go_sem,seval,k1,k2,k3,tk,HM,aC,cB,ay,aU]
          generalize D:updC (updC h (nx+1+1) (some (O.rows 1 ((ai d.par).set e.1 [V.t (Rg.T.int IntKind.i64 w)]) false))) (nx+1+3) (some (O.rows 3 ((bj d.ch).set e.1 [vi e.2.thread,vi e.2.step,vi e.2.cell]) false))=h2 at *
          have g0: ∀q,q≠nx+1+1->q≠nx+1+3->h2 q=h q:=fun q q1 q2=>by rw[<- D,aq,ac q2,aq,ac q1]
          have oq:ax h2 z (.ms p 0 d.q.length) 1 (ai (qI d.q)):=.inr ⟨p,by rw[aC,cB],HN,(g0 _ k3 k2).trans HM⟩;refine ce (oq.upd aa _) aa (by rw[aC,cB];have:=W.len;omega) aG rfl (eC _) ?_;intro v' Kl IE Cv AF;have K:=IE.valOf
          have Q: ∀q,q<z->aK (.ms p 0 d.q.length) q->At (updC h2 (z+1+4+6+16+3) (some (O.rows 1 [[V.t (Rg.T.int IntKind.i64 e.1)]] false))) Kl q=h2 q:=fun q q1 q2=>by
           rw[AF q aa q2,aq,ac aa]
          have X: ∀q,q<=nx+1+5->aK (.ms p 0 d.q.length) q:=fun q o=>c8 (bX (kn q o)) _ _
          have Hz:kr≠p:=by rintro rfl;rw[U]at HM;simp at HM
          have kr1:kr≠nx+1+1:=by rintro rfl;rw[U]at k;simp at k
          have kr3:kr≠nx+1+3:=by rintro rfl;rw[U]at A;simp at A
          obtain⟨A1,A2,A3,A4⟩:=SZ W Cc (by rw[Ov];exact Cn) Kw;have LV:gl w d e=⟨d.par.set e.1 w,d.ch.set e.1 e.2,d.q++[e.1]⟩:=by rw[gl,ah CC]
          simp -dsimp only[go_sem,seval,K,HE];refine⟨aa,ak FQ,gl w d e,D3.symm,A1,A2,?_,?_,?_,?_,?_,av,?_,?_,.inr ⟨kr,rfl,av,?_⟩⟩
          ·simp -dsimp only[go_sem,seval,D];rw[LV,qI,d6,<- qI];rw[show ai (qI d.q++List.map Int.ofNat [e.1])=ai (qI d.q)++[[vi e.1]]from fB _ _];exact IE.le aa
          ·simp -dsimp only[go_sem,seval,D];rw[Q _ aa (X _ aa),<- D,aq,ac aa,aq,ah rfl,dV,LV]
          ·simp -dsimp only[go_sem,seval,D];rw[Q _ aa (X _ aa),<- D,aq,ah rfl,x7,LV]
          ·simp -dsimp only[go_sem,seval,D];rw[Q _ aa (X _ aa),g0 _ aa aa,l]
          ·simp -dsimp only[go_sem,seval,D];rw[Q _ aa (X _ aa),g0 _ aa aa,C]
          ·simp -dsimp only[go_sem,seval,D];exact fun q o=>(Q q aa (X q aa)).trans ((g0 q aa aa).trans (B q o))
          ·simp -dsimp only[go_sem,seval,D];exact fun q o=>Cv q aa
          ·simp -dsimp only[go_sem,seval,D];exact(Q kr B3 (c8 Hz _ _)).trans ((g0 kr kr1 kr3).trans U)
       ·have Ns:=aI CC;simp -dsimp only[go_sem,seval,HE,Ie,U,ef,Ap,k,l,LG,I,BL,Ns];refine⟨aa,ak FQ,d,by rw[D3,gl,ac CC],W,Cc,?_,k,A,l,C,av,B,?_,.inr ⟨kr,rfl,av,U⟩⟩
        ·simp -dsimp only[go_sem,seval];exact M.le aa
        ·simp -dsimp only[go_sem,seval];exact Bn
     ·have Ie:=aI Oh;have:c=L.length:=aa
      subst this;rw[be]at F4
      have BK:POk P fr i d (j+1):=by
       rw[F4,<- Ov];exact PR J Z (by rw[Ov];exact pt)
      rw[<- F4,show i-j-1=i-(j+1)by omega]at N;simp -dsimp only[go_sem,seval,HE,Ie,Cy];refine⟨aa,ak C9,d,BK,N,?_,k,A,l,C,av,B,?_⟩
      ·simp -dsimp only[go_sem,seval];exact M.le aa
      ·simp -dsimp only[go_sem,seval];exact Bn
   ·rw[ac Fg]at N;have Nq:=aI Fg;simp -dsimp only[go_sem,seval,Cy,v1,v2,aC,cB,HY,k,l,Gp,I,BL,Nq];refine bf (Fu _ aa N) ?_;intro r h' g Y;have w1:=Y.1.valOf;have K:=Y.1.resVal;unfold resVal at K;simp -dsimp only[go_sem,seval,w1,K];exact GR r h' g _ aa Y _ (by first | omega | (simp -dsimp only[go_sem,seval];omega))
  ·have HY:=aI NL;simp -dsimp only[go_sem,seval,Cy,v1,v2,aC,cB,HY]
   have NT:s=jU P i fr to:=by
    rw[<- N]
    cases hf:i-j with
    | zero=>rfl
    | succ f=>rw[goP,gq aa]
   refine bf (Fu _ aa NT) ?_;intro r h' g Y;have w1:=Y.1.valOf;have K:=Y.1.resVal;unfold resVal at K;simp -dsimp only[go_sem,seval,w1,K];exact GR r h' g _ aa Y _ (by first | omega | (simp -dsimp only[go_sem,seval];omega))
def eM (h:ae) (x:Nat) (v:V) (l:List Int):Prop:=
 (v= .t .nils/\l=[])\/ ∃k rs,v= .ms k 0 l.length/\k<x/\h k=some (.rows 1 rs false)/\l.length<=rs.length/\rs.take l.length=ai l
theorem eM.valOf {h:ae} {x:Nat} {v:V} {l:List Int} (o:eM h x v l):valOf v=some v:=by
 rcases o with⟨rfl,rfl⟩ | ⟨k,rs,rfl,_⟩<;>rfl
theorem eM.lenS {h:ae} {x:Nat} {v:V} {l:List Int} (o:eM h x v l):lenS h v=some l.length:=by
 rcases o with⟨rfl,rfl⟩ | ⟨k,rs,rfl,_,a,b,_⟩
 ·rfl
 ·simp[Rg.lenS,a,b]
theorem eM.keep {h h':ae} {x y:Nat} {v:V} {l:List Int} (o:eM h x v l) (e:x<=y) (d: ∀k,k<x-> ¬aK v k->h' k=h k):eM h' y v l:=by
 rcases o with⟨rfl,rfl⟩ | ⟨k,rs,rfl,a,b,c⟩
 ·exact .inl ⟨rfl,rfl⟩
 ·exact .inr ⟨k,rs,rfl,aa,(d k a fun o=>o _ _ rfl).trans b,c⟩
theorem eM.le {h:ae} {x y:Nat} {v:V} {l:List Int} (o:eM h x v l) (a:x<=y):eM h y v l:=o.keep a fun _ _ _=>rfl
def fN (f:Nat->Nat):Nat->Nat
 | 0=>0
 | n+1=>fN f n+f n
theorem ug {f g:Nat->Nat}: ∀{n:Nat},(∀v,v<n->f v=g v)->fN f n=fN g n
 | 0,_=>rfl
 | n+1,h=>by rw[fN,fN,ug fun v a=>h v aa,h n aa]
theorem xH (f:Nat->Nat) {k y:Nat}: ∀{n:Nat},k<n->fN (aV f k y) n+f k=fN f n+y
 | n+1,hk=>by
   rw[fN,fN]
   by_cases e:k=n
   ·subst e;rw[ug (g:=f) fun v a=>by rw[aV,ac aa]];rw[aV,ah rfl];omega
   ·have:=xH f (k:=k) (y:=y) (n:=n) aa;rw[show aV f k y n=f n by rw[aV,ac (bX e)]];omega
theorem SS {f:Nat->Nat} {m:Nat}: ∀n,(∀v,v<n->f v<=m)->fN f n<=m*n
 | 0,_=>pr _
 | n+1,h=>by have:=SS n fun v a=>h v aa;have:=h n aa;rw[fN,Nat.mul_succ];omega
def wgt (E:Nat->List (Nat×Choice)) (nx:Nat->Nat) (sn:Nat->Bool) (v:Nat):Nat:=(E v).length-nx v+(if sn v then 0 else 1)
def nxR (nx:Nat->Nat) (n:Nat):List (List V):=(List.range n).map fun i=>[vi (nx i)]
def dg (E:Nat->List (Nat×Choice)) (u:Nat):List Nat:=(E u).map Prod.fst
theorem kcq (nx:Nat->Nat) {n i:Nat} (h:i<n):(nxR nx n)[i]? =some [vi (nx i)]:=by
 rw[nxR,zJ,jt h];rfl
theorem om (nx:Nat->Nat) (n:Nat):(nxR nx n).length=n:=by simp[nxR]
theorem yd {α:Type} (g:Nat->α) (n u:Nat) (y:α):((List.range n).map g).set u y=(List.range n).map (aV g u y):=by
 refine p_ fun i=> ?_
 rw[cx]
 by_cases hi:i<n
 ·rw[zJ,zJ,jt hi]
  by_cases e:u=i
  ·subst e;simp[aV,hi]
  ·simp[aV,e,bX e]
 ·rw[gq (l:=(List.range n).map g) (by simp;omega),gq (by simp;omega)];split
  ·rename_i e;subst e;simp[hi]
  ·rfl
theorem kcj (nx:Nat->Nat) (n u y:Nat):(nxR nx n).set u [vi y]=nxR (aV nx u y) n:=by
 rw[nxR,yd,nxR];refine rD fun a _=> ?_
 unfold aV;split<;>rfl
theorem yi (sn:Nat->Bool) (n u:Nat) (y:Bool):(cK sn n).set u [vb y]=cK (aV sn u y) n:=by
 rw[cK,yd,cK];refine rD fun a _=> ?_
 unfold aV;split<;>rfl
theorem eM.rowsS {h:ae} {x:Nat} {v:V} {l:List Int} (o:eM h x v l):rowsS h v=some (ai l):=by
 rcases o with⟨rfl,rfl⟩ | ⟨k,rs,rfl,_,a,b,c⟩
 ·rfl
 ·simp[Rg.rowsS,a,rd,b,c]
theorem eM.upd {h:ae} {x:Nat} {v:V} {l:List Int} (o:eM h x v l) {q:Nat} (c:x<=q) (b:Option O):eM (updC h q b) (q+1) v l:=
 o.keep aa fun k a _=>by rw[aq,ac aa]
theorem Q0 {h:ae} {x q:Nat} {u:V} {a:List Int} {r:Int} {K:V->List (Nat×O)->Prop} {w:WK K}
 (o:eM h x u a) (p:x<=q) (s:a.length<2^30)
 (d: ∀v hp,eM (At h hp) (q+1) v (a++[r])->(∀j,j<x->aK v j)->(∀j,j<x->aK u j->At h hp j=h j)->K v hp):
 eE false (aY h q 1 8 u (ai a) [[vi r]]) K w:=by
 rcases o with⟨rfl,rfl⟩ | ⟨k,rs,rfl,y,m,z,A⟩
 ·refine ce (.inl ⟨rfl,rfl⟩:ax h x (.t .nils) 1 (ai [])) p (by simp[ai]) aG rfl (eC _) fun v hp l g i=>d v hp ?_ g i
  rcases l with⟨_,e⟩ | ⟨k,e,b,c⟩
  ·simp[ai]at e
  ·exact .inr ⟨k,_,by simpa[ai]using e,b,c,by simp[ai],by simp[ai]⟩
 ·unfold aY;rw[ah ⟨⟨by rw[aC];simp;omega,aG⟩,af,eC _⟩];simp only[sP,zG,aX,m,kx,aU,jC];have t:k≠q:=aa
  refine d _ _ (.inr ⟨q,_,by simp[ai],aa,by simp[cD,bE,aq];rfl,?_,?_⟩) (fun j n=>c8 aa _ _) (fun j n f=> ?_)
  ·unfold fq;split<;>simp[ai]
  ·rw[show ai (a++[r])=ai a++[[vi r]]from fB _ _];rw[show(a++[r]).length=(ai a++[[vi r]]).length by simp[ai]];unfold fq;split
   ·exact be
   ·exact List.take_left
  ·have:j≠k:=by rintro rfl;exact f _ _ rfl
   simp[cD,bE,aq,this,show j≠q by omega]
theorem Xl {α:Type} (l:List α):l=[]\/ ∃L b,l=L++[b]:=by
 rcases List.eq_nil_or_concat l with h | ⟨L,b,h⟩
 ·exact .inl h
 ·exact .inr ⟨L,b,by rw[h,List.concat_eq_append]⟩
structure DfsI (H:Nat->Option O) (x0 kN kS n:Nat) (E:Nat->List (Nat×Choice)) (ins:Nat->Bool) (vO vS:V) (h:Nat->Option O) (x i:Nat) (ord stk:List Nat) (nx:Nat->Nat) (sn:Nat->Bool) (S:Nat->Nat->Prop):Prop where
 dd:DfsSt (dg E) ins ord stk nx sn S
 sm: ∀v,v<i->ins v=true->sn v=true
 lt: ∀v,sn v=true->v<n
 oo:ax h x vO 1 (ai (qI ord))
 kk:eM h x vS (qI stk)
 e1:h kN=some (.rows 1 (nxR nx n) false)
 e2:h kS=some (.rows 1 (cK sn n) false)
 hx:x0<=kN/\kN<kS/\kS<x
 kp: ∀q,q<x0->h q=H q
 of: ∀q,q<=kS->aK vO q/\aK vS q
 off: ∀q,aK vO q\/aK vS q
theorem DfsI.le {H:ae} {l f g n:Nat} {E:Nat->List (Nat×Choice)} {a:Nat->Bool} {j k:V} {h:ae} {x y i:Nat} {b c:List Nat} {nx:Nat->Nat} {sn:Nat->Bool} {S:Nat->Nat->Prop}
 (d:DfsI H l f g n E a j k h x i b c nx sn S) (e:x<=y):DfsI H l f g n E a j k h y i b c nx sn S:=
 ⟨d.dd,d.sm,d.lt,d.oo.le e,d.kk.le e,d.e1,d.e2,by have:=d.hx;omega,d.kp,d.of,d.off⟩
theorem DfsI.mkS {H:ae} {w k l n:Nat} {E:Nat->List (Nat×Choice)} {b:Nat->Bool} {t u:V} {h:ae} {x y i s:Nat} {e o:List Nat} {nx:Nat->Nat} {sn:Nat->Bool} {S:Nat->Nat->Prop}
 (d:DfsI H w k l n E b t u h x i e o nx sn S) {f:ae} {v:V} {stk':List Nat} {c:Nat->Nat} {a:Nat->Bool} (C:DfsSt (dg E) b e stk' c a S) (G: ∀v,v<s->b v=true->a v=true) (F: ∀v,a v=true->v<n)
 (D:eM f y v (qI stk')) (p: ∀j,j<x->aK v j) (r: ∀q,q<x->aK u q->q≠k->q≠l->f q=h q) (A:f k=some (.rows 1 (nxR c n) false)) (B:f l=some (.rows 1 (cK a n) false)) (z:x<=y):
 DfsI H w k l n E b t v f y s e stk' c a S:=by
 have J:=d.hx;refine⟨C,G,F,d.oo.keep z fun q I m=> ?_,D,A,B,aa,fun q g=> ?_,fun q g=>⟨(d.of q g).1,p q aa⟩,fun q=> ?_⟩
 ·refine r q I ((d.off q).resolve_left m) ?_ ?_
  ·rintro rfl;exact m (d.of _ aa).1
  ·rintro rfl;exact m (d.of _ (ay _)).1
 ·rw[r q aa (d.of q aa).2 aa aa];exact d.kp q g
 ·by_cases g:q<x
  ·exact .inr (p q g)
  ·exact .inl (d.oo.off aa)
theorem DfsI.nxt {H:ae} {o f k n:Nat} {E:Nat->List (Nat×Choice)} {a:Nat->Bool} {l m:V} {h:ae} {x y i:Nat} {c e:List Nat} {nx:Nat->Nat} {sn:Nat->Bool} {S:Nat->Nat->Prop}
 (d:DfsI H o f k n E a l m h x i c e nx sn S) {b:Nat->Nat} (p:DfsSt (dg E) a c e b sn S) (j:x<=y):DfsI H o f k n E a l m (updC h f (some (.rows 1 (nxR b n) false))) y i c e b sn S:=by
 have t:=d.hx;refine⟨p,d.sm,d.lt,d.oo.keep j fun q s g=> ?_,d.kk.keep j fun q s g=> ?_,by rw[aq,ah rfl],by rw[aq,ac aa];exact d.e2,aa,fun q r=>by rw[aq,ac aa];exact d.kp q r,d.of,d.off⟩
 ·rw[aq,ac];rintro rfl;exact g (d.of _ aa).1
 ·rw[aq,ac];rintro rfl;exact g (d.of _ aa).2
theorem zd {E:Nat->List (Nat×Choice)} {nx:Nat->Nat} {sn:Nat->Bool} {n w:Nat} (a:w<n) (d:nx w<(E w).length):fN (wgt E (aV nx w (nx w+1)) sn) n+1=fN (wgt E nx sn) n:=by
 have b:=xH (wgt E nx sn) (k:=w) (y:=wgt E nx sn w-1) a;have c:1<=wgt E nx sn w:=by unfold wgt;omega
 rw[ug (g:=aV (wgt E nx sn) w (wgt E nx sn w-1)) fun v _=>by
  unfold aV wgt
  by_cases e:v=w
  ·subst e;simp only[aU];omega
  ·simp only[e,aX]]
 omega
theorem kbF {E:Nat->List (Nat×Choice)} {nx:Nat->Nat} {sn:Nat->Bool} {n w:Nat} (b:w<n) (a:sn w=false):fN (wgt E nx (aV sn w true)) n+1=fN (wgt E nx sn) n:=by
 have c:=xH (wgt E nx sn) (k:=w) (y:=wgt E nx sn w-1) b;have d:1<=wgt E nx sn w:=by unfold wgt;rw[a];simp
 rw[ug (g:=aV (wgt E nx sn) w (wgt E nx sn w-1)) fun v _=>by
  unfold aV wgt
  by_cases e:v=w
  ·subst e;simp[a]
  ·simp only[e,aX]]
 omega
theorem VZ {H:ae} {g kG kE kI:Nat} {vs:List V} {n:Nat} {E:Nat->List (Nat×Choice)} {l:Nat->Bool} {t:Nat} (T:GrfH H g kG kE kI vs n E l t):
 ∃r h' n',DenR Γ G 388 [.mp kG 0 0] H g=some (r,h',n')/\(∃(c:List Nat) (S:Nat->Nat->Prop),ax h' n' r 1 (ai (qI c))/\DfsOrd (EI (dg E) l) c S/\c.Nodup/\(∀v,v∈c<->v<n/\l v=true)/\g<=n'/\ ∀q,q<g->h' q=H q/\aK r q):=by
 have hg:=T.g;have he:=T.e;have Y:=T.len;have Hx:=T.nl;have E1:((n:Int)<=(n:Int)/\(n:Int)<=4294967296)=True:=aW aa;have tl:=T.lt;have g1:(kG=g+1+2+5)=False:=aI aa;have g2:(kE=g+1+2+5)=False:=aI aa;have g3:(kG=g+1+2+7+5)=False:=aI aa;have g4:(kE=g+1+2+7+5)=False:=aI aa
 refine bO (q:=?_)
 simp -dsimp only[go_sem,seval,hg,he,Y,E1,aU,g1,g2,g3,g4]
 refine aS 21267647932558653966460912964351296408 n (fun i f h x=>(f 27).v=vi i/\ ∃(c:List Nat) (nx:Nat->Nat) (sn:Nat->Bool) (S:Nat->Nat->Prop),DfsI H g (g+1+2+5) (g+1+2+7+5) n E l (f 3).v (f 4).v h x i c [] nx sn S) rfl
  ⟨am,[],fun _=>0,fun _=>false,fun _ _=>False,DfsSt.init _ _,af,af,.inl ⟨am,rfl⟩,.inl ⟨am,rfl⟩,?_,?_,av,?_,?_,?_⟩ ?_
 ·refine aA ?_;rw[ac aa];simp only[nxR,sX,p9];rfl
 ·refine aA ?_;simp only[cK,sX,p9]
 ·refine aA ?_;intro q p;rw[ac aa,ac aa]
 ·refine aA ?_;exact fun q _ i n e=>by cases e
 ·refine aA ?_;exact fun q=> .inl fun i n e=>by cases e
 rintro i f u' h x bs hi ⟨Il,c,nx,sn,S,d⟩;have hw:=aB i aa;have hx:=d.hx;have D:=T.keep (show g<=x from aa) d.kp;have K:=D.g;have te:=D.e;have ti:=D.i
 by_cases Aj:i<n
 ·have Z:=aW Aj;have a1:=mB l Aj;have a2:=mB sn Aj;have N:=d.e2;have v4:=d.kk.valOf;have dO:=d.dd;have IY: ∀sn',fN (wgt E nx sn') n<=269*n:=fun sn'=>SS n fun v o=>by unfold wgt;have:=T.small v o;split<;>omega
  have KF: ∀(c m:List Nat) (nx:Nat->Nat) (sn:Nat->Bool) (S:Nat->Nat->Prop) (vO vS:V) (h:ae) (x:Nat),DfsI H g (g+1+2+5) (g+1+2+7+5) n E l vO vS h x i c m nx sn S->(l i=true->sn i=true)->DfsI H g (g+1+2+5) (g+1+2+7+5) n E l vO vS h x (i+1) c m nx sn S:=
   fun _ _ _ _ _ _ _ _ _ d hi=>⟨d.dd,fun v o M=>by
    by_cases e:v=i
    ·rw[e]at M⊢;exact hi M
    ·exact d.sm v aa M,d.lt,d.oo,d.kk,d.e1,d.e2,d.hx,d.kp,d.of,d.off⟩
  rcases(show l i=false\/(l i=true/\sn i=true)\/(l i=true/\sn i=false)by cases l i<;>cases sn i<;>simp)with EO | ⟨EO,C6⟩ | ⟨EO,C6⟩
  case' inl=>
   refine dG Il Z K ti @fl a1 EO ?_
   refine aS 10633823966279326983228204682429072152 (269*n+1) (fun j f h x=> ∃(c m:List Nat) (nx:Nat->Nat) (sn:Nat->Bool) (S:Nat->Nat->Prop),DfsI H g (g+1+2+5) (g+1+2+7+5) n E l (f 3).v (f 4).v h x (i+1) c m nx sn S/\fN (wgt E nx sn) n+m.length+j<=269*n+1) rfl
    ⟨c,[],nx,sn,S,by simp -dsimp only[go_sem,seval];exact KF _ _ _ _ _ _ _ _ _ (d.le aa) (fun e=>by rw[EO]at e;cases e),by have:=IY sn;simp only[jQ];omega⟩ ?_
  case' inr.inl=>
   refine mP Il Z K ti @fl a1 EO N a2 C6 ?_
   refine aS 10633823966279326983228204682429072152 (269*n+1) (fun j f h x=> ∃(c m:List Nat) (nx:Nat->Nat) (sn:Nat->Bool) (S:Nat->Nat->Prop),DfsI H g (g+1+2+5) (g+1+2+7+5) n E l (f 3).v (f 4).v h x (i+1) c m nx sn S/\fN (wgt E nx sn) n+m.length+j<=269*n+1) rfl
    ⟨c,[],nx,sn,S,by simp -dsimp only[go_sem,seval];exact KF _ _ _ _ _ _ _ _ _ (d.le aa) (fun _=>C6),by have:=IY sn;simp only[jQ];omega⟩ ?_
  case' inr.inr=>
   have X:(cK sn n).set i [V.t (Rg.T.bool true)]=cK (aV sn i true) n:=yi sn n i true
   have K1:eM (updC h (g+1+2+7+5) (some (.rows 1 (cK (aV sn i true) n) false))) x (f 4).v []:=d.kk.keep (ay _) fun q _ u=>by
    have:q≠g+1+2+7+5:=by rintro rfl;exact u (d.of _ (ay _)).2
    rw[aq,ac this]
   have O1:ax (updC h (g+1+2+7+5) (some (.rows 1 (cK (aV sn i true) n) false))) x (f 3).v 1 (ai (qI c)):=d.oo.keep (ay _) fun q _ u=>by
    have:q≠g+1+2+7+5:=by rintro rfl;exact u (d.of _ (ay _)).1
    rw[aq,ac this]
   have q3:=fun b=>(K1.upd (q:=x+1+2+14+4+2) aa b).rowsS
   simp -dsimp only[go_sem,seval,Il,Z,K,ti,fl,a1,EO,N,a2,C6,v4,X,q3]
   generalize A:updC h (g+1+2+7+5) (some (.rows 1 (cK (aV sn i true) n) false))=s at *
   have g0: ∀q,q≠g+1+2+7+5->s q=h q:=fun q p=>by rw[<- A,aq,ac p]
   refine Q0 (K1.upd (q:=x+1+2+14+4+2) aa _) aa af ?_;intro v hp F U R;have W:=F.valOf
   have z: ∀q,q<x->aK (f 4).v q->At (updC s (x+1+2+14+4+2) (some (O.rows 1 [[V.t (Rg.T.int IntKind.i64 i)]] false))) hp q=s q:=fun q J u=>by
    rw[R q aa u,aq,ac aa]
   have OC:=d.dd.root EO C6;have BF:fN (wgt E nx (aV sn i true)) n+1<=269*n+1:=by have:=IY (aV sn i true);omega
   refine aJ W A ?_
   refine aS 10633823966279326983228204682429072152 (269*n+1) (fun j f h x=> ∃(c m:List Nat) (nx:Nat->Nat) (sn:Nat->Bool) (S:Nat->Nat->Prop),DfsI H g (g+1+2+5) (g+1+2+7+5) n E l (f 3).v (f 4).v h x (i+1) c m nx sn S/\fN (wgt E nx sn) n+m.length+j<=269*n+1) rfl
    ⟨c,[i],nx,aV sn i true,S,?_,BF⟩ ?_
   ·refine aw A ?_;refine d.mkS OC (fun v o M=> ?_) (fun v o=> ?_) (F.le aa) (fun q p=>U q aa) (fun q J u q3 q4=>(z q J u).trans (g0 q q4)) ?_ ?_ aa
    ·unfold aV
     by_cases e:v=i
     ·rw[ah e]
     ·rw[ac e];exact d.sm v aa M
    ·unfold aV at o
     by_cases e:v=i
     ·omega
     ·rw[ac e]at o;exact d.lt v o
    ·rw[z _ aa (d.of _ aa).2,g0 _ aa,d.e1]
    ·rw[z _ aa (d.of _ aa).2,<- A,aq,ah rfl]
  all_goals
   rintro j f u2 h x bs hj ⟨c,m,nx,sn,S,d,Gk⟩;have hx:=d.hx;have D:=T.keep (show g<=x from aa) d.kp;have K:=D.g;have te:=D.e;have ti:=D.i;have v4:=d.kk.valOf;have l4:=d.kk.lenS;rcases Xl m with rfl | ⟨stk',w,rfl⟩
   ·simp -dsimp only[go_sem,seval,v4,l4,Il,cB,jQ];exact⟨aa,ak hw,c,nx,sn,S,by simp -dsimp only[go_sem,seval];exact d.le aa⟩
   ·have CH:=nU n _ d.dd.nd fun v o=>d.lt v ((d.dd.seen v).2 (cz.1 o))
    rw[zM,zM,gp]at CH;have PU:(stk'++ [w]).length=stk'.length+1:=af
    have PT:sn w=true:=(d.dd.seen w).2 (.inr af);have C:=d.lt w PT;have L:(qI (stk'++ [w])).length=stk'.length+1:=by simp[qI]
    rcases d.kk with⟨_,e0⟩ | ⟨k,rs,B,k1,P,I,k4⟩
    ·rw[e0]at L;simp at L
    ·have GN:rs[stk'.length]? =some [vi w]:=by
      have s:(ai (qI (stk'++ [w])))[stk'.length]? =some [vi w]:=fS (qC af);rw[<- k4,List.getElem?_take_of_lt aa]at s;exact s
     rw[L]at B I l4;obtain⟨v,o,_⟩:=au (show w<vs.length by rw[T.len];exact C);have ho:=D.own w v o;have Ap:(vs.map fun v=>[v])[w]? =some [v]:=by rw[zJ,o];rfl
     have W:=ho.valOf;have w3:=ho.lenS;have E3:=aW C;have a3:=kcq nx C;have e1:=d.e1;have N:=d.e2;have p1:IntKind.i64.wrap (((stk'.length+1:Nat):Int)-1)=((stk'.length:Nat):Int):=mS aa aa;have p2:(((stk'.length+1:Nat):Int)>0)=True:=aW aa;have p3:(stk'.length<stk'.length+1)=True:=aW aa
     by_cases AC:nx w=(E w).length
     ·have LA:((nx w:Int)=((E w).length:Int))=True:=aW aa;simp -dsimp only[go_sem,seval,B,P,I,p1,p2,p3,GN,E3,e1,a3,om,K,te,Y,Ap,W,w3,ef,LA,d.oo.valOf,(fun b=>(d.oo.upd (q:=x+3+7+13+2) aa b).rowsS: ∀b,_)];refine ce (d.oo.upd (q:=x+3+7+13+2) aa _) aa (by rw[aC,cB];omega) aG rfl (eC _) ?_;intro vO hp F U R;have u1:=F.valOf;have ok:aK (f 3).v k:=(d.off k).resolve_right fun e=>e 0 _ B
      have yk:=R k aa ok;rw[aq,ac aa,P]at yk;have pS:((stk'.length:Int)<=((stk'.length+1:Nat):Int))=True:=aW aa;have pT:((stk'.length:Int)-0).toNat=stk'.length:=aa
      simp -dsimp only[go_sem,seval,u1,B,yk,I,p1,p2,p3,pS,pT,aU];obtain⟨S',Rq⟩:=d.dd.pop (by rw[AC,dg,cP])
      have z: ∀q,q<x->aK (f 3).v q->At (updC h (x+3+7+13+2) (some (O.rows 1 [[V.t (Rg.T.int IntKind.i64 w)]] false))) hp q=h q:=fun q J u=>by
       rw[R q aa u,aq,ac aa]
      refine⟨aa,c++[w],stk',nx,sn,S',?_,aa⟩;refine aA ?_;have I4: ∀q,q<=g+1+2+7+5->q≠k:=fun q p e=>(d.of q p).2 0 _ (e▸B)
      refine⟨Rq,d.sm,d.lt,?_,.inr ⟨k,rs,by rw[cB],aa,yk,by rw[cB];omega,?_⟩,?_,?_,aa,fun q p=> ?_,fun q p=>⟨U q aa,c8 (I4 q p) _ _⟩,fun q=> ?_⟩
      ·rw[qI,d6,<- qI,show ai (qI c++List.map Int.ofNat [w])=ai (qI c)++[[vi w]]from fB _ _];exact F.le aa
      ·have s:=bz (List.take stk'.length) k4;rw[List.take_take,L,jb aa,qI,d6,<- qI,show ai (qI stk'++List.map Int.ofNat [w])=ai (qI stk')++[[vi w]]from fB _ _,List.take_left' (by rw[aC,cB])]at s;rw[cB];exact s
      ·rw[z _ aa (d.of _ aa).1];exact e1
      ·rw[z _ aa (d.of _ aa).1];exact N
      ·rw[z _ aa (d.of _ aa).1];exact d.kp q p
      ·by_cases p:q<x
       ·exact .inl (U q aa)
       ·exact .inr (c8 aa _ _)
     ·have LA:((nx w:Int)=((E w).length:Int))=False:=aI aa;have A5:=d.dd.le w;have H5:(dg E w).length=(E w).length:=by rw[dg,cP]
      have GG:nx w<(E w).length:=aa
      obtain⟨y,hy,Eq⟩:=au GG;have FO:=T.to w C y Eq;have CN:=aW FO;have GF:=aW GG;have JL:(dg E w)[nx w]? =some y.1:=by rw[dg,zJ,hy];rfl
      have p4:IntKind.i64.wrap ((nx w:Int)+1)=((nx w+1:Nat):Int):=mS aa (by have:=T.small w C;omega);have Lb:(nxR nx n).set w [V.t (Rg.T.int IntKind.i64 ((nx w+1:Nat):Int))]=nxR (aV nx w (nx w+1)) n:=kcj nx n w (nx w+1);have b1:=mB l FO;have b2:=mB sn FO;rcases ho with⟨_,e0⟩ | ⟨kv,rfl,kv1,Q⟩
      ·have:(E w).length=0:=by rw[<- ef,e0];rfl
       omega
      ·have BR:(cA (E w))[nx w]? =some [vi y.1,vi y.2.thread,vi y.2.step,vi y.2.cell]:=by rw[cA,zJ,hy];rfl
       have z1:(kG=g+1+2+5)=False:=aI aa;have z2:(kI=g+1+2+5)=False:=aI aa;have z3:(g+1+2+7+5=g+1+2+5)=False:=aI aa;rcases(show l y.1=false\/(l y.1=true/\sn y.1=true)\/(l y.1=true/\sn y.1=false)by cases l y.1<;>cases sn y.1<;>simp)with JD | ⟨JD,Ki⟩ | ⟨JD,Ki⟩
       ·simp -dsimp only[go_sem,seval,B,P,I,p1,p2,p3,p4,GN,E3,e1,N,a3,om,K,te,ti,Y,Ap,W,w3,ef,LA,Q,GF,BR,CN,Lb,fl,b1,b2,JD,z1,z2,z3,om];have PH:=zd (sn:=sn) C GG;refine⟨aa,c,stk'++ [w],aV nx w (nx w+1),sn,S,by simp -dsimp only[go_sem,seval];exact d.nxt (d.dd.skip JL fun e=>by rw[JD]at e;cases e) aa,aa⟩
       ·simp -dsimp only[go_sem,seval,B,P,I,p1,p2,p3,p4,GN,E3,e1,N,a3,om,K,te,ti,Y,Ap,W,w3,ef,LA,Q,GF,BR,CN,Lb,fl,b1,b2,JD,Ki,z1,z2,z3,om];have PH:=zd (sn:=sn) C GG;refine⟨aa,c,stk'++ [w],aV nx w (nx w+1),sn,S,by simp -dsimp only[go_sem,seval];exact d.nxt (d.dd.skip JL fun _=>Ki) aa,aa⟩
       ·simp -dsimp only[go_sem,seval,B,P,I,p1,p2,p3,p4,GN,E3,e1,N,a3,om,K,te,ti,Y,Ap,W,w3,ef,LA,Q,GF,BR,CN,Lb,fl,b1,b2,JD,Ki,z1,z2,z3,om,v4];have I4: ∀q,q<=g+1+2+7+5->q≠k:=fun q p e=>(d.of q p).2 0 _ (e▸B)
        have y1:=bX (I4 (g+1+2+5) aa);have y2:=bX (I4 (g+1+2+7+5) aa);have y3:k≠x+3+7+13+15+7+14+4+2:=aa
        have X:(cK sn n).set y.1 [V.t (Rg.T.bool true)]=cK (aV sn y.1 true) n:=yi sn n y.1 true;rw[L]at k4;simp -dsimp only[go_sem,seval,y1,y2,y3,P,I,k4,X,aW I,aU]
        generalize A:updC (updC h (g+1+2+5) (some (.rows 1 (nxR (aV nx w (nx w+1)) n) false))) (g+1+2+7+5) (some (.rows 1 (cK (aV sn y.1 true) n) false))=s at *
        have g0: ∀q,q≠g+1+2+5->q≠g+1+2+7+5->s q=h q:=fun q J u=>by rw[<- A,aq,ac u,aq,ac J]
        have K1:eM s x (.ms k 0 (stk'.length+1)) (qI (stk'++ [w])):=.inr ⟨k,rs,by rw[L],k1,(g0 k y1 y2).trans P,aa,by rw[L];exact k4⟩;refine Q0 (K1.upd (q:=x+3+7+13+15+7+14+4+2) aa _) aa aa ?_;intro v' hp F U R;have w5:=F.valOf
        have z: ∀q,q<x->aK (.ms k 0 (stk'.length+1)) q->At (updC s (x+3+7+13+15+7+14+4+2) (some (O.rows 1 [[V.t (Rg.T.int IntKind.i64 y.1)]] false))) hp q=s q:=fun q J u=>by
         rw[R q aa u,aq,ac aa]
        have Cj:=zd (sn:=sn) C GG;have BO:=kbF (E:=E) (nx:=aV nx w (nx w+1)) FO Ki;refine a7 w5 X A ?_;refine⟨aa,c,stk'++ [w]++[y.1],aV nx w (nx w+1),aV sn y.1 true,S,?_,by simp only[zM,gp]at Gk⊢;omega⟩;refine aJ X A ?_
        have Ge:eM (At (updC s (x+3+7+13+15+7+14+4+2) (some (O.rows 1 [[V.t (Rg.T.int IntKind.i64 y.1)]] false))) hp) (x+3+7+13+15+7+14+4+3+1) v' (qI (stk'++ [w]++[y.1])):=by
         rw[qI,d6,<- qI];exact F
        have gk: ∀q,q<=g+1+2+7+5->aK (.ms k 0 (stk'.length+1)) q:=fun q p=>c8 (I4 q p) _ _
        refine d.mkS (d.dd.push JL JD Ki) (fun v o M=> ?_) (fun v o=> ?_) (Ge.le aa) (fun q p=>U q aa) (fun q J u q3 q4=>(z q J (by rw[<- B];exact u)).trans (g0 q q3 q4)) ?_ ?_ aa
        ·unfold aV
         by_cases e:v=y.1
         ·rw[ah e]
         ·rw[ac e];exact d.sm v o M
        ·unfold aV at o
         by_cases e:v=y.1
         ·omega
         ·rw[ac e]at o;exact d.lt v o
        ·rw[z _ aa (gk _ aa),<- A,aq,ac aa,aq,ah rfl]
        ·rw[z _ aa (gk _ aa),<- A,aq,ah rfl]
 ·have Z:=aI Aj;have:i=n:=aa
  subst this;have v1:=d.oo.valOf;have v2:=d.oo.resVal;unfold resVal at v2;refine bN Il Z v1 v2 ?_
  exact⟨c,S,d.oo.le av,d.dd.fin,al d.dd.nd,fun v=>⟨fun o=>by
   have:=(d.dd.seen v).2 (.inl o)
   exact⟨d.lt v this,d.dd.insd v this⟩,fun⟨a,b⟩=>by simpa using(d.dd.seen v).1 (d.sm v a b)⟩,av,fun q p=>⟨d.kp q p,(d.of q aa).1⟩⟩
def Mut (E:Nat->Nat->Prop) (v w:Nat):Prop:=Rch E v w/\Rch E w v
theorem Mut.symm {E:Nat->Nat->Prop} {v w:Nat} (h:Mut E v w):Mut E w v:=⟨h.2,h.1⟩
theorem Mut.trans {E:Nat->Nat->Prop} {u v w:Nat} (h:Mut E u v) (g:Mut E v w):Mut E u w:=⟨h.1.trans g.1,g.2.trans h.2⟩
structure PartC (E:Nat->Nat->Prop) (ord:List Nat) (part:Nat->Int) (m:Nat):Prop where
 ok:PartOk E ord part m
 cl: ∀v w,part v≠ -1->Mut E v w->part w=part v
 mem: ∀v,part v≠ -1->v∈ord
structure PartS (E:Nat->Nat->Prop) (ord:List Nat) (p0 part:Nat->Int) (m r:Nat) (q:List Nat) (i:Nat):Prop where
 ok:PartOk E ord part m
 mem: ∀v,part v≠ -1->v∈ord
 old: ∀v,p0 v≠ -1->part v=p0 v
 new: ∀v,p0 v= -1->part v≠ -1->part v=r/\v∈q
 root:part r=r
 pln: ∀v∈q,part v=r/\ ∃k,Pln E ord m r k v
 nd:q.Nodup
 le:i<=q.length
 don: ∀(j u:Nat),j<i->q[j]? =some u-> ∀w,E w u->part w≠ -1
theorem PartC.start {E:Nat->Nat->Prop} {b:List Nat} {part:Nat->Int} {m r:Nat} (h:PartC E b part (m+1)) (d:b[m]? =some r) (k:part r= -1):PartS E b part (aV part r r) m r [r] 0:=by
 obtain⟨g,i⟩:=h.ok.root d;have c:aV part r (r:Int) r=r:=by rw[aV,ah rfl]
 refine⟨g,fun v a=> ?_,fun v a=> ?_,fun v f a=> ?_,c,fun v a=> ?_,af,af,fun j u l=>aa⟩
 ·unfold aV at a
  by_cases e:v=r
  ·subst e;exact zL d
  ·rw[ac e]at a;exact h.mem v a
 ·unfold aV;rw[ac];rintro rfl;exact a k
 ·unfold aV at a⊢
  by_cases e:v=r
  ·subst e;simp
  ·rw[ac e]at a;exact absurd f a
 ·simp only[bB]at a;subst a;exact⟨c,0,i⟩
theorem PartS.add {E:Nat->Nat->Prop} {d:List Nat} {S:Nat->Nat->Prop} (B:DfsOrd E d S) (s:d.Nodup) {o part:Nat->Int} {m r i u w:Nat} {q:List Nat} (h:PartS E d o part m r q i) (I:u∈q) (D:E w u) (n:w∈d) (f:part w= -1):
 PartS E d o (aV part w r) m r (q++[w]) i:=by
 obtain⟨_,k,G⟩:=h.pln u I;obtain⟨z,A⟩:=h.ok.add B s G D n f;have x:w∉ q:=fun H=>by have:=(h.pln w H).1;omega
 have K:=h.le;refine⟨z,fun v c=> ?_,fun v c=> ?_,fun v y c=> ?_,?_,fun v c=> ?_,?_,by simp;omega,fun j J F g w' p=> ?_⟩
 ·unfold aV at c
  by_cases e:v=w
  ·subst e;exact n
  ·rw[ac e]at c;exact h.mem v c
 ·unfold aV;rw[ac,h.old v c];rintro rfl;rw[h.old v c]at f;exact c f
 ·unfold aV at c⊢
  by_cases e:v=w
  ·subst e;simp
  ·rw[ac e]at c⊢;obtain⟨a,b⟩:=h.new v y c;exact⟨a,by simp[b]⟩
 ·unfold aV;split
  ·rfl
  ·exact h.root
 ·rcases cz.1 c with c | c
  ·obtain⟨a,b⟩:=h.pln v c;refine⟨?_,b⟩;unfold aV;split
   ·rfl
   ·exact a
  ·simp only[bB]at c;subst c;exact⟨by rw[aV,ah rfl],_,A⟩
 ·rw[o9];exact⟨h.nd,af,fun a C b l t=>by simp only[bB]at l;subst l t;exact x C⟩
 ·rw[bU aa]at g;have:=h.don j J F g w' p;unfold aV;split
  ·omega
  ·exact this
theorem PartS.step {E:Nat->Nat->Prop} {a:List Nat} {e part:Nat->Int} {m r i u:Nat} {q:List Nat} (h:PartS E a e part m r q i) (c:q[i]? =some u) (g: ∀w,E w u->part w≠ -1):PartS E a e part m r q (i+1):=by
 refine⟨h.ok,h.mem,h.old,h.new,h.root,h.pln,h.nd,(zH.1 c).1,fun j k n b w d=> ?_⟩;rcases bw j i with f | l
 ·exact h.don j k f b w d
 ·have:j=i:=aa
  subst this;rw[c]at b;cases b;exact g w d
theorem PartS.done {E:Nat->Nat->Prop} {d:List Nat} {f part:Nat->Int} {m r:Nat} {q:List Nat} (n:PartC E d f (m+1)) (L:f r= -1) (h:PartS E d f part m r q q.length):PartC E d part m:=by
 have k: ∀x,Mut E x r->f x= -1:=fun x G=>by
  by_cases e:f x= -1
  ·exact e
  ·have:=n.cl x r e G;omega
 have i: ∀x y,Rch E x y->y=r->Rch E r x->part x=r:=by
  intro x y s
  induction s with
  | refl=>rintro rfl _;exact h.root
  | @cons a b c Ca Ps ih=>
    intro F g;subst F;have K:=ih rfl (g.snoc Ca);have t:=k b ⟨Ps,g.snoc Ca⟩;have z:=(h.new b t aa).2;obtain⟨j,o⟩:=eH z;have D:=h.don j b (zH.1 o).1 o a Ca;have u:=k a ⟨.cons Ca Ps,g⟩;exact(h.new a u D).1
 refine⟨h.ok,fun v w p l=> ?_,h.mem⟩
 by_cases e:f v= -1
 ·obtain⟨C,J⟩:=h.new v e p;obtain⟨H,I,A,B⟩:=h.ok.con v p;have:H=r:=aa
  subst this;have:=(l.symm).trans ⟨A,B⟩;rw[C];exact i w _ this.1 rfl this.2
 ·have:=n.cl v w e l;rw[h.old v e,h.old w aa,this]
theorem PartC.skip {E:Nat->Nat->Prop} {a:List Nat} {part:Nat->Int} {m r:Nat} (h:PartC E a part (m+1)) (e:a[m]? =some r) (d:part r≠ -1):PartC E a part m:=by
 refine⟨⟨h.ok.con,fun j v g b=> ?_⟩,h.cl,h.mem⟩;rcases bw m j with c | f
 ·exact h.ok.done j v c b
 ·have:j=m:=aa
  subst this;rw[e]at b;cases b;exact d
theorem PartC.init (E:Nat->Nat->Prop) (a:List Nat):PartC E a (fun _=> -1) a.length:=
 ⟨⟨fun v h=>absurd rfl h,fun j v c b=>by rw[gq c]at b;cases b⟩,fun v w h=>absurd rfl h,fun v h=>absurd rfl h⟩
theorem PartC.fin {E:Nat->Nat->Prop} {a:List Nat} {part:Nat->Int} (h:PartC E a part 0):(∀v,part v≠ -1<->v∈a)/\ ∀v w,v∈a->(part v=part w<->Mut E v w):=by
 have c: ∀v,part v≠ -1<->v∈a:=fun v=>⟨h.mem v,fun b=>by
  obtain⟨j,g⟩:=eH b
  exact h.ok.done j v (pr _) g⟩
 refine⟨c,fun v w b=>⟨fun e=> ?_,fun i=>(h.cl v w ((c v).2 b) i).symm⟩⟩;obtain⟨r,n,d,f⟩:=h.ok.con v ((c v).2 b);obtain⟨m,o,k,l⟩:=h.ok.con w (by rw[<- e];exact(c v).2 b);have:r=m:=aa
 subst this;exact Mut.trans ⟨d,f⟩ ⟨l,k⟩
structure TabB (h:Nat->Option O) (x kB:Nat) (vs:List V) (bk:List (List Nat)):Prop where
 e:h kB=some (.rows 1 (vs.map fun v=>[v]) false)
 lt:kB<x
 len:vs.length=bk.length
 own: ∀(i:Nat) (v:V) (l:List Nat),vs[i]? =some v->bk[i]? =some l->ax h x v 1 (ai (qI l))
 low: ∀(i:Nat) (v:V),vs[i]? =some v-> ∀q,q<=kB->aK v q
 off: ∀(i j:Nat) (v w:V),i≠j->vs[i]? =some v->vs[j]? =some w-> ∀k,aK v k\/aK w k
theorem TabB.keep {h h':ae} {x y e:Nat} {vs:List V} {c:List (List Nat)} (T:TabB h x e vs c) (f:x<=y) (d: ∀q,q<x->h' q=h q):TabB h' y e vs c:=
 ⟨(d _ T.lt).trans T.e,by have:=T.lt;omega,T.len,fun i v l a b=>(T.own i v l a b).keep f fun q g _=>d q g,T.low,T.off⟩
theorem TabB.set {h p:ae} {x y g u:Nat} {vs:List V} {o:List (List Nat)} {v n:V} {l':List Nat} (T:TabB h x g vs o) (A:vs[u]? =some v) (E:ax p y n 1 (ai (qI l'))) (k: ∀j,j<x->aK n j)
 (G: ∀j,j<x->aK v j->p j=h j) (D:x<=y):TabB (updC p g (some (.rows 1 ((vs.set u n).map fun v=>[v]) false))) y g (vs.set u n) (o.set u l'):=by
 have f:=(zH.1 A).1;have C:=T.lt
 have F: ∀(i:Nat) (w:V),vs[i]? =some w-> ∃l,o[i]? =some l:=fun i w a=>by
  have:=(zH.1 a).1;rw[T.len]at this;exact⟨_,zI this⟩
 have t: ∀(i:Nat) (w:V),vs[i]? =some w-> ∀q,x<=q->aK w q:=fun i w a q c=>by
  obtain⟨l,d⟩:=F i w a;exact(T.own i w l a d).off c
 refine⟨by rw[aq,ah rfl],aa,by rw[cL,cL,T.len],fun i w l a d=> ?_,fun i w a q c=> ?_,fun i j w z r a e q=> ?_⟩
 ·by_cases b:i=u
  ·subst b;rw[iz f]at a;rw[iz (by rw[<- T.len];exact f)]at d;cases a;cases d;refine E.keep (ay _) fun q B m=> ?_
   have:q≠g:=by rintro rfl;exact m (k _ C)
   rw[aq,ac this]
  ·rw[gU (bX b)]at a d;refine(T.own i w l a d).keep D fun q B m=> ?_
   have:q≠g:=by rintro rfl;exact m (T.low i w a _ (ay _))
   rw[aq,ac this];exact G q B ((T.off i u w v b a A q).resolve_left m)
 ·by_cases b:i=u
  ·subst b;rw[iz f]at a;cases a;exact k q aa
  ·rw[gU (bX b)]at a;exact T.low i w a q c
 ·by_cases b:i=u
  ·subst b;rw[iz f]at a;rw[gU r]at e;cases a
   by_cases c:q<x
   ·exact .inl (k q c)
   ·exact .inr (t j z e q aa)
  ·rw[gU (bX b)]at a
   by_cases s:j=u
   ·subst s;rw[iz f]at e;cases e
    by_cases c:q<x
    ·exact .inr (k q c)
    ·exact .inl (t i w a q aa)
   ·rw[gU (bX s)]at e;exact T.off i j w z r a e q
structure BackI (E:Nat->List (Nat×Choice)) (ins:Nat->Bool) (n i j:Nat) (bk:List (List Nat)):Prop where
 len:bk.length=n
 iff: ∀(v w:Nat) (l:List Nat),bk[v]? =some l->(w∈l<->ins w=true/\ins v=true/\((w<i/\v∈dg E w)\/(w=i/\v∈(dg E i).take j)))
 sz: ∀(v:Nat) (l:List Nat),bk[v]? =some l->l.length<=268*i+j
theorem BackI.init (E:Nat->List (Nat×Choice)) (b:Nat->Bool) (n:Nat):BackI E b n 0 0 (List.replicate n []):=
 ⟨af,fun v w l a=>by
   obtain rfl:=nj (zL a);simp,fun v l a=>by
   obtain rfl:=nj (zL a)
   simp⟩
theorem lX {α:Type} {l:List α} {j:Nat} {y v:α} (a:l[j]? =some y):v∈l.take (j+1)<->v∈l.take j\/v=y:=by
 rw[a_ a];simp
theorem BackI.skip {E:Nat->List (Nat×Choice)} {e:Nat->Bool} {n i j y:Nat} {g:List (List Nat)} (h:BackI E e n i j g) (m:(dg E i)[j]? =some y) (k: ¬(e i=true/\e y=true)):BackI E e n i (j+1) g:=by
 refine⟨h.len,fun v w l f=> ?_,fun v l f=>by have:=h.sz v l f;omega⟩;rw[h.iff v w l f,lX m];constructor
 ·rintro⟨a,b,c | ⟨c,d⟩⟩
  ·exact⟨a,b,.inl c⟩
  ·exact⟨a,b,.inr ⟨c,.inl d⟩⟩
 ·rintro⟨a,b,c | ⟨c,d | d⟩⟩
  ·exact⟨a,b,.inl c⟩
  ·exact⟨a,b,.inr ⟨c,d⟩⟩
  ·subst c d;exact absurd ⟨a,b⟩ k
theorem BackI.add {E:Nat->List (Nat×Choice)} {g:Nat->Bool} {n i j y:Nat} {m:List (List Nat)} {k:List Nat} (h:BackI E g n i j m) (s:(dg E i)[j]? =some y) (q:g i=true) (r:g y=true) (o:m[y]? =some k):
 BackI E g n i (j+1) (m.set y (k++[i])):=by
 have p:=(zH.1 o).1;refine⟨by rw[cL];exact h.len,fun v w l f=> ?_,fun v l f=> ?_⟩
 ·rw[lX s]
  by_cases e:v=y
  ·subst e;rw[iz p]at f;cases f;rw[cz,h.iff v w k o,bB];constructor
   ·rintro(⟨a,b,c | ⟨c,d⟩⟩ | rfl)
    ·exact⟨a,b,.inl c⟩
    ·exact⟨a,b,.inr ⟨c,.inl d⟩⟩
    ·exact⟨q,r,.inr ⟨rfl,.inr rfl⟩⟩
   ·rintro⟨a,b,c | ⟨c,d | d⟩⟩
    ·exact .inl ⟨a,b,.inl c⟩
    ·exact .inl ⟨a,b,.inr ⟨c,d⟩⟩
    ·exact .inr c
  ·rw[gU (bX e)]at f;rw[h.iff v w l f];constructor
   ·rintro⟨a,b,c | ⟨c,d⟩⟩
    ·exact⟨a,b,.inl c⟩
    ·exact⟨a,b,.inr ⟨c,.inl d⟩⟩
   ·rintro⟨a,b,c | ⟨c,d | d⟩⟩
    ·exact⟨a,b,.inl c⟩
    ·exact⟨a,b,.inr ⟨c,d⟩⟩
    ·exact absurd d e
 ·by_cases e:v=y
  ·subst e;rw[iz p]at f;cases f;have:=h.sz v k o;simp;omega
  ·rw[gU (bX e)]at f;have:=h.sz v l f;omega
theorem BackI.next {E:Nat->List (Nat×Choice)} {f:Nat->Bool} {n i j:Nat} {k:List (List Nat)} (h:BackI E f n i j k) (m:j=(dg E i).length) (o:j<=268):BackI E f n (i+1) 0 k:=by
 refine⟨h.len,fun v w l g=> ?_,fun v l g=>by have:=h.sz v l g;omega⟩;rw[h.iff v w l g,m,be];constructor
 ·rintro⟨a,b,c | ⟨c,d⟩⟩
  ·exact⟨a,b,.inl ⟨aa,c.2⟩⟩
  ·exact⟨a,b,.inl ⟨aa,c▸d⟩⟩
 ·rintro⟨a,b,⟨c,d⟩ | ⟨c,d⟩⟩
  ·by_cases e:w=i
   ·exact⟨a,b,.inr ⟨e,e▸d⟩⟩
   ·exact⟨a,b,.inl ⟨aa,d⟩⟩
  ·simp at d
def dN (part:Nat->Int) (n:Nat):List Int:=(List.range n).map part
theorem iF (part:Nat->Int) (n:Nat):(dN part n).length=n:=by simp[dN]
theorem sf (part:Nat->Int) {n i:Nat} (h:i<n):(dN part n)[i]? =some (part i):=by
 rw[dN,zJ,jt h];rfl
theorem M4 (part:Nat->Int) (n u:Nat) (y:Int):(dN part n).set u y=dN (aV part u y) n:=yd part n u y
theorem WU {H:ae} {A kG kE kI:Nat} {vs:List V} {n:Nat} {E:Nat->List (Nat×Choice)} {d:Nat->Bool} {t:Nat} (T:GrfH H A kG kE kI vs n E d t):
 ∃r h' n',DenR Γ G 378 [.mp kG 0 0] H A=some (r,h',n')/\(∃part:Nat->Int,ax h' n' r 1 (ai (dN part n))/\(∀v,v<n->(part v≠ -1<->d v=true))/\(∀v w,v<n->d v=true->(part v=part w<->Mut (EI (dg E) d) v w))/\A<=n'/\ ∀q,q<A->h' q=H q):=by
 have hg:=T.g;have he:=T.e;have BX:=T.len;have Hx:=T.nl;have E1:((n:Int)<=(n:Int)/\(n:Int)<=4294967296)=True:=aW aa;have tl:=T.lt;have c1: ∀a,(kG=A+a)=False:=fun a=>aI aa
 have c2: ∀a,(kE=A+a)=False:=fun a=>aI aa
 have g1:(kG=A+1+5)=False:=aI aa;have g2:(kE=A+1+5)=False:=aI aa
 refine bO (q:=?_)
 simp -dsimp only[go_sem,seval,hg,he,BX,E1,aU,g1,g2]
 refine aS 1180591620717142868144 n (fun i f h x=>(f 28).v=vi i/\(∃vb C,TabB h x (A+1+5) vb C/\BackI E d n i 0 C)/\ ∀q,q<A->h q=H q) rfl
  ⟨am,⟨List.replicate n (.t .nils),List.replicate n [],⟨?_,?_,af,fun i v l k hl=> ?_,fun i v k q _=> ?_,fun i j v w _ k I q=> ?_⟩,BackI.init E d n⟩,fun q p=> ?_⟩ ?_
 ·simp -dsimp only[go_sem,seval,List.map_replicate]
 ·refine aA ?_;omega
 ·obtain rfl:=nj (zL k);obtain rfl:=nj (zL hl);exact .inl ⟨rfl,rfl⟩
 ·obtain rfl:=nj (zL k);exact fun i n e=>by cases e
 ·obtain rfl:=nj (zL k);exact .inl fun i n e=>by cases e
 ·refine aA ?_;rw[ac aa]
 rintro i f u' h x bs hi ⟨K5,⟨vb,C,o,s⟩,L⟩;have I:=aB i aa;have hx:=o.lt;have M:=T.keep (show A<=x from aa) L
 by_cases Aj:i<n
 ·have Bq:=aW Aj;obtain⟨v,k,_⟩:=au (show i<vs.length by rw[T.len];exact Aj);have ho:=M.own i v k;have Ap:(vs.map fun v=>[v])[i]? =some [v]:=by rw[zJ,k];rfl
  have w1:=ho.valOf;have w3:=ho.lenS;have te:=M.e;have F3:=T.small i Aj;refine dG K5 Bq te Ap w1 w3 @ef ?_
  refine aS 590295810324345913472 (E i).length (fun j f h x=>(f 35).v=vi j/\(∃vb C,TabB h x (A+1+5) vb C/\BackI E d n i j C)/\ ∀q,q<A->h q=H q) rfl
   ⟨am,⟨vb,C,o.keep av fun q _=>rfl,s⟩,L⟩ ?_
  clear M o s L hx te;rintro j f u' h x bs hj ⟨Mh,⟨vb,C,o,s⟩,L⟩;have C9:=aB j aa;have hx:=o.lt;have M:=T.keep (show A<=x from aa) L;have tg:=M.g;have ti:=M.i;have H5:(dg E i).length=(E i).length:=by rw[dg,cP]
  by_cases AN:j<(E i).length
  ·have Ba:=aW AN;obtain⟨y,J,Eq⟩:=au AN;have FO:=T.to i Aj y Eq;have CN:=aW FO;have JL:(dg E i)[j]? =some y.1:=by rw[dg,zJ,J];rfl
   have b1:=mB d FO;have b2:=mB d Aj;rcases M.own i v k with⟨_,e0⟩ | ⟨kv,rfl,kv1,kv2⟩
   ·have:(E i).length=0:=by rw[<- ef,e0];rfl
    omega
   ·have BR:(cA (E i))[j]? =some [vi y.1,vi y.2.thread,vi y.2.step,vi y.2.cell]:=by rw[cA,zJ,J];rfl
    by_cases Ft:d i=true/\d y.1=true
    ·obtain⟨N,h2⟩:=Ft;have H8:y.1<vb.length:=by rw[o.len,s.len];exact FO
     obtain⟨vy,IR,_⟩:=au H8;obtain⟨ly,N6,_⟩:=au (show y.1<C.length by rw[s.len];exact FO);have HQ:=o.own y.1 vy ly IR N6;have Hc:(vb.map fun v=>[v])[y.1]? =some [vy]:=by rw[zJ,IR];rfl
     have Fv:=o.e;have x1:=HQ.valOf;simp -dsimp only[go_sem,seval,Mh,Ba,kv2,ef,BR,tg,ti,fl,CN,Bq,b1,b2,N,h2,Fv,Hc,x1,K5,(fun b=>(HQ.upd (q:=x+1+4+17+9) aa b).rowsS: ∀b,_)];refine ce (HQ.upd (q:=x+1+4+17+9) aa _) aa (by rw[aC,cB];have:=s.sz y.1 ly N6;omega) aG rfl (eC _) ?_;intro v' hp P Cv Z;have x2:=P.valOf;have x3:=P.cellsV;unfold V.cells at x3;have yB:=Z (A+1+5) aa (o.low y.1 vy IR _ (ay _));rw[aq,ac aa,Fv]at yB;simp -dsimp only[go_sem,seval,x2,x3,yB,CN,Mh,IR,cZ]
     have Ge:ax (At (updC h (x+1+4+17+9) (some (O.rows 1 [[V.t (Rg.T.int IntKind.i64 i)]] false))) hp) (x+1+4+17+9+1+1) v' 1 (ai (qI (ly++[i]))):=by
      rw[qI,d6,<- qI,show ai (qI ly++List.map Int.ofNat [i])=ai (qI ly)++[[vi i]]from fB _ _];exact P
     have hS:=o.set IR Ge (fun q p=>Cv q aa) (fun q p Nm=>by rw[Z q aa Nm,aq,ac aa]) aa;rw[o8]at hS;refine⟨aa,ak C9,⟨vb.set y.1 v',C.set y.1 (ly++[i]),?_,s.add JL N h2 N6⟩,fun q p=> ?_⟩
     ·refine aA ?_;exact hS.keep aa fun q _=>rfl
     ·refine aA ?_;rw[ac aa,Z q aa (o.low y.1 vy IR q aa),aq,ac aa];exact L q p
    ·by_cases N:d i=true
     ·have h2:d y.1=false:=by
       cases h2:d y.1
       ·rfl
       ·exact absurd ⟨N,h2⟩ Ft
      simp -dsimp only[go_sem,seval,Mh,Ba,kv2,ef,BR,tg,ti,fl,CN,Bq,b1,b2,N,h2,K5];exact⟨aa,ak C9,⟨vb,C,o.keep av fun q _=>rfl,s.skip JL Ft⟩,L⟩
     ·have HF:d i=false:=al N
      simp -dsimp only[go_sem,seval,Mh,Ba,kv2,ef,BR,tg,ti,fl,CN,Bq,b1,b2,HF,K5];exact⟨aa,ak C9,⟨vb,C,o.keep av fun q _=>rfl,s.skip JL Ft⟩,L⟩
  ·have Ba:=aI AN;have:j=(E i).length:=aa
   refine a7 Mh Ba K5 ?_;exact⟨aa,ak I,⟨vb,C,o.keep av fun q _=>rfl,s.next aa aa⟩,L⟩
 ·have Bq:=aI Aj;have:n=i:=aa
  subst this;have tg:=M.g;have te:=M.e;have g3:(kG=x+1+5)=False:=aI aa;have g4:(kE=x+1+5)=False:=aI aa;simp -dsimp only[go_sem,seval,K5,Bq,tg,te,BX,E1,aU,g3,g4]
  refine aS 38383394772764476296921600 n (fun c f h' y=>(f 78).v=vi c/\h' (x+1+5)=some (.rows 1 (ai (List.replicate c (-1)++List.replicate (n-c) 0)) false)/\x+1+5<y/\ ∀q,q<x->h' q=h q) rfl
   ⟨am,bg @tp @up,av,fun q p=>by simp -dsimp only[go_sem,seval];rw[ac aa]⟩ ?_
  rintro c f u' h' y bs hc ⟨Pw,e1,J,AT⟩;have FQ:=aB c aa
  by_cases E0:c<n
  ·have Em:=aW E0;have a1:=fS (Ta n c E0);have st:=Sv n c E0;have ln:(List.replicate c (-1:Int)++List.replicate (n-c) 0).length=n:=by simp;omega
   refine de Pw Em e1 a1 @aC ln ?_;refine⟨aa,ak FQ,?_,av,fun q p=> ?_⟩
   ·refine aA ?_;rw[dV,st]
   ·refine aA ?_;rw[ac aa];exact AT q p
  ·have Em:=aI E0;have:n=c:=aa
   subst this;rw[dI,s7,bW,show List.replicate n (-1:Int)=dN (fun _=> -1) n by simp[dN,sX]]at e1;refine aJ Pw Em ?_;refine bf (VZ (M.keep aa AT)) ?_;rintro r h2 n2 ⟨g,S,hO,hF,Bt,Ce,Fh,Z⟩;have v1:=hO.valOf;refine aw v1 ?_;have Mq:=nU n g Bt fun v k=>((Ce v).1 k).1
   refine bf (ka2 (hO.le aa) (by rw[cB];omega)) ?_;rintro r2 h3 W ⟨Hl,N1,B4⟩;have v2:=Hl.valOf;have l2:=Hl.lenS;simp -dsimp only[go_sem,seval,v2,l2,aC,cB,nH];have Aq: ∀q,q<x+1+5+1->h3 q=h' q:=fun q p=>(B4 q aa (Z q aa).2).trans (Z q aa).1
   have Mb: ∀hz z,x<=z->(∀q,q<W->q≠x+1+5->hz q=h3 q)->TabB hz z (A+1+5) vb C:=fun hz z Py p=>o.keep Py fun q PY=>by
    rw[p q aa aa,Aq q aa,AT q PY]
   have Mp: ∀v,v∈g->v<n:=fun v k=>((Ce v).1 k).1
   have B1: ∀q,q<x+1+5+1->aK r q:=fun q p=>(Z q aa).2
   refine aS 696898287454079497292912625259711498907648 g.length (fun j f hz z=>(f 91).v=vi j/\ ∃part:Nat->Int,PartC (EI (dg E) d) g part (g.length-j)/\hz (x+1+5)=some (.rows 1 (ai (dN part n)) false)/\W<=z/\ ∀q,q<W->q≠x+1+5->hz q=h3 q) rfl
    ⟨am,fun _=> -1,PartC.init _ _,by rw[Aq _ aa,e1],by first | omega | (refine aA ?_;omega),fun q _ _=>rfl⟩ ?_
   rintro j f u' hz z bs hj ⟨MB,part,P,D,Rv,B⟩;have C9:=aB j aa
   by_cases FB:j<g.length
   ·have HZ:=aW FB;obtain⟨m,hm⟩: ∃m,m=g.length-1-j:=⟨_,rfl⟩
    obtain⟨root,DM,PX⟩:=au (show m<g.length from aa);have EA:=Mp root PX;have KI:=aW EA;rw[show g.length-j=m+1 by omega]at P
    have a1:(ai (qI g).reverse)[j]? =some [vi root]:=fS (by
     rw[HA (by rw[cB];exact FB),cB,<- hm]
     exact qC DM)
    have a2:(ai (dN part n))[root]? =some [vi (part root)]:=fS (sf part EA);have lp:(ai (dN part n)).length=n:=by rw[aC,iF]
    rcases Hl with⟨_,e0⟩ | ⟨ko,hr,KZ,KY⟩
    ·have:g.length=0:=by rw[<- cB,<- nH,<- aC,e0];rfl
     omega
    ·have J4:ko≠x+1+5:=fun e=>B1 _ aa 0 _ (e▸hr)
     have Nz:=(B ko KZ J4).trans KY;rw[aC,nH,cB]at hr
     by_cases BH:part root= -1
     ·have AE:=P.start DM BH;have X:(ai (dN part n)).set root [V.t (Rg.T.int IntKind.i64 root)]=ai (dN (aV part root root) n):=by rw[dV,M4]
      simp -dsimp only[go_sem,seval,MB,HZ,hr,Nz,aC,nH,cB,a1,D,a2,lp,iF,KI,BH,X]
      refine aS 348449143645911348171888916314341643476992 n (fun i f Fb z2=>(f 14).v=vi i/\ ∃(part2:Nat->Int) (q:List Nat),PartS (EI (dg E) d) g part part2 m root q i/\ax Fb z2 (f 13).v 1 (ai (qI q))/\Fb (x+1+5)=some (.rows 1 (ai (dN part2 n)) false)/\W<=z2/\(∀q,q<W->q≠x+1+5->Fb q=h3 q)/\ ∀q,q<W->aK (f 13).v q) rfl
       ⟨am,aV part root root,[root],AE,?_,?_,?_,?_,?_⟩ ?_
      ·refine aA ?_;refine .inr ⟨_,rfl,?_,?_⟩
       ·first | omega | (simp -dsimp only[go_sem,seval];omega)
       ·refine aA ?_;rfl
      ·refine aA ?_;rw[ac aa]
      ·refine aA ?_;omega
      ·intro q p Az;refine aw Az ?_;rw[ac aa];exact B q p Az
      ·intro q p;refine aA ?_;exact c8 aa _ _
      clear B D Nz AE X a2 lp;rintro i f u' Fb z2 bs hi ⟨C0,part2,q,R,Y,D,P2,B,Jm⟩;have BF:=aB i aa;have Ed:=nU n q R.nd fun v k=>Mp v (R.mem v (by rw[(R.pln v k).1];omega))
      have Hn:=Mb Fb z2 aa B;have v1:=Y.valOf;have l1:=Y.lenS
      by_cases L4:i<q.length
      ·have JE:=aW L4;obtain⟨u,U,PL⟩:=au L4;have MU:=Mp u (R.mem u (by rw[(R.pln u PL).1];omega));have MT:=aW MU;rcases Y with⟨_,e0⟩ | ⟨kq,Iz,HN,HM⟩
       ·have:q.length=0:=by rw[<- cB,<- aC,e0];rfl
        omega
       ·rw[aC,cB]at Iz;have a3:=fS (qC U);obtain⟨vu,Ir,_⟩:=au (show u<vb.length by rw[o.len,s.len];exact MU);obtain⟨Q,Lm,_⟩:=au (show u<C.length by rw[s.len];exact MU);have Mq:=Hn.own u vu Q Ir Lm;have Hc:(vb.map fun v=>[v])[u]? =some [vu]:=by rw[zJ,Ir];rfl
        have Fv:=Hn.e;have x1:=Mq.valOf;have x2:=Mq.lenS;have E6:vb.length=n:=by rw[o.len,s.len]
        simp -dsimp only[go_sem,seval,C0,Iz,HM,JE,a3,aC,cB,Fv,Hc,x1,x2,MT,E6];have Qv:=s.sz u Q Lm
        refine aS 348447814499045201670622694203070368260096 Q.length (fun c f J K=>(f 120).v=vi c/\ ∃(part3:Nat->Int) (F:List Nat),PartS (EI (dg E) d) g part part3 m root F i/\F[i]? =some u/\(∀w∈Q.take c,part3 w≠ -1)/\ax J K (f 13).v 1 (ai (qI F))/\J (x+1+5)=some (.rows 1 (ai (dN part3 n)) false)/\W<=K/\(∀q,q<W->q≠x+1+5->J q=h3 q)/\ ∀q,q<W->aK (f 13).v q) rfl
         ⟨am,part2,q,R,U,af,?_,D,av,B,?_⟩ ?_
        ·refine aw Iz ?_;exact .inr ⟨kq,by rw[aC,cB],aa,HM⟩
        ·refine aA ?_;exact Jm
        clear B D HM Jm Hn Fv Mq R U a3 v1 l1;rintro c f u' J K bs hc ⟨Im,part3,F,ID,U,DQ,Y,D,Rx,B,Jm⟩;have FQ:=aB c aa
        by_cases By:c<Q.length
        ·have FF:=aW By;obtain⟨w,I,FP⟩:=au By;obtain⟨B8,Cq,C8⟩:=(s.iff u w Q Lm).1 FP
         have Mm:w<n/\u∈dg E w:=by
          rcases C8 with a | ⟨_,b⟩
          ·exact a
          ·simp at b
         have E3:=aW Mm.1;have a4:(ai (dN part3 n))[w]? =some [vi (part3 w)]:=fS (sf part3 Mm.1);have lp3:(ai (dN part3 n)).length=n:=by rw[aC,iF]
         rcases(Mb J K aa B).own u vu Q Ir Lm with⟨_,e0⟩ | ⟨kl,AO,C7,D9⟩
         ·have:Q.length=0:=by rw[<- cB,<- aC,e0];rfl
          omega
         ·rw[aC,cB]at AO;have a5:=fS (qC I);have v1:=Y.valOf
          by_cases Kk:part3 w= -1
          ·have X:(ai (dN part3 n)).set w [V.t (Rg.T.int IntKind.i64 root)]=ai (dN (aV part3 w root) n):=by rw[dV,M4]
           have okp:aK (f 13).v (x+1+5):=Jm _ aa
           have Q1:ax (updC J (x+1+5) (some (.rows 1 (ai (dN (aV part3 w root) n)) false))) K (f 13).v 1 (ai (qI F)):=Y.keep (ay _) fun q _ q2=>by
            rw[aq,ac];rintro rfl;exact q2 okp
           have Qd:=nU n F ID.nd fun v k=>Mp v (ID.mem v (by rw[(ID.pln v k).1];omega))
           simp -dsimp only[go_sem,seval,Im,FF,AO,D9,aC,cB,a5,D,a4,lp3,iF,E3,Kk,X,v1,(fun b=>(Q1.upd (q:=K+1+3+5+5+2) aa b).rowsS: ∀b,_)]
           generalize DC:updC J (x+1+5) (some (.rows 1 (ai (dN (aV part3 w root) n)) false))=N at *
           refine ce (Q1.upd (q:=K+1+3+5+5+2) aa _) aa (by rw[aC,cB];omega) aG rfl (eC _) ?_;intro v' hp IE Cv HX;have x5:=IE.valOf
           have g5: ∀q,q<K->aK (f 13).v q->At (updC N (K+1+3+5+5+2) (some (O.rows 1 [[V.t (Rg.T.int IntKind.i64 w)]] false))) hp q=N q:=fun q q1 q2=>by
            rw[HX q aa q2,aq,ac aa]
           have Ge:ax (At (updC N (K+1+3+5+5+2) (some (O.rows 1 [[V.t (Rg.T.int IntKind.i64 w)]] false))) hp) (K+1+3+5+5+3+1) v' 1 (ai (qI (F++[w]))):=by
            rw[qI,d6,<- qI,show ai (qI F++List.map Int.ofNat [w])=ai (qI F)++[[vi w]]from fB _ _];exact IE
           have AV:=(zH.1 U).1;refine bN x5 Im X DC ?_;refine⟨aa,ak FQ,aV part3 w root,F++[w],ID.add hF Bt (zL U) ⟨B8,Cq,Mm.2⟩ ((Ce w).2 ⟨Mm.1,B8⟩) Kk,by rw[bU AV];exact U,fun v k=> ?_,?_,?_,av,?_,?_⟩
           ·unfold aV
            by_cases e:v=w
            ·rw[ah e];omega
            ·rw[ac e];rcases(lX I).1 k with k | k
             ·exact DQ v k
             ·exact absurd k e
           ·refine aJ X DC ?_;exact Ge.le aa
           ·refine aJ X DC ?_;rw[g5 _ aa okp,<- DC,aq,ah rfl]
           ·refine aJ X DC ?_;intro q q1 q2;rw[g5 q aa (Jm q q1),<- DC,aq,ac q2];exact B q q1 q2
           ·refine aA ?_;exact fun q p=>Cv q aa
          ·have Np:=aI Kk;simp -dsimp only[go_sem,seval,Im,FF,AO,D9,aC,cB,a5,D,a4,lp3,iF,E3,Np];refine⟨aa,ak FQ,part3,F,ID,U,fun v k=> ?_,?_,D,av,B,?_⟩
           ·rcases(lX I).1 k with k | rfl
            ·exact DQ v k
            ·exact Kk
           ·refine aA ?_;exact Y.le aa
           ·refine aA ?_;exact Jm
        ·have FF:=aI By;have:c=Q.length:=aa
         subst this;rw[be]at DQ;refine a7 Im FF C0 ?_;refine⟨aa,ak BF,part3,F,ID.step U fun w I=>DQ w ((s.iff u w Q Lm).2 ⟨I.1,I.2.1,.inl ⟨T.insn w I.1,I.2.2⟩⟩),?_,D,av,B,?_⟩
         ·refine aA ?_;exact Y.le aa
         ·refine aA ?_;exact Jm
      ·have JE:=aI L4;have A5:=R.le;have:i=q.length:=aa
       subst this;refine dG C0 v1 l1 @aC @cB JE MB ?_;refine⟨aa,ak C9,part2,?_,D,av,B⟩;rw[show g.length-(j+1)=m by omega];exact R.done P BH
     ·have Nr:=aI BH;simp -dsimp only[go_sem,seval,MB,HZ,hr,Nz,aC,nH,cB,a1,D,a2,lp,iF,KI,Nr];refine⟨aa,ak C9,part,?_,D,av,B⟩;rw[show g.length-(j+1)=m by omega];exact P.skip DM BH
   ·have HZ:=aI FB;have:j=g.length:=aa
    subst this;rw[dI]at P;have hf:=P.fin;refine aJ MB HZ ?_
    exact⟨part,.inr ⟨x+1+5,by rw[aC,iF];rfl,av,D⟩,fun v k=>(hf.1 v).trans ⟨fun h=>((Ce v).1 h).2,fun h=>(Ce v).2 ⟨k,h⟩⟩,fun v w k GO=>hf.2 v w ((Ce v).2 ⟨k,GO⟩),av,fun q p=>by
     rw[B q aa aa,Aq q aa,AT q aa,L q p]⟩
def i6 (l:List Int):List (T×V):=l.map fun k=>(ti k,vb true)
theorem yw (b:Int): ∀l:List Int,dK (ti b) (i6 l)=some (if b∈l then some (vb true)else none)
 | []=>by simp[i6,dK]
 | a::l=>by
   rw[i6,aT,dK,eX,ah rfl]
   by_cases h:b=a
   ·subst h;simp
   ·have:(b==a)=false:=al h
    rw[this];simp only[];rw[show(l.map fun k=>(ti k,vb true))=i6 l from rfl,yw b l];simp[h]
theorem Tt (b:Int): ∀l:List Int,da (ti b) (vb true) (i6 l)=some (i6 (if b∈l then l else l++[b]))
 | []=>by simp[i6,da]
 | a::l=>by
   rw[i6,aT,da,eX,ah rfl]
   by_cases h:b=a
   ·subst h;simp[i6]
   ·have:(b==a)=false:=al h
    rw[this];simp only[];rw[show(l.map fun k=>(ti k,vb true))=i6 l from rfl,Tt b l]
    by_cases c:b∈l<;>simp[h,c,i6]
def MvE (E:Nat->List (Nat×Choice)) (t:Nat) (part:Nat->Int) (u:Nat) (e:Nat×Choice) (k:Int):Prop:=part u≠ -1/\part u=part e.1/\bH t e.2=true/\k=part u
def MvK (E:Nat->List (Nat×Choice)) (t:Nat) (part:Nat->Int) (i j:Nat) (k:Int):Prop:= ∃u e,((u<i/\e∈E u)\/(u=i/\e∈(E i).take j))/\MvE E t part u e k
theorem MvK.skip {E:Nat->List (Nat×Choice)} {t:Nat} {part:Nat->Int} {i j:Nat} {k:Int} {y:Nat×Choice} (b:(E i)[j]? =some y) (c: ¬MvE E t part i y k):MvK E t part i (j+1) k<->MvK E t part i j k:=by
 constructor
 ·rintro⟨u,e,h | ⟨rfl,h⟩,a⟩
  ·exact⟨u,e,.inl h,a⟩
  ·rcases(lX b).1 h with h | rfl
   ·exact⟨u,e,.inr ⟨rfl,h⟩,a⟩
   ·exact absurd a c
 ·rintro⟨u,e,h | ⟨rfl,h⟩,a⟩
  ·exact⟨u,e,.inl h,a⟩
  ·exact⟨u,e,.inr ⟨rfl,(lX b).2 (.inl h)⟩,a⟩
theorem MvK.next {E:Nat->List (Nat×Choice)} {t:Nat} {part:Nat->Int} {i:Nat} {k:Int}:MvK E t part (i+1) 0 k<->MvK E t part i (E i).length k:=by
 constructor
 ·rintro⟨u,e,⟨c,b⟩ | ⟨_,h⟩,a⟩
  ·by_cases d:u=i
   ·subst d;exact⟨u,e,.inr ⟨rfl,by rw[be];exact b⟩,a⟩
   ·exact⟨u,e,.inl ⟨aa,b⟩,a⟩
  ·simp at h
 ·rintro⟨u,e,⟨c,b⟩ | ⟨rfl,h⟩,a⟩
  ·exact⟨u,e,.inl ⟨aa,b⟩,a⟩
  ·rw[be]at h;exact⟨u,e,.inl ⟨aa,h⟩,a⟩
def Cyc (E:Nat->List (Nat×Choice)) (a:Nat->Bool) (t i:Nat):Prop:=a i=true/\ ∃u e,e∈E u/\a u=true/\a e.1=true/\bH t e.2=true/\Mut (EI (dg E) a) u e.1/\Mut (EI (dg E) a) u i
theorem W0 {H:ae} {x0 kG kE kI:Nat} {vs:List V} {n:Nat} {E:Nat->List (Nat×Choice)} {N:Nat->Bool} {t:Nat} (T:GrfH H x0 kG kE kI vs n E N t):
 ∃r h' n',DenR Γ G 362 [.mp kG 0 0] H x0=some (r,h',n')/\(∃good:Nat->Bool,ax h' n' r 1 (cK good n)/\(∀i,i<n->(good i=true<->Cyc E N t i))/\x0<=n'/\ ∀q,q<x0->h' q=H q):=by
 have BX:=T.len;have Hx:=T.nl;have E1:((n:Int)<=(n:Int)/\(n:Int)<=4294967296)=True:=aW aa
 refine bO (q:=aA ?_);refine bf (WU (T.keep aa fun q _=>rfl)) ?_;rintro r w o ⟨part,hO,DN,D0,Fj,AT⟩;have v1:=hO.valOf;have T1:=T.keep (show x0<=o from aa) fun q B=>AT q aa
 have tl:=T.lt;have tg:=T1.g;have te:=T1.e;have g1:(kG=o+0)=False:=aI aa;have g2:(kE=o+0)=False:=aI aa;refine de v1 tg te BX g1 g2 ?_
 refine aS 1152921504606323040 n (fun i f I z=>(f 19).v=vi i/\ ∃K:List Int,I (o+0)=some (.map (i6 K))/\(∀k,k∈K<->MvK E t part i 0 k)/\o<z/\ ∀q,q<o->I q=w q) rfl
  ⟨am,[],by simp -dsimp only[go_sem,seval];rfl,fun k=>⟨fun h=>absurd h ki,fun⟨u,e,h,_⟩=>by rcases h with⟨h,_⟩ | ⟨_,h⟩<;>simp at h⟩,av,fun q B=>by simp -dsimp only[go_sem,seval];rw[ac aa]⟩ ?_
 rintro i f u' I z bs hi ⟨EZ,K,A,x,FM,m⟩;have BF:=aB i aa;have D:=T1.keep (show o<=z from aa) m;have d:(ai (dN part n)).length=n:=by rw[aC,iF]
 by_cases S:i<n
 ·have J:=aW S;obtain⟨v,hv,_⟩:=au (show i<vs.length by rw[T.len];exact S);have ho:=D.own i v hv;have Ap:(vs.map fun v=>[v])[i]? =some [v]:=by rw[zJ,hv];rfl
  have w1:=ho.valOf;have w3:=ho.lenS;have C:=D.e;have F3:=T.small i S;have L:(ai (dN part n))[i]? =some [vi (part i)]:=fS (sf part S);refine dG EZ J C Ap w1 w3 @ef ?_
  refine aS 576460752236314880 (E i).length (fun j f I z=>(f 26).v=vi j/\ ∃K:List Int,I (o+0)=some (.map (i6 K))/\(∀k,k∈K<->MvK E t part i j k)/\o<z/\ ∀q,q<o->I q=w q) rfl
   ⟨am,K,A,x,av,m⟩ ?_
  clear D A x m C ho w1 w3 K FM;rintro j f u' I z bs hj ⟨U,K,A,x,FM,m⟩;have C9:=aB j aa;have D:=T1.keep (show o<=z from aa) m
  by_cases AN:j<(E i).length
  ·have W:=aW AN;obtain⟨y,s,Eq⟩:=au AN;have FO:=T.to i S y Eq;have CN:=aW FO;have b2:(ai (dN part n))[y.1]? =some [vi (part y.1)]:=fS (sf part FO);rcases D.own i v hv with⟨_,Z⟩ | ⟨kv,rfl,kv1,R⟩
   ·have:(E i).length=0:=by rw[<- ef,Z];rfl
    omega
   ·rcases hO with⟨_,Z⟩ | ⟨kp,hr,P,Q⟩
    ·have:n=0:=by rw[<- d,Z];rfl
     omega
    ·rw[d]at hr;subst hr;have l:=(m kp P).trans Q;have BR:(cA (E i))[j]? =some [vi y.1,vi y.2.thread,vi y.2.step,vi y.2.cell]:=by rw[cA,zJ,s];rfl
     by_cases c1:part i= -1
     ·refine nK U W R @ef BR l d @iF J L c1 ?_;exact⟨aa,ak C9,K,A,fun k=>(x k).trans (MvK.skip s fun h=>h.1 c1).symm,av,m⟩
     ·have Y:=aI c1
      by_cases c2:part i=part y.1
      ·have M:=aW c2;simp -dsimp only[go_sem,seval,U,W,R,ef,BR,l,d,iF,J,CN,L,b2,Y,M];refine bf (M' (D.keep aa fun q _=>rfl) y.2) ?_;rintro r F n2 ⟨rfl,rfl,Fh⟩;cases Ab:bH t y.2
       ·refine aw U ?_;exact⟨aa,ak C9,K,A,fun k=>(x k).trans (MvK.skip s fun h=>by rw[h.2.2.1]at Ab;cases Ab).symm,av,m⟩
       ·refine qY U A l d @iF J L @Tt ?_;refine⟨aa,ak C9,if part i∈K then K else K++[part i],am,fun k=> ?_,av,fun q B=>by simp -dsimp only[go_sem,seval];rw[ac aa];exact m q B⟩;have B2:MvK E t part i (j+1) (part i):=⟨i,y,.inr ⟨rfl,(lX s).2 (.inr rfl)⟩,c1,c2,Ab,rfl⟩
        have Bc: ∀k,MvK E t part i j k->MvK E t part i (j+1) k:=fun k ⟨u,e,h,hm⟩=>⟨u,e,h.imp id fun⟨a,b⟩=>⟨a,(lX s).2 (.inl b)⟩,hm⟩
        by_cases hk:k=part i
        ·subst hk;refine⟨fun _=>B2,fun _=> ?_⟩;split
         ·assumption
         ·simp
        ·have w:k∈(if part i∈K then K else K++[part i])<->k∈K:=by
          split
          ·rfl
          ·simp[hk]
         rw[w,x k];exact(MvK.skip s fun h=>hk h.2.2.2).symm
      ·have M:=aI c2;simp -dsimp only[go_sem,seval,U,W,R,ef,BR,l,d,iF,J,CN,L,b2,Y,M];exact⟨aa,ak C9,K,A,fun k=>(x k).trans (MvK.skip s fun h=>c2 h.2.1).symm,av,m⟩
  ·have W:=aI AN;have:j=(E i).length:=aa
   subst this;refine a7 U W EZ ?_;exact⟨aa,ak BF,K,A,fun k=>(x k).trans MvK.next.symm,av,m⟩
 ·have J:=aI S;have:n=i:=aa
  subst this;have tg2:=D.g;have C:=D.e;simp -dsimp only[go_sem,seval,EZ,J,tg2,C,BX,E1,aU]
  have QJ: ∀i,i<n->(part i∈K<->Cyc E N t i):=by
   intro i hi;rw[x];constructor
   ·rintro⟨u,e,h,w,F,h3,h4⟩
    have p:u<n/\e∈E u:=by
     rcases h with h | ⟨_,h⟩
     ·exact h
     ·simp at h
    have CU:=(DN u p.1).1 w;have Ch:=T.to u p.1 e p.2;have Ks:=(DN e.1 Ch).1 (by rw[<- F];exact w);have Kr:=(DN i hi).1 (by rw[h4];exact w);exact⟨Kr,u,e,p.2,CU,Ks,h3,(D0 u e.1 p.1 CU).1 F,(D0 u i p.1 CU).1 h4.symm⟩
   ·rintro⟨Kr,u,e,w,F,h3,h4,h5,h6⟩;have p:=T.insn u F;exact⟨u,e,.inl ⟨p,w⟩,(DN u p).2 F,(D0 u e.1 p F).2 h5,h4,((D0 u i p F).2 h6).symm⟩
  have NS: ∀c,(cK (fun i=>decide (i<c/\part i∈K)) n).set c [vb (decide (part c∈K))]=cK (fun i=>decide (i<c+1/\part i∈K)) n:=fun c=>by
   rw[yi];refine bz (fun g=>cK g n) (funext fun i=> ?_);unfold aV
   by_cases e:i=c
   ·subst e;simp
   ·rw[ac e];exact sR.2 ⟨fun⟨a,b⟩=>⟨aa,b⟩,fun⟨a,b⟩=>⟨aa,b⟩⟩
  have Ip:(o+0=z+1+5)=False:=aI aa
  refine aS 2417556491324078996587520 n (fun c f s y=>(f 68).v=vi c/\s (z+1+5)=some (.rows 1 (cK (fun i=>decide (i<c/\part i∈K)) n) false)/\z+1+5<y/\ ∀q,q<z->s q=I q) rfl
   ⟨am,?_,av,fun q B=>by simp -dsimp only[go_sem,seval];rw[ac aa]⟩ ?_
  ·refine aA ?_;simp only[cK,sV,p',pX,sX,p9]
  rintro c f u' s y bs hc ⟨OH,e1,IP,X⟩;have FQ:=aB c aa
  by_cases E0:c<n
  ·have Em:=aW E0;have L:(ai (dN part n))[c]? =some [vi (part c)]:=fS (sf part E0);rcases hO with⟨_,Z⟩ | ⟨kp,hr,P,Q⟩
   ·have:n=0:=by rw[<- d,Z];rfl
    omega
   ·rw[d]at hr;subst hr;have l:=(X kp aa).trans ((m kp P).trans Q);have Pt:=(X (o+0) aa).trans A;have hg:=NS c;have C2:=mB (fun i=>decide (i<c/\part i∈K)) E0
    by_cases Ev:part c∈K
    ·have hd:decide (part c∈K)=true:=dc Ev;rw[hd]at hg;simp -dsimp only[go_sem,seval,OH,Em,e1,fl,l,d,iF,L,Pt,yw,Ev,gx,C2,hg];refine⟨aa,ak FQ,am,av,fun q B=>by simp -dsimp only[go_sem,seval];rw[ac aa];exact X q B⟩
    ·have hd:decide (part c∈K)=false:=ep Ev;rw[hd]at hg;simp -dsimp only[go_sem,seval,OH,Em,e1,fl,l,d,iF,L,Pt,yw,Ev,kf,C2,hg];refine⟨aa,ak FQ,am,av,fun q B=>by simp -dsimp only[go_sem,seval];rw[ac aa];exact X q B⟩
  ·have Em:=aI E0;have:n=c:=aa
   subst this;refine aJ OH Em ?_;refine⟨_,.inr ⟨z+1+5,by rw[fl];rfl,av,e1⟩,fun i hi=> ?_,av,fun q B=>by rw[X q aa,m q aa,AT q aa]⟩;rw[<- QJ i hi];simp[hi]
end Rg
end
