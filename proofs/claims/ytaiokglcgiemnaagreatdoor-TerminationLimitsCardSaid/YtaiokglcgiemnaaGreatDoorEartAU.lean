/- Part of the proof of laws of relyguardlaw36. No condition. -/
import Derived.Test.YtaiokglcgiemnaaGreatDoorEartAT
import Derived.Test.YtaiokglcgiemnaaGreatDoorEartAS
import Derived.Test.YtaiokglcgiemnaaGreatDoorEartAP
set_option linter.unusedSimpArgs false
set_option linter.unusedVariables false
set_option linter.defProp false
section
namespace Rg
open Go
def eH (h:ae) (x:Nat) (v:V) (l:List Int):Prop:=
 (v= .t .nils/\l=[])\/ ∃k rs,v= .ms k 0 l.length/\k<x/\h k=some (.rows 1 rs false)/\l.length<=rs.length/\rs.take l.length=ai l
theorem eH.valOf {h:ae} {x:Nat} {v:V} {l:List Int} (o:eH h x v l):valOf v=some v:=by
 rcases o with⟨rfl,rfl⟩ | ⟨k,rs,rfl,_⟩<;>rfl
theorem eH.lenS {h:ae} {x:Nat} {v:V} {l:List Int} (o:eH h x v l):lenS h v=some l.length:=by
 rcases o with⟨rfl,rfl⟩ | ⟨k,rs,rfl,_,a,b,_⟩
 ·rfl
 ·simp[Rg.lenS,a,b]
theorem eH.keep {h h':ae} {x y:Nat} {v:V} {l:List Int} (o:eH h x v l) (e:x<=y) (d: ∀k,k<x-> ¬aK v k->h' k=h k):eH h' y v l:=by
 rcases o with⟨rfl,rfl⟩ | ⟨k,rs,rfl,a,b,c⟩
 ·exact .inl ⟨rfl,rfl⟩
 ·exact .inr ⟨k,rs,rfl,aa,(d k a fun o=>o _ _ rfl).trans b,c⟩
theorem eH.le {h:ae} {x y:Nat} {v:V} {l:List Int} (o:eH h x v l) (a:x<=y):eH h y v l:=o.keep a fun _ _ _=>rfl
def fI (f:Nat->Nat):Nat->Nat
 | 0=>0
 | n+1=>fI f n+f n
theorem uc {f g:Nat->Nat}: ∀{n:Nat},(∀v,v<n->f v=g v)->fI f n=fI g n
 | 0,_=>rfl
 | n+1,h=>by rw[fI,fI,uc fun v a=>h v aa,h n aa]
theorem xF (f:Nat->Nat) {k y:Nat}: ∀{n:Nat},k<n->fI (aV f k y) n+f k=fI f n+y
 | n+1,hk=>by
   rw[fI,fI]
   by_cases e:k=n
   ·subst e;rw[uc (g:=f) fun v a=>by rw[aV,ac aa]];rw[aV,ah rfl];omega
   ·have:=xF f (k:=k) (y:=y) (n:=n) aa;rw[show aV f k y n=f n by rw[aV,ac (bW e)]];omega
theorem Sw {f:Nat->Nat} {m:Nat}: ∀n,(∀v,v<n->f v<=m)->fI f n<=m*n
 | 0,_=>pm _
 | n+1,h=>by have:=Sw n fun v a=>h v aa;have:=h n aa;rw[fI,Nat.mul_succ];omega
def wgt (E:Nat->List (Nat×Choice)) (nx:Nat->Nat) (sn:Nat->Bool) (v:Nat):Nat:=(E v).length-nx v+(if sn v then 0 else 1)
def nxR (nx:Nat->Nat) (n:Nat):List (List V):=(List.range n).map fun i=>[vi (nx i)]
def dm (E:Nat->List (Nat×Choice)) (u:Nat):List Nat:=(E u).map Prod.fst
theorem kb4 (nx:Nat->Nat) {n i:Nat} (h:i<n):(nxR nx n)[i]? =some [vi (nx i)]:=by
 rw[nxR,zJ,jo h];rfl
theorem oc (nx:Nat->Nat) (n:Nat):(nxR nx n).length=n:=by simp[nxR]
theorem x_ {α:Type} (g:Nat->α) (n u:Nat) (y:α):((List.range n).map g).set u y=(List.range n).map (aV g u y):=by
 refine pY fun i=> ?_
 rw[cH]
 by_cases hi:i<n
 ·rw[zJ,zJ,jo hi]
  by_cases e:u=i
  ·subst e;simp[aV,hi]
  ·simp[aV,e,bW e]
 ·rw[fO (l:=(List.range n).map g) (by simp;omega),fO (by simp;omega)];split
  ·rename_i e;subst e;simp[hi]
  ·rfl
theorem kbW (nx:Nat->Nat) (n u y:Nat):(nxR nx n).set u [vi y]=nxR (aV nx u y) n:=by
 rw[nxR,x_,nxR];refine ry fun a _=> ?_
 unfold aV;split<;>rfl
theorem yh (sn:Nat->Bool) (n u:Nat) (y:Bool):(cE sn n).set u [vb y]=cE (aV sn u y) n:=by
 rw[cE,x_,cE];refine ry fun a _=> ?_
 unfold aV;split<;>rfl
theorem eH.rowsS {h:ae} {x:Nat} {v:V} {l:List Int} (o:eH h x v l):rowsS h v=some (ai l):=by
 rcases o with⟨rfl,rfl⟩ | ⟨k,rs,rfl,_,a,b,c⟩
 ·rfl
 ·simp[Rg.rowsS,a,rd,b,c]
theorem eH.upd {h:ae} {x:Nat} {v:V} {l:List Int} (o:eH h x v l) {q:Nat} (c:x<=q) (b:Option O):eH (updC h q b) (q+1) v l:=
 o.keep aa fun k a _=>by rw[aq,ac aa]
theorem PE {h:ae} {x q:Nat} {u:V} {a:List Int} {r:Int} {K:V->List (Nat×O)->Prop} {w:WK K}
 (o:eH h x u a) (p:x<=q) (s:a.length<2^30)
 (d: ∀v hp,eH (At h hp) (q+1) v (a++[r])->(∀j,j<x->aK v j)->(∀j,j<x->aK u j->At h hp j=h j)->K v hp):
 eA false (aZ h q 1 8 u (ai a) [[vi r]]) K w:=by
 rcases o with⟨rfl,rfl⟩ | ⟨k,rs,rfl,y,m,z,A⟩
 ·refine bX (.inl ⟨rfl,rfl⟩:ay h x (.t .nils) 1 (ai [])) p (by simp[ai]) aI rfl (eu _) fun v hp l g i=>d v hp ?_ g i
  rcases l with⟨_,e⟩ | ⟨k,e,b,c⟩
  ·simp[ai]at e
  ·exact .inr ⟨k,_,by simpa[ai]using e,b,c,by simp[ai],by simp[ai]⟩
 ·unfold aZ;rw[ah ⟨⟨by rw[aB];simp;omega,aI⟩,af,eu _⟩];simp only[sI,zG,aX,m,ki,aU,jx];have t:k≠q:=aa
  refine d _ _ (.inr ⟨q,_,by simp[ai],aa,by simp[cy,bE,aq];rfl,?_,?_⟩) (fun j n=>cV aa _ _) (fun j n f=> ?_)
  ·unfold fh;split<;>simp[ai]
  ·rw[show ai (a++[r])=ai a++[[vi r]]from fw _ _];rw[show(a++[r]).length=(ai a++[[vi r]]).length by simp[ai]];unfold fh;split
   ·exact bg
   ·exact List.take_left
  ·have:j≠k:=by rintro rfl;exact f _ _ rfl
   simp[cy,bE,aq,this,show j≠q by omega]
theorem WP {α:Type} (l:List α):l=[]\/ ∃L b,l=L++[b]:=by
 rcases List.eq_nil_or_concat l with h | ⟨L,b,h⟩
 ·exact .inl h
 ·exact .inr ⟨L,b,by rw[h,List.concat_eq_append]⟩
structure DfsI (H:Nat->Option O) (x0 kN kS n:Nat) (E:Nat->List (Nat×Choice)) (ins:Nat->Bool) (vO vS:V) (h:Nat->Option O) (x i:Nat) (ord stk:List Nat) (nx:Nat->Nat) (sn:Nat->Bool) (S:Nat->Nat->Prop):Prop where
 dd:DfsSt (dm E) ins ord stk nx sn S
 sm: ∀v,v<i->ins v=true->sn v=true
 lt: ∀v,sn v=true->v<n
 oo:ay h x vO 1 (ai (qI ord))
 kk:eH h x vS (qI stk)
 e1:h kN=some (.rows 1 (nxR nx n) false)
 e2:h kS=some (.rows 1 (cE sn n) false)
 hx:x0<=kN/\kN<kS/\kS<x
 kp: ∀q,q<x0->h q=H q
 of: ∀q,q<=kS->aK vO q/\aK vS q
 off: ∀q,aK vO q\/aK vS q
theorem DfsI.le {H:ae} {l f g n:Nat} {E:Nat->List (Nat×Choice)} {a:Nat->Bool} {j k:V} {h:ae} {x y i:Nat} {b c:List Nat} {nx:Nat->Nat} {sn:Nat->Bool} {S:Nat->Nat->Prop}
 (d:DfsI H l f g n E a j k h x i b c nx sn S) (e:x<=y):DfsI H l f g n E a j k h y i b c nx sn S:=
 ⟨d.dd,d.sm,d.lt,d.oo.le e,d.kk.le e,d.e1,d.e2,by have:=d.hx;omega,d.kp,d.of,d.off⟩
theorem DfsI.mkS {H:ae} {w k l n:Nat} {E:Nat->List (Nat×Choice)} {b:Nat->Bool} {t u:V} {h:ae} {x y i s:Nat} {e o:List Nat} {nx:Nat->Nat} {sn:Nat->Bool} {S:Nat->Nat->Prop}
 (d:DfsI H w k l n E b t u h x i e o nx sn S) {f:ae} {v:V} {stk':List Nat} {c:Nat->Nat} {a:Nat->Bool} (C:DfsSt (dm E) b e stk' c a S) (G: ∀v,v<s->b v=true->a v=true) (F: ∀v,a v=true->v<n)
 (D:eH f y v (qI stk')) (p: ∀j,j<x->aK v j) (r: ∀q,q<x->aK u q->q≠k->q≠l->f q=h q) (A:f k=some (.rows 1 (nxR c n) false)) (B:f l=some (.rows 1 (cE a n) false)) (z:x<=y):
 DfsI H w k l n E b t v f y s e stk' c a S:=by
 have J:=d.hx;refine⟨C,G,F,d.oo.keep z fun q I m=> ?_,D,A,B,aa,fun q g=> ?_,fun q g=>⟨(d.of q g).1,p q aa⟩,fun q=> ?_⟩
 ·refine r q I ((d.off q).resolve_left m) ?_ ?_
  ·rintro rfl;exact m (d.of _ aa).1
  ·rintro rfl;exact m (d.of _ (aA _)).1
 ·rw[r q aa (d.of q aa).2 aa aa];exact d.kp q g
 ·by_cases g:q<x
  ·exact .inr (p q g)
  ·exact .inl (d.oo.off aa)
theorem DfsI.nxt {H:ae} {o f k n:Nat} {E:Nat->List (Nat×Choice)} {a:Nat->Bool} {l m:V} {h:ae} {x y i:Nat} {c e:List Nat} {nx:Nat->Nat} {sn:Nat->Bool} {S:Nat->Nat->Prop}
 (d:DfsI H o f k n E a l m h x i c e nx sn S) {b:Nat->Nat} (p:DfsSt (dm E) a c e b sn S) (j:x<=y):DfsI H o f k n E a l m (updC h f (some (.rows 1 (nxR b n) false))) y i c e b sn S:=by
 have t:=d.hx;refine⟨p,d.sm,d.lt,d.oo.keep j fun q s g=> ?_,d.kk.keep j fun q s g=> ?_,by rw[aq,ah rfl],by rw[aq,ac aa];exact d.e2,aa,fun q r=>by rw[aq,ac aa];exact d.kp q r,d.of,d.off⟩
 ·rw[aq,ac];rintro rfl;exact g (d.of _ aa).1
 ·rw[aq,ac];rintro rfl;exact g (d.of _ aa).2
theorem zd {E:Nat->List (Nat×Choice)} {nx:Nat->Nat} {sn:Nat->Bool} {n w:Nat} (a:w<n) (d:nx w<(E w).length):fI (wgt E (aV nx w (nx w+1)) sn) n+1=fI (wgt E nx sn) n:=by
 have b:=xF (wgt E nx sn) (k:=w) (y:=wgt E nx sn w-1) a;have c:1<=wgt E nx sn w:=by unfold wgt;omega
 rw[uc (g:=aV (wgt E nx sn) w (wgt E nx sn w-1)) fun v _=>by
  unfold aV wgt
  by_cases e:v=w
  ·subst e;simp only[aU];omega
  ·simp only[e,aX]]
 omega
theorem kbi {E:Nat->List (Nat×Choice)} {nx:Nat->Nat} {sn:Nat->Bool} {n w:Nat} (b:w<n) (a:sn w=false):fI (wgt E nx (aV sn w true)) n+1=fI (wgt E nx sn) n:=by
 have c:=xF (wgt E nx sn) (k:=w) (y:=wgt E nx sn w-1) b;have d:1<=wgt E nx sn w:=by unfold wgt;rw[a];simp
 rw[uc (g:=aV (wgt E nx sn) w (wgt E nx sn w-1)) fun v _=>by
  unfold aV wgt
  by_cases e:v=w
  ·subst e;simp[a]
  ·simp only[e,aX]]
 omega
theorem Vu {H:ae} {g kG kE kI:Nat} {vs:List V} {n:Nat} {E:Nat->List (Nat×Choice)} {l:Nat->Bool} {t:Nat} (T:GrfH H g kG kE kI vs n E l t):
 ∃r h' n',DenR Γ G 388 [.mp kG 0 0] H g=some (r,h',n')/\(∃(c:List Nat) (S:Nat->Nat->Prop),ay h' n' r 1 (ai (qI c))/\DfsOrd (EI (dm E) l) c S/\c.Nodup/\(∀v,v∈c<->v<n/\l v=true)/\g<=n'/\ ∀q,q<g->h' q=H q/\aK r q):=by
 have hg:=T.g;have he:=T.e;have Y:=T.len;have Hx:=T.nl;have E1:((n:Int)<=(n:Int)/\(n:Int)<=4294967296)=True:=aW aa;have tl:=T.lt;have g1:(kG=g+1+2+5)=False:=aJ aa;have g2:(kE=g+1+2+5)=False:=aJ aa;have g3:(kG=g+1+2+7+5)=False:=aJ aa;have g4:(kE=g+1+2+7+5)=False:=aJ aa
 refine bM (q:=?_)
 simp -dsimp only[go_sem,seval,hg,he,Y,E1,aU,g1,g2,g3,g4]
 refine aS 21267647932558653966460912964351296408 n (fun i f h x=>(f 27).v=vi i/\ ∃(c:List Nat) (nx:Nat->Nat) (sn:Nat->Bool) (S:Nat->Nat->Prop),DfsI H g (g+1+2+5) (g+1+2+7+5) n E l (f 3).v (f 4).v h x i c [] nx sn S) rfl
  ⟨am,[],fun _=>0,fun _=>false,fun _ _=>False,DfsSt.init _ _,af,af,.inl ⟨am,rfl⟩,.inl ⟨am,rfl⟩,?_,?_,av,?_,?_,?_⟩ ?_
 ·refine ax ?_;rw[ac aa];simp only[nxR,sQ,pX];rfl
 ·refine ax ?_;simp only[cE,sQ,pX]
 ·refine ax ?_;intro q p;rw[ac aa,ac aa]
 ·refine ax ?_;exact fun q _ i n e=>by cases e
 ·refine ax ?_;exact fun q=> .inl fun i n e=>by cases e
 rintro i f u' h x bs hi ⟨Il,c,nx,sn,S,d⟩;have hw:=aC i aa;have hx:=d.hx;have D:=T.keep (show g<=x from aa) d.kp;have K:=D.g;have te:=D.e;have ti:=D.i
 by_cases Aj:i<n
 ·have Z:=aW Aj;have a1:=mw l Aj;have a2:=mw sn Aj;have N:=d.e2;have v4:=d.kk.valOf;have dO:=d.dd;have IY: ∀sn',fI (wgt E nx sn') n<=269*n:=fun sn'=>Sw n fun v o=>by unfold wgt;have:=T.small v o;split<;>omega
  have KF: ∀(c m:List Nat) (nx:Nat->Nat) (sn:Nat->Bool) (S:Nat->Nat->Prop) (vO vS:V) (h:ae) (x:Nat),DfsI H g (g+1+2+5) (g+1+2+7+5) n E l vO vS h x i c m nx sn S->(l i=true->sn i=true)->DfsI H g (g+1+2+5) (g+1+2+7+5) n E l vO vS h x (i+1) c m nx sn S:=
   fun _ _ _ _ _ _ _ _ _ d hi=>⟨d.dd,fun v o M=>by
    by_cases e:v=i
    ·rw[e]at M⊢;exact hi M
    ·exact d.sm v aa M,d.lt,d.oo,d.kk,d.e1,d.e2,d.hx,d.kp,d.of,d.off⟩
  rcases(show l i=false\/(l i=true/\sn i=true)\/(l i=true/\sn i=false)by cases l i<;>cases sn i<;>simp)with EO | ⟨EO,C6⟩ | ⟨EO,C6⟩
  case' inl=>
   refine dc Il Z K ti @fe a1 EO ?_
   refine aS 10633823966279326983228204682429072152 (269*n+1) (fun j f h x=> ∃(c m:List Nat) (nx:Nat->Nat) (sn:Nat->Bool) (S:Nat->Nat->Prop),DfsI H g (g+1+2+5) (g+1+2+7+5) n E l (f 3).v (f 4).v h x (i+1) c m nx sn S/\fI (wgt E nx sn) n+m.length+j<=269*n+1) rfl
    ⟨c,[],nx,sn,S,by simp -dsimp only[go_sem,seval];exact KF _ _ _ _ _ _ _ _ _ (d.le aa) (fun e=>by rw[EO]at e;cases e),by have:=IY sn;simp only[i6];omega⟩ ?_
  case' inr.inl=>
   refine jk Il Z K ti @fe a1 EO N a2 C6 ?_
   refine aS 10633823966279326983228204682429072152 (269*n+1) (fun j f h x=> ∃(c m:List Nat) (nx:Nat->Nat) (sn:Nat->Bool) (S:Nat->Nat->Prop),DfsI H g (g+1+2+5) (g+1+2+7+5) n E l (f 3).v (f 4).v h x (i+1) c m nx sn S/\fI (wgt E nx sn) n+m.length+j<=269*n+1) rfl
    ⟨c,[],nx,sn,S,by simp -dsimp only[go_sem,seval];exact KF _ _ _ _ _ _ _ _ _ (d.le aa) (fun _=>C6),by have:=IY sn;simp only[i6];omega⟩ ?_
  case' inr.inr=>
   have X:(cE sn n).set i [V.t (Rg.T.bool true)]=cE (aV sn i true) n:=yh sn n i true
   have K1:eH (updC h (g+1+2+7+5) (some (.rows 1 (cE (aV sn i true) n) false))) x (f 4).v []:=d.kk.keep (aA _) fun q _ u=>by
    have:q≠g+1+2+7+5:=by rintro rfl;exact u (d.of _ (aA _)).2
    rw[aq,ac this]
   have O1:ay (updC h (g+1+2+7+5) (some (.rows 1 (cE (aV sn i true) n) false))) x (f 3).v 1 (ai (qI c)):=d.oo.keep (aA _) fun q _ u=>by
    have:q≠g+1+2+7+5:=by rintro rfl;exact u (d.of _ (aA _)).1
    rw[aq,ac this]
   have q3:=fun b=>(K1.upd (q:=x+1+2+14+4+2) aa b).rowsS
   simp -dsimp only[go_sem,seval,Il,Z,K,ti,fe,a1,EO,N,a2,C6,v4,X,q3]
   generalize A:updC h (g+1+2+7+5) (some (.rows 1 (cE (aV sn i true) n) false))=s at *
   have g0: ∀q,q≠g+1+2+7+5->s q=h q:=fun q p=>by rw[<- A,aq,ac p]
   refine PE (K1.upd (q:=x+1+2+14+4+2) aa _) aa af ?_;intro v hp F U R;have W:=F.valOf
   have z: ∀q,q<x->aK (f 4).v q->At (updC s (x+1+2+14+4+2) (some (O.rows 1 [[V.t (Rg.T.int IntKind.i64 i)]] false))) hp q=s q:=fun q J u=>by
    rw[R q aa u,aq,ac aa]
   have OC:=d.dd.root EO C6;have BF:fI (wgt E nx (aV sn i true)) n+1<=269*n+1:=by have:=IY (aV sn i true);omega
   refine aG W A ?_
   refine aS 10633823966279326983228204682429072152 (269*n+1) (fun j f h x=> ∃(c m:List Nat) (nx:Nat->Nat) (sn:Nat->Bool) (S:Nat->Nat->Prop),DfsI H g (g+1+2+5) (g+1+2+7+5) n E l (f 3).v (f 4).v h x (i+1) c m nx sn S/\fI (wgt E nx sn) n+m.length+j<=269*n+1) rfl
    ⟨c,[i],nx,aV sn i true,S,?_,BF⟩ ?_
   ·refine ar A ?_;refine d.mkS OC (fun v o M=> ?_) (fun v o=> ?_) (F.le aa) (fun q p=>U q aa) (fun q J u q3 q4=>(z q J u).trans (g0 q q4)) ?_ ?_ aa
    ·unfold aV
     by_cases e:v=i
     ·rw[ah e]
     ·rw[ac e];exact d.sm v aa M
    ·unfold aV at o
     by_cases e:v=i
     ·omega
     ·rw[ac e]at o;exact d.lt v o
    ·rw[z _ aa (d.of _ aa).2,g0 _ aa,d.e1]
    ·rw[z _ aa (d.of _ aa).2,<- A,aq,ah rfl]
  all_goals
   rintro j f u2 h x bs hj ⟨c,m,nx,sn,S,d,Gk⟩;have hx:=d.hx;have D:=T.keep (show g<=x from aa) d.kp;have K:=D.g;have te:=D.e;have ti:=D.i;have v4:=d.kk.valOf;have l4:=d.kk.lenS;rcases WP m with rfl | ⟨stk',w,rfl⟩
   ·simp -dsimp only[go_sem,seval,v4,l4,Il,cu,i6];exact⟨aa,al hw,c,nx,sn,S,by simp -dsimp only[go_sem,seval];exact d.le aa⟩
   ·have CH:=nO n _ d.dd.nd fun v o=>d.lt v ((d.dd.seen v).2 (cx.1 o))
    rw[zM,zM,fN]at CH;have PU:(stk'++ [w]).length=stk'.length+1:=af
    have PT:sn w=true:=(d.dd.seen w).2 (.inr af);have C:=d.lt w PT;have L:(qI (stk'++ [w])).length=stk'.length+1:=by simp[qI]
    rcases d.kk with⟨_,e0⟩ | ⟨k,rs,B,k1,P,I,k4⟩
    ·rw[e0]at L;simp at L
    ·have GN:rs[stk'.length]? =some [vi w]:=by
      have s:(ai (qI (stk'++ [w])))[stk'.length]? =some [vi w]:=fP (qw af);rw[<- k4,List.getElem?_take_of_lt aa]at s;exact s
     rw[L]at B I l4;obtain⟨v,o,_⟩:=aw (show w<vs.length by rw[T.len];exact C);have ho:=D.own w v o;have Ap:(vs.map fun v=>[v])[w]? =some [v]:=by rw[zJ,o];rfl
     have W:=ho.valOf;have w3:=ho.lenS;have E3:=aW C;have a3:=kb4 nx C;have e1:=d.e1;have N:=d.e2;have p1:IntKind.i64.wrap (((stk'.length+1:Nat):Int)-1)=((stk'.length:Nat):Int):=lP aa aa;have p2:(((stk'.length+1:Nat):Int)>0)=True:=aW aa;have p3:(stk'.length<stk'.length+1)=True:=aW aa
     by_cases AC:nx w=(E w).length
     ·have LA:((nx w:Int)=((E w).length:Int))=True:=aW aa;simp -dsimp only[go_sem,seval,B,P,I,p1,p2,p3,GN,E3,e1,a3,oc,K,te,Y,Ap,W,w3,d_,LA,d.oo.valOf,(fun b=>(d.oo.upd (q:=x+3+7+13+2) aa b).rowsS: ∀b,_)];refine bX (d.oo.upd (q:=x+3+7+13+2) aa _) aa (by rw[aB,cu];omega) aI rfl (eu _) ?_;intro vO hp F U R;have u1:=F.valOf;have ok:aK (f 3).v k:=(d.off k).resolve_right fun e=>e 0 _ B
      have yk:=R k aa ok;rw[aq,ac aa,P]at yk;have pS:((stk'.length:Int)<=((stk'.length+1:Nat):Int))=True:=aW aa;have pT:((stk'.length:Int)-0).toNat=stk'.length:=aa
      simp -dsimp only[go_sem,seval,u1,B,yk,I,p1,p2,p3,pS,pT,aU];obtain⟨S',Rq⟩:=d.dd.pop (by rw[AC,dm,cL])
      have z: ∀q,q<x->aK (f 3).v q->At (updC h (x+3+7+13+2) (some (O.rows 1 [[V.t (Rg.T.int IntKind.i64 w)]] false))) hp q=h q:=fun q J u=>by
       rw[R q aa u,aq,ac aa]
      refine⟨aa,c++[w],stk',nx,sn,S',?_,aa⟩;refine ax ?_;have I4: ∀q,q<=g+1+2+7+5->q≠k:=fun q p e=>(d.of q p).2 0 _ (e▸B)
      refine⟨Rq,d.sm,d.lt,?_,.inr ⟨k,rs,by rw[cu],aa,yk,by rw[cu];omega,?_⟩,?_,?_,aa,fun q p=> ?_,fun q p=>⟨U q aa,cV (I4 q p) _ _⟩,fun q=> ?_⟩
      ·rw[qI,dZ,<- qI,show ai (qI c++List.map Int.ofNat [w])=ai (qI c)++[[vi w]]from fw _ _];exact F.le aa
      ·have s:=bz (List.take stk'.length) k4;rw[List.take_take,L,iZ aa,qI,dZ,<- qI,show ai (qI stk'++List.map Int.ofNat [w])=ai (qI stk')++[[vi w]]from fw _ _,List.take_left' (by rw[aB,cu])]at s;rw[cu];exact s
      ·rw[z _ aa (d.of _ aa).1];exact e1
      ·rw[z _ aa (d.of _ aa).1];exact N
      ·rw[z _ aa (d.of _ aa).1];exact d.kp q p
      ·by_cases p:q<x
       ·exact .inl (U q aa)
       ·exact .inr (cV aa _ _)
     ·have LA:((nx w:Int)=((E w).length:Int))=False:=aJ aa;have A5:=d.dd.le w;have H5:(dm E w).length=(E w).length:=by rw[dm,cL]
      have GG:nx w<(E w).length:=aa
      obtain⟨y,hy,Eq⟩:=aw GG;have FO:=T.to w C y Eq;have CN:=aW FO;have GF:=aW GG;have JL:(dm E w)[nx w]? =some y.1:=by rw[dm,zJ,hy];rfl
      have p4:IntKind.i64.wrap ((nx w:Int)+1)=((nx w+1:Nat):Int):=lP aa (by have:=T.small w C;omega);have Lb:(nxR nx n).set w [V.t (Rg.T.int IntKind.i64 ((nx w+1:Nat):Int))]=nxR (aV nx w (nx w+1)) n:=kbW nx n w (nx w+1);have b1:=mw l FO;have b2:=mw sn FO;rcases ho with⟨_,e0⟩ | ⟨kv,rfl,kv1,Q⟩
      ·have:(E w).length=0:=by rw[<- d_,e0];rfl
       omega
      ·have BR:(ct (E w))[nx w]? =some [vi y.1,vi y.2.thread,vi y.2.step,vi y.2.cell]:=by rw[ct,zJ,hy];rfl
       have z1:(kG=g+1+2+5)=False:=aJ aa;have z2:(kI=g+1+2+5)=False:=aJ aa;have z3:(g+1+2+7+5=g+1+2+5)=False:=aJ aa;rcases(show l y.1=false\/(l y.1=true/\sn y.1=true)\/(l y.1=true/\sn y.1=false)by cases l y.1<;>cases sn y.1<;>simp)with JD | ⟨JD,Ki⟩ | ⟨JD,Ki⟩
       ·simp -dsimp only[go_sem,seval,B,P,I,p1,p2,p3,p4,GN,E3,e1,N,a3,oc,K,te,ti,Y,Ap,W,w3,d_,LA,Q,GF,BR,CN,Lb,fe,b1,b2,JD,z1,z2,z3,oc];have PH:=zd (sn:=sn) C GG;refine⟨aa,c,stk'++ [w],aV nx w (nx w+1),sn,S,by simp -dsimp only[go_sem,seval];exact d.nxt (d.dd.skip JL fun e=>by rw[JD]at e;cases e) aa,aa⟩
       ·simp -dsimp only[go_sem,seval,B,P,I,p1,p2,p3,p4,GN,E3,e1,N,a3,oc,K,te,ti,Y,Ap,W,w3,d_,LA,Q,GF,BR,CN,Lb,fe,b1,b2,JD,Ki,z1,z2,z3,oc];have PH:=zd (sn:=sn) C GG;refine⟨aa,c,stk'++ [w],aV nx w (nx w+1),sn,S,by simp -dsimp only[go_sem,seval];exact d.nxt (d.dd.skip JL fun _=>Ki) aa,aa⟩
       ·simp -dsimp only[go_sem,seval,B,P,I,p1,p2,p3,p4,GN,E3,e1,N,a3,oc,K,te,ti,Y,Ap,W,w3,d_,LA,Q,GF,BR,CN,Lb,fe,b1,b2,JD,Ki,z1,z2,z3,oc,v4];have I4: ∀q,q<=g+1+2+7+5->q≠k:=fun q p e=>(d.of q p).2 0 _ (e▸B)
        have y1:=bW (I4 (g+1+2+5) aa);have y2:=bW (I4 (g+1+2+7+5) aa);have y3:k≠x+3+7+13+15+7+14+4+2:=aa
        have X:(cE sn n).set y.1 [V.t (Rg.T.bool true)]=cE (aV sn y.1 true) n:=yh sn n y.1 true;rw[L]at k4;simp -dsimp only[go_sem,seval,y1,y2,y3,P,I,k4,X,aW I,aU]
        generalize A:updC (updC h (g+1+2+5) (some (.rows 1 (nxR (aV nx w (nx w+1)) n) false))) (g+1+2+7+5) (some (.rows 1 (cE (aV sn y.1 true) n) false))=s at *
        have g0: ∀q,q≠g+1+2+5->q≠g+1+2+7+5->s q=h q:=fun q J u=>by rw[<- A,aq,ac u,aq,ac J]
        have K1:eH s x (.ms k 0 (stk'.length+1)) (qI (stk'++ [w])):=.inr ⟨k,rs,by rw[L],k1,(g0 k y1 y2).trans P,aa,by rw[L];exact k4⟩;refine PE (K1.upd (q:=x+3+7+13+15+7+14+4+2) aa _) aa aa ?_;intro v' hp F U R;have w5:=F.valOf
        have z: ∀q,q<x->aK (.ms k 0 (stk'.length+1)) q->At (updC s (x+3+7+13+15+7+14+4+2) (some (O.rows 1 [[V.t (Rg.T.int IntKind.i64 y.1)]] false))) hp q=s q:=fun q J u=>by
         rw[R q aa u,aq,ac aa]
        have Cj:=zd (sn:=sn) C GG;have BO:=kbi (E:=E) (nx:=aV nx w (nx w+1)) FO Ki;refine aY w5 X A ?_;refine⟨aa,c,stk'++ [w]++[y.1],aV nx w (nx w+1),aV sn y.1 true,S,?_,by simp only[zM,fN]at Gk⊢;omega⟩;refine aG X A ?_
        have Ge:eH (At (updC s (x+3+7+13+15+7+14+4+2) (some (O.rows 1 [[V.t (Rg.T.int IntKind.i64 y.1)]] false))) hp) (x+3+7+13+15+7+14+4+3+1) v' (qI (stk'++ [w]++[y.1])):=by
         rw[qI,dZ,<- qI];exact F
        have gk: ∀q,q<=g+1+2+7+5->aK (.ms k 0 (stk'.length+1)) q:=fun q p=>cV (I4 q p) _ _
        refine d.mkS (d.dd.push JL JD Ki) (fun v o M=> ?_) (fun v o=> ?_) (Ge.le aa) (fun q p=>U q aa) (fun q J u q3 q4=>(z q J (by rw[<- B];exact u)).trans (g0 q q3 q4)) ?_ ?_ aa
        ·unfold aV
         by_cases e:v=y.1
         ·rw[ah e]
         ·rw[ac e];exact d.sm v o M
        ·unfold aV at o
         by_cases e:v=y.1
         ·omega
         ·rw[ac e]at o;exact d.lt v o
        ·rw[z _ aa (gk _ aa),<- A,aq,ac aa,aq,ah rfl]
        ·rw[z _ aa (gk _ aa),<- A,aq,ah rfl]
 ·have Z:=aJ Aj;have:i=n:=aa
  subst this;have v1:=d.oo.valOf;have v2:=d.oo.resVal;unfold resVal at v2;refine bw Il Z v1 v2 ?_
  exact⟨c,S,d.oo.le av,d.dd.fin,ak d.dd.nd,fun v=>⟨fun o=>by
   have:=(d.dd.seen v).2 (.inl o)
   exact⟨d.lt v this,d.dd.insd v this⟩,fun⟨a,b⟩=>by simpa using(d.dd.seen v).1 (d.sm v a b)⟩,av,fun q p=>⟨d.kp q p,(d.of q aa).1⟩⟩
def Mut (E:Nat->Nat->Prop) (v w:Nat):Prop:=Rch E v w/\Rch E w v
theorem Mut.symm {E:Nat->Nat->Prop} {v w:Nat} (h:Mut E v w):Mut E w v:=⟨h.2,h.1⟩
theorem Mut.trans {E:Nat->Nat->Prop} {u v w:Nat} (h:Mut E u v) (g:Mut E v w):Mut E u w:=⟨h.1.trans g.1,g.2.trans h.2⟩
structure PartC (E:Nat->Nat->Prop) (ord:List Nat) (part:Nat->Int) (m:Nat):Prop where
 ok:PartOk E ord part m
 cl: ∀v w,part v≠ -1->Mut E v w->part w=part v
 mem: ∀v,part v≠ -1->v∈ord
structure PartS (E:Nat->Nat->Prop) (ord:List Nat) (p0 part:Nat->Int) (m r:Nat) (q:List Nat) (i:Nat):Prop where
 ok:PartOk E ord part m
 mem: ∀v,part v≠ -1->v∈ord
 old: ∀v,p0 v≠ -1->part v=p0 v
 new: ∀v,p0 v= -1->part v≠ -1->part v=r/\v∈q
 root:part r=r
 pln: ∀v∈q,part v=r/\ ∃k,Pln E ord m r k v
 nd:q.Nodup
 le:i<=q.length
 don: ∀(j u:Nat),j<i->q[j]? =some u-> ∀w,E w u->part w≠ -1
theorem PartC.start {E:Nat->Nat->Prop} {b:List Nat} {part:Nat->Int} {m r:Nat} (h:PartC E b part (m+1)) (d:b[m]? =some r) (k:part r= -1):PartS E b part (aV part r r) m r [r] 0:=by
 obtain⟨g,i⟩:=h.ok.root d;have c:aV part r (r:Int) r=r:=by rw[aV,ah rfl]
 refine⟨g,fun v a=> ?_,fun v a=> ?_,fun v f a=> ?_,c,fun v a=> ?_,af,af,fun j u l=>aa⟩
 ·unfold aV at a
  by_cases e:v=r
  ·subst e;exact zL d
  ·rw[ac e]at a;exact h.mem v a
 ·unfold aV;rw[ac];rintro rfl;exact a k
 ·unfold aV at a⊢
  by_cases e:v=r
  ·subst e;simp
  ·rw[ac e]at a;exact absurd f a
 ·simp only[bD]at a;subst a;exact⟨c,0,i⟩
theorem PartS.add {E:Nat->Nat->Prop} {d:List Nat} {S:Nat->Nat->Prop} (B:DfsOrd E d S) (s:d.Nodup) {o part:Nat->Int} {m r i u w:Nat} {q:List Nat} (h:PartS E d o part m r q i) (I:u∈q) (D:E w u) (n:w∈d) (f:part w= -1):
 PartS E d o (aV part w r) m r (q++[w]) i:=by
 obtain⟨_,k,G⟩:=h.pln u I;obtain⟨z,A⟩:=h.ok.add B s G D n f;have x:w∉ q:=fun H=>by have:=(h.pln w H).1;omega
 have K:=h.le;refine⟨z,fun v c=> ?_,fun v c=> ?_,fun v y c=> ?_,?_,fun v c=> ?_,?_,by simp;omega,fun j J F g w' p=> ?_⟩
 ·unfold aV at c
  by_cases e:v=w
  ·subst e;exact n
  ·rw[ac e]at c;exact h.mem v c
 ·unfold aV;rw[ac,h.old v c];rintro rfl;rw[h.old v c]at f;exact c f
 ·unfold aV at c⊢
  by_cases e:v=w
  ·subst e;simp
  ·rw[ac e]at c⊢;obtain⟨a,b⟩:=h.new v y c;exact⟨a,by simp[b]⟩
 ·unfold aV;split
  ·rfl
  ·exact h.root
 ·rcases cx.1 c with c | c
  ·obtain⟨a,b⟩:=h.pln v c;refine⟨?_,b⟩;unfold aV;split
   ·rfl
   ·exact a
  ·simp only[bD]at c;subst c;exact⟨by rw[aV,ah rfl],_,A⟩
 ·rw[oU];exact⟨h.nd,af,fun a C b l t=>by simp only[bD]at l;subst l t;exact x C⟩
 ·rw[bP aa]at g;have:=h.don j J F g w' p;unfold aV;split
  ·omega
  ·exact this
theorem PartS.step {E:Nat->Nat->Prop} {a:List Nat} {e part:Nat->Int} {m r i u:Nat} {q:List Nat} (h:PartS E a e part m r q i) (c:q[i]? =some u) (g: ∀w,E w u->part w≠ -1):PartS E a e part m r q (i+1):=by
 refine⟨h.ok,h.mem,h.old,h.new,h.root,h.pln,h.nd,(zH.1 c).1,fun j k n b w d=> ?_⟩;rcases bv j i with f | l
 ·exact h.don j k f b w d
 ·have:j=i:=aa
  subst this;rw[c]at b;cases b;exact g w d
theorem PartS.done {E:Nat->Nat->Prop} {d:List Nat} {f part:Nat->Int} {m r:Nat} {q:List Nat} (n:PartC E d f (m+1)) (L:f r= -1) (h:PartS E d f part m r q q.length):PartC E d part m:=by
 have k: ∀x,Mut E x r->f x= -1:=fun x G=>by
  by_cases e:f x= -1
  ·exact e
  ·have:=n.cl x r e G;omega
 have i: ∀x y,Rch E x y->y=r->Rch E r x->part x=r:=by
  intro x y s
  induction s with
  | refl=>rintro rfl _;exact h.root
  | @cons a b c Ca Ps ih=>
    intro F g;subst F;have K:=ih rfl (g.snoc Ca);have t:=k b ⟨Ps,g.snoc Ca⟩;have z:=(h.new b t aa).2;obtain⟨j,o⟩:=eC z;have D:=h.don j b (zH.1 o).1 o a Ca;have u:=k a ⟨.cons Ca Ps,g⟩;exact(h.new a u D).1
 refine⟨h.ok,fun v w p l=> ?_,h.mem⟩
 by_cases e:f v= -1
 ·obtain⟨C,J⟩:=h.new v e p;obtain⟨H,I,A,B⟩:=h.ok.con v p;have:H=r:=aa
  subst this;have:=(l.symm).trans ⟨A,B⟩;rw[C];exact i w _ this.1 rfl this.2
 ·have:=n.cl v w e l;rw[h.old v e,h.old w aa,this]
theorem PartC.skip {E:Nat->Nat->Prop} {a:List Nat} {part:Nat->Int} {m r:Nat} (h:PartC E a part (m+1)) (e:a[m]? =some r) (d:part r≠ -1):PartC E a part m:=by
 refine⟨⟨h.ok.con,fun j v g b=> ?_⟩,h.cl,h.mem⟩;rcases bv m j with c | f
 ·exact h.ok.done j v c b
 ·have:j=m:=aa
  subst this;rw[e]at b;cases b;exact d
theorem PartC.init (E:Nat->Nat->Prop) (a:List Nat):PartC E a (fun _=> -1) a.length:=
 ⟨⟨fun v h=>absurd rfl h,fun j v c b=>by rw[fO c]at b;cases b⟩,fun v w h=>absurd rfl h,fun v h=>absurd rfl h⟩
theorem PartC.fin {E:Nat->Nat->Prop} {a:List Nat} {part:Nat->Int} (h:PartC E a part 0):(∀v,part v≠ -1<->v∈a)/\ ∀v w,v∈a->(part v=part w<->Mut E v w):=by
 have c: ∀v,part v≠ -1<->v∈a:=fun v=>⟨h.mem v,fun b=>by
  obtain⟨j,g⟩:=eC b
  exact h.ok.done j v (pm _) g⟩
 refine⟨c,fun v w b=>⟨fun e=> ?_,fun i=>(h.cl v w ((c v).2 b) i).symm⟩⟩;obtain⟨r,n,d,f⟩:=h.ok.con v ((c v).2 b);obtain⟨m,o,k,l⟩:=h.ok.con w (by rw[<- e];exact(c v).2 b);have:r=m:=aa
 subst this;exact Mut.trans ⟨d,f⟩ ⟨l,k⟩
structure TabB (h:Nat->Option O) (x kB:Nat) (vs:List V) (bk:List (List Nat)):Prop where
 e:h kB=some (.rows 1 (vs.map fun v=>[v]) false)
 lt:kB<x
 len:vs.length=bk.length
 own: ∀(i:Nat) (v:V) (l:List Nat),vs[i]? =some v->bk[i]? =some l->ay h x v 1 (ai (qI l))
 low: ∀(i:Nat) (v:V),vs[i]? =some v-> ∀q,q<=kB->aK v q
 off: ∀(i j:Nat) (v w:V),i≠j->vs[i]? =some v->vs[j]? =some w-> ∀k,aK v k\/aK w k
theorem TabB.keep {h h':ae} {x y e:Nat} {vs:List V} {c:List (List Nat)} (T:TabB h x e vs c) (f:x<=y) (d: ∀q,q<x->h' q=h q):TabB h' y e vs c:=
 ⟨(d _ T.lt).trans T.e,by have:=T.lt;omega,T.len,fun i v l a b=>(T.own i v l a b).keep f fun q g _=>d q g,T.low,T.off⟩
theorem TabB.set {h p:ae} {x y g u:Nat} {vs:List V} {o:List (List Nat)} {v n:V} {l':List Nat} (T:TabB h x g vs o) (A:vs[u]? =some v) (E:ay p y n 1 (ai (qI l'))) (k: ∀j,j<x->aK n j)
 (G: ∀j,j<x->aK v j->p j=h j) (D:x<=y):TabB (updC p g (some (.rows 1 ((vs.set u n).map fun v=>[v]) false))) y g (vs.set u n) (o.set u l'):=by
 have f:=(zH.1 A).1;have C:=T.lt
 have F: ∀(i:Nat) (w:V),vs[i]? =some w-> ∃l,o[i]? =some l:=fun i w a=>by
  have:=(zH.1 a).1;rw[T.len]at this;exact⟨_,zI this⟩
 have t: ∀(i:Nat) (w:V),vs[i]? =some w-> ∀q,x<=q->aK w q:=fun i w a q c=>by
  obtain⟨l,d⟩:=F i w a;exact(T.own i w l a d).off c
 refine⟨by rw[aq,ah rfl],aa,by rw[cG,cG,T.len],fun i w l a d=> ?_,fun i w a q c=> ?_,fun i j w z r a e q=> ?_⟩
 ·by_cases b:i=u
  ·subst b;rw[iu f]at a;rw[iu (by rw[<- T.len];exact f)]at d;cases a;cases d;refine E.keep (aA _) fun q B m=> ?_
   have:q≠g:=by rintro rfl;exact m (k _ C)
   rw[aq,ac this]
  ·rw[gJ (bW b)]at a d;refine(T.own i w l a d).keep D fun q B m=> ?_
   have:q≠g:=by rintro rfl;exact m (T.low i w a _ (aA _))
   rw[aq,ac this];exact G q B ((T.off i u w v b a A q).resolve_left m)
 ·by_cases b:i=u
  ·subst b;rw[iu f]at a;cases a;exact k q aa
  ·rw[gJ (bW b)]at a;exact T.low i w a q c
 ·by_cases b:i=u
  ·subst b;rw[iu f]at a;rw[gJ r]at e;cases a
   by_cases c:q<x
   ·exact .inl (k q c)
   ·exact .inr (t j z e q aa)
  ·rw[gJ (bW b)]at a
   by_cases s:j=u
   ·subst s;rw[iu f]at e;cases e
    by_cases c:q<x
    ·exact .inr (k q c)
    ·exact .inl (t i w a q aa)
   ·rw[gJ (bW s)]at e;exact T.off i j w z r a e q
structure BackI (E:Nat->List (Nat×Choice)) (ins:Nat->Bool) (n i j:Nat) (bk:List (List Nat)):Prop where
 len:bk.length=n
 iff: ∀(v w:Nat) (l:List Nat),bk[v]? =some l->(w∈l<->ins w=true/\ins v=true/\((w<i/\v∈dm E w)\/(w=i/\v∈(dm E i).take j)))
 sz: ∀(v:Nat) (l:List Nat),bk[v]? =some l->l.length<=268*i+j
theorem BackI.init (E:Nat->List (Nat×Choice)) (b:Nat->Bool) (n:Nat):BackI E b n 0 0 (List.replicate n []):=
 ⟨af,fun v w l a=>by
   obtain rfl:=nh (zL a);simp,fun v l a=>by
   obtain rfl:=nh (zL a)
   simp⟩
theorem nt {α:Type} {l:List α} {j:Nat} {y v:α} (a:l[j]? =some y):v∈l.take (j+1)<->v∈l.take j\/v=y:=by
 rw[bc a];simp
theorem BackI.skip {E:Nat->List (Nat×Choice)} {e:Nat->Bool} {n i j y:Nat} {g:List (List Nat)} (h:BackI E e n i j g) (m:(dm E i)[j]? =some y) (k: ¬(e i=true/\e y=true)):BackI E e n i (j+1) g:=by
 refine⟨h.len,fun v w l f=> ?_,fun v l f=>by have:=h.sz v l f;omega⟩;rw[h.iff v w l f,nt m];constructor
 ·rintro⟨a,b,c | ⟨c,d⟩⟩
  ·exact⟨a,b,.inl c⟩
  ·exact⟨a,b,.inr ⟨c,.inl d⟩⟩
 ·rintro⟨a,b,c | ⟨c,d | d⟩⟩
  ·exact⟨a,b,.inl c⟩
  ·exact⟨a,b,.inr ⟨c,d⟩⟩
  ·subst c d;exact absurd ⟨a,b⟩ k
theorem BackI.add {E:Nat->List (Nat×Choice)} {g:Nat->Bool} {n i j y:Nat} {m:List (List Nat)} {k:List Nat} (h:BackI E g n i j m) (s:(dm E i)[j]? =some y) (q:g i=true) (r:g y=true) (o:m[y]? =some k):
 BackI E g n i (j+1) (m.set y (k++[i])):=by
 have p:=(zH.1 o).1;refine⟨by rw[cG];exact h.len,fun v w l f=> ?_,fun v l f=> ?_⟩
 ·rw[nt s]
  by_cases e:v=y
  ·subst e;rw[iu p]at f;cases f;rw[cx,h.iff v w k o,bD];constructor
   ·rintro(⟨a,b,c | ⟨c,d⟩⟩ | rfl)
    ·exact⟨a,b,.inl c⟩
    ·exact⟨a,b,.inr ⟨c,.inl d⟩⟩
    ·exact⟨q,r,.inr ⟨rfl,.inr rfl⟩⟩
   ·rintro⟨a,b,c | ⟨c,d | d⟩⟩
    ·exact .inl ⟨a,b,.inl c⟩
    ·exact .inl ⟨a,b,.inr ⟨c,d⟩⟩
    ·exact .inr c
  ·rw[gJ (bW e)]at f;rw[h.iff v w l f];constructor
   ·rintro⟨a,b,c | ⟨c,d⟩⟩
    ·exact⟨a,b,.inl c⟩
    ·exact⟨a,b,.inr ⟨c,.inl d⟩⟩
   ·rintro⟨a,b,c | ⟨c,d | d⟩⟩
    ·exact⟨a,b,.inl c⟩
    ·exact⟨a,b,.inr ⟨c,d⟩⟩
    ·exact absurd d e
 ·by_cases e:v=y
  ·subst e;rw[iu p]at f;cases f;have:=h.sz v k o;simp;omega
  ·rw[gJ (bW e)]at f;have:=h.sz v l f;omega
theorem BackI.next {E:Nat->List (Nat×Choice)} {f:Nat->Bool} {n i j:Nat} {k:List (List Nat)} (h:BackI E f n i j k) (m:j=(dm E i).length) (o:j<=268):BackI E f n (i+1) 0 k:=by
 refine⟨h.len,fun v w l g=> ?_,fun v l g=>by have:=h.sz v l g;omega⟩;rw[h.iff v w l g,m,bg];constructor
 ·rintro⟨a,b,c | ⟨c,d⟩⟩
  ·exact⟨a,b,.inl ⟨aa,c.2⟩⟩
  ·exact⟨a,b,.inl ⟨aa,c▸d⟩⟩
 ·rintro⟨a,b,⟨c,d⟩ | ⟨c,d⟩⟩
  ·by_cases e:w=i
   ·exact⟨a,b,.inr ⟨e,e▸d⟩⟩
   ·exact⟨a,b,.inl ⟨aa,d⟩⟩
  ·simp at d
def dH (part:Nat->Int) (n:Nat):List Int:=(List.range n).map part
theorem iA (part:Nat->Int) (n:Nat):(dH part n).length=n:=by simp[dH]
theorem sb (part:Nat->Int) {n i:Nat} (h:i<n):(dH part n)[i]? =some (part i):=by
 rw[dH,zJ,jo h];rfl
theorem L8 (part:Nat->Int) (n u:Nat) (y:Int):(dH part n).set u y=dH (aV part u y) n:=x_ part n u y
theorem Wo {H:ae} {A kG kE kI:Nat} {vs:List V} {n:Nat} {E:Nat->List (Nat×Choice)} {d:Nat->Bool} {t:Nat} (T:GrfH H A kG kE kI vs n E d t):
 ∃r h' n',DenR Γ G 378 [.mp kG 0 0] H A=some (r,h',n')/\(∃part:Nat->Int,ay h' n' r 1 (ai (dH part n))/\(∀v,v<n->(part v≠ -1<->d v=true))/\(∀v w,v<n->d v=true->(part v=part w<->Mut (EI (dm E) d) v w))/\A<=n'/\ ∀q,q<A->h' q=H q):=by
 have hg:=T.g;have he:=T.e;have BX:=T.len;have Hx:=T.nl;have E1:((n:Int)<=(n:Int)/\(n:Int)<=4294967296)=True:=aW aa;have tl:=T.lt;have c1: ∀a,(kG=A+a)=False:=fun a=>aJ aa
 have c2: ∀a,(kE=A+a)=False:=fun a=>aJ aa
 have g1:(kG=A+1+5)=False:=aJ aa;have g2:(kE=A+1+5)=False:=aJ aa
 refine bM (q:=?_)
 simp -dsimp only[go_sem,seval,hg,he,BX,E1,aU,g1,g2]
 refine aS 1180591620717142868144 n (fun i f h x=>(f 28).v=vi i/\(∃vb C,TabB h x (A+1+5) vb C/\BackI E d n i 0 C)/\ ∀q,q<A->h q=H q) rfl
  ⟨am,⟨List.replicate n (.t .nils),List.replicate n [],⟨?_,?_,af,fun i v l k hl=> ?_,fun i v k q _=> ?_,fun i j v w _ k I q=> ?_⟩,BackI.init E d n⟩,fun q p=> ?_⟩ ?_
 ·simp -dsimp only[go_sem,seval,List.map_replicate]
 ·refine ax ?_;omega
 ·obtain rfl:=nh (zL k);obtain rfl:=nh (zL hl);exact .inl ⟨rfl,rfl⟩
 ·obtain rfl:=nh (zL k);exact fun i n e=>by cases e
 ·obtain rfl:=nh (zL k);exact .inl fun i n e=>by cases e
 ·refine ax ?_;rw[ac aa]
 rintro i f u' h x bs hi ⟨K5,⟨vb,C,o,s⟩,L⟩;have I:=aC i aa;have hx:=o.lt;have M:=T.keep (show A<=x from aa) L
 by_cases Aj:i<n
 ·have Bq:=aW Aj;obtain⟨v,k,_⟩:=aw (show i<vs.length by rw[T.len];exact Aj);have ho:=M.own i v k;have Ap:(vs.map fun v=>[v])[i]? =some [v]:=by rw[zJ,k];rfl
  have w1:=ho.valOf;have w3:=ho.lenS;have te:=M.e;have F3:=T.small i Aj;refine dc K5 Bq te Ap w1 w3 @d_ ?_
  refine aS 590295810324345913472 (E i).length (fun j f h x=>(f 35).v=vi j/\(∃vb C,TabB h x (A+1+5) vb C/\BackI E d n i j C)/\ ∀q,q<A->h q=H q) rfl
   ⟨am,⟨vb,C,o.keep av fun q _=>rfl,s⟩,L⟩ ?_
  clear M o s L hx te;rintro j f u' h x bs hj ⟨Mh,⟨vb,C,o,s⟩,L⟩;have C9:=aC j aa;have hx:=o.lt;have M:=T.keep (show A<=x from aa) L;have tg:=M.g;have ti:=M.i;have H5:(dm E i).length=(E i).length:=by rw[dm,cL]
  by_cases AN:j<(E i).length
  ·have Ba:=aW AN;obtain⟨y,J,Eq⟩:=aw AN;have FO:=T.to i Aj y Eq;have CN:=aW FO;have JL:(dm E i)[j]? =some y.1:=by rw[dm,zJ,J];rfl
   have b1:=mw d FO;have b2:=mw d Aj;rcases M.own i v k with⟨_,e0⟩ | ⟨kv,rfl,kv1,kv2⟩
   ·have:(E i).length=0:=by rw[<- d_,e0];rfl
    omega
   ·have BR:(ct (E i))[j]? =some [vi y.1,vi y.2.thread,vi y.2.step,vi y.2.cell]:=by rw[ct,zJ,J];rfl
    by_cases Ft:d i=true/\d y.1=true
    ·obtain⟨N,h2⟩:=Ft;have H8:y.1<vb.length:=by rw[o.len,s.len];exact FO
     obtain⟨vy,IR,_⟩:=aw H8;obtain⟨ly,N6,_⟩:=aw (show y.1<C.length by rw[s.len];exact FO);have HQ:=o.own y.1 vy ly IR N6;have Hc:(vb.map fun v=>[v])[y.1]? =some [vy]:=by rw[zJ,IR];rfl
     have Fv:=o.e;have x1:=HQ.valOf;simp -dsimp only[go_sem,seval,Mh,Ba,kv2,d_,BR,tg,ti,fe,CN,Bq,b1,b2,N,h2,Fv,Hc,x1,K5,(fun b=>(HQ.upd (q:=x+1+4+17+9) aa b).rowsS: ∀b,_)];refine bX (HQ.upd (q:=x+1+4+17+9) aa _) aa (by rw[aB,cu];have:=s.sz y.1 ly N6;omega) aI rfl (eu _) ?_;intro v' hp P Cv Z;have x2:=P.valOf;have x3:=P.cellsV;unfold V.cells at x3;have yB:=Z (A+1+5) aa (o.low y.1 vy IR _ (aA _));rw[aq,ac aa,Fv]at yB;simp -dsimp only[go_sem,seval,x2,x3,yB,CN,Mh,IR,cU]
     have Ge:ay (At (updC h (x+1+4+17+9) (some (O.rows 1 [[V.t (Rg.T.int IntKind.i64 i)]] false))) hp) (x+1+4+17+9+1+1) v' 1 (ai (qI (ly++[i]))):=by
      rw[qI,dZ,<- qI,show ai (qI ly++List.map Int.ofNat [i])=ai (qI ly)++[[vi i]]from fw _ _];exact P
     have hS:=o.set IR Ge (fun q p=>Cv q aa) (fun q p Nm=>by rw[Z q aa Nm,aq,ac aa]) aa;rw[oJ]at hS;refine⟨aa,al C9,⟨vb.set y.1 v',C.set y.1 (ly++[i]),?_,s.add JL N h2 N6⟩,fun q p=> ?_⟩
     ·refine ax ?_;exact hS.keep aa fun q _=>rfl
     ·refine ax ?_;rw[ac aa,Z q aa (o.low y.1 vy IR q aa),aq,ac aa];exact L q p
    ·by_cases N:d i=true
     ·have h2:d y.1=false:=by
       cases h2:d y.1
       ·rfl
       ·exact absurd ⟨N,h2⟩ Ft
      simp -dsimp only[go_sem,seval,Mh,Ba,kv2,d_,BR,tg,ti,fe,CN,Bq,b1,b2,N,h2,K5];exact⟨aa,al C9,⟨vb,C,o.keep av fun q _=>rfl,s.skip JL Ft⟩,L⟩
     ·have HF:d i=false:=ak N
      simp -dsimp only[go_sem,seval,Mh,Ba,kv2,d_,BR,tg,ti,fe,CN,Bq,b1,b2,HF,K5];exact⟨aa,al C9,⟨vb,C,o.keep av fun q _=>rfl,s.skip JL Ft⟩,L⟩
  ·have Ba:=aJ AN;have:j=(E i).length:=aa
   refine aY Mh Ba K5 ?_;exact⟨aa,al I,⟨vb,C,o.keep av fun q _=>rfl,s.next aa aa⟩,L⟩
 ·have Bq:=aJ Aj;have:n=i:=aa
  subst this;have tg:=M.g;have te:=M.e;have g3:(kG=x+1+5)=False:=aJ aa;have g4:(kE=x+1+5)=False:=aJ aa;simp -dsimp only[go_sem,seval,K5,Bq,tg,te,BX,E1,aU,g3,g4]
  refine aS 38383394772764476296921600 n (fun c f h' y=>(f 78).v=vi c/\h' (x+1+5)=some (.rows 1 (ai (List.replicate c (-1)++List.replicate (n-c) 0)) false)/\x+1+5<y/\ ∀q,q<x->h' q=h q) rfl
   ⟨am,a_ @s_ @uk,av,fun q p=>by simp -dsimp only[go_sem,seval];rw[ac aa]⟩ ?_
  rintro c f u' h' y bs hc ⟨Pw,e1,J,AT⟩;have FQ:=aC c aa
  by_cases E0:c<n
  ·have Em:=aW E0;have a1:=fP (SR n c E0);have st:=RY n c E0;have ln:(List.replicate c (-1:Int)++List.replicate (n-c) 0).length=n:=by simp;omega
   refine cw Pw Em e1 a1 @aB ln ?_;refine⟨aa,al FQ,?_,av,fun q p=> ?_⟩
   ·refine ax ?_;rw[dR,st]
   ·refine ax ?_;rw[ac aa];exact AT q p
  ·have Em:=aJ E0;have:n=c:=aa
   subst this;rw[dA,sU,bQ,show List.replicate n (-1:Int)=dH (fun _=> -1) n by simp[dH,sQ]]at e1;refine aG Pw Em ?_;refine bf (Vu (M.keep aa AT)) ?_;rintro r h2 n2 ⟨g,S,hO,hF,Bt,Ce,Fh,Z⟩;have v1:=hO.valOf;refine ar v1 ?_;have Mq:=nO n g Bt fun v k=>((Ce v).1 k).1
   refine bf (kaE (hO.le aa) (by rw[cu];omega)) ?_;rintro r2 h3 W ⟨Hl,N1,B4⟩;have v2:=Hl.valOf;have l2:=Hl.lenS;simp -dsimp only[go_sem,seval,v2,l2,aB,cu,mH];have Aq: ∀q,q<x+1+5+1->h3 q=h' q:=fun q p=>(B4 q aa (Z q aa).2).trans (Z q aa).1
   have Mb: ∀hz z,x<=z->(∀q,q<W->q≠x+1+5->hz q=h3 q)->TabB hz z (A+1+5) vb C:=fun hz z Py p=>o.keep Py fun q PY=>by
    rw[p q aa aa,Aq q aa,AT q PY]
   have Mp: ∀v,v∈g->v<n:=fun v k=>((Ce v).1 k).1
   have B1: ∀q,q<x+1+5+1->aK r q:=fun q p=>(Z q aa).2
   refine aS 696898287454079497292912625259711498907648 g.length (fun j f hz z=>(f 91).v=vi j/\ ∃part:Nat->Int,PartC (EI (dm E) d) g part (g.length-j)/\hz (x+1+5)=some (.rows 1 (ai (dH part n)) false)/\W<=z/\ ∀q,q<W->q≠x+1+5->hz q=h3 q) rfl
    ⟨am,fun _=> -1,PartC.init _ _,by rw[Aq _ aa,e1],by first | omega | (refine ax ?_;omega),fun q _ _=>rfl⟩ ?_
   rintro j f u' hz z bs hj ⟨MB,part,P,D,Rv,B⟩;have C9:=aC j aa
   by_cases FB:j<g.length
   ·have HZ:=aW FB;obtain⟨m,hm⟩: ∃m,m=g.length-1-j:=⟨_,rfl⟩
    obtain⟨root,DM,PX⟩:=aw (show m<g.length from aa);have EA:=Mp root PX;have KI:=aW EA;rw[show g.length-j=m+1 by omega]at P
    have a1:(ai (qI g).reverse)[j]? =some [vi root]:=fP (by
     rw[F5 (by rw[cu];exact FB),cu,<- hm]
     exact qw DM)
    have a2:(ai (dH part n))[root]? =some [vi (part root)]:=fP (sb part EA);have lp:(ai (dH part n)).length=n:=by rw[aB,iA]
    rcases Hl with⟨_,e0⟩ | ⟨ko,hr,KZ,KY⟩
    ·have:g.length=0:=by rw[<- cu,<- mH,<- aB,e0];rfl
     omega
    ·have J4:ko≠x+1+5:=fun e=>B1 _ aa 0 _ (e▸hr)
     have Nz:=(B ko KZ J4).trans KY;rw[aB,mH,cu]at hr
     by_cases BH:part root= -1
     ·have AE:=P.start DM BH;have X:(ai (dH part n)).set root [V.t (Rg.T.int IntKind.i64 root)]=ai (dH (aV part root root) n):=by rw[dR,L8]
      simp -dsimp only[go_sem,seval,MB,HZ,hr,Nz,aB,mH,cu,a1,D,a2,lp,iA,KI,BH,X]
      refine aS 348449143645911348171888916314341643476992 n (fun i f Fb z2=>(f 14).v=vi i/\ ∃(part2:Nat->Int) (q:List Nat),PartS (EI (dm E) d) g part part2 m root q i/\ay Fb z2 (f 13).v 1 (ai (qI q))/\Fb (x+1+5)=some (.rows 1 (ai (dH part2 n)) false)/\W<=z2/\(∀q,q<W->q≠x+1+5->Fb q=h3 q)/\ ∀q,q<W->aK (f 13).v q) rfl
       ⟨am,aV part root root,[root],AE,?_,?_,?_,?_,?_⟩ ?_
      ·refine ax ?_;refine .inr ⟨_,rfl,?_,?_⟩
       ·first | omega | (simp -dsimp only[go_sem,seval];omega)
       ·refine ax ?_;rfl
      ·refine ax ?_;rw[ac aa]
      ·refine ax ?_;omega
      ·intro q p Az;refine ar Az ?_;rw[ac aa];exact B q p Az
      ·intro q p;refine ax ?_;exact cV aa _ _
      clear B D Nz AE X a2 lp;rintro i f u' Fb z2 bs hi ⟨C0,part2,q,R,Y,D,P2,B,Jm⟩;have BF:=aC i aa;have Ed:=nO n q R.nd fun v k=>Mp v (R.mem v (by rw[(R.pln v k).1];omega))
      have Hn:=Mb Fb z2 aa B;have v1:=Y.valOf;have l1:=Y.lenS
      by_cases L4:i<q.length
      ·have JE:=aW L4;obtain⟨u,U,PL⟩:=aw L4;have MU:=Mp u (R.mem u (by rw[(R.pln u PL).1];omega));have MT:=aW MU;rcases Y with⟨_,e0⟩ | ⟨kq,Iz,HN,HM⟩
       ·have:q.length=0:=by rw[<- cu,<- aB,e0];rfl
        omega
       ·rw[aB,cu]at Iz;have a3:=fP (qw U);obtain⟨vu,Ir,_⟩:=aw (show u<vb.length by rw[o.len,s.len];exact MU);obtain⟨Q,Lm,_⟩:=aw (show u<C.length by rw[s.len];exact MU);have Mq:=Hn.own u vu Q Ir Lm;have Hc:(vb.map fun v=>[v])[u]? =some [vu]:=by rw[zJ,Ir];rfl
        have Fv:=Hn.e;have x1:=Mq.valOf;have x2:=Mq.lenS;have E6:vb.length=n:=by rw[o.len,s.len]
        simp -dsimp only[go_sem,seval,C0,Iz,HM,JE,a3,aB,cu,Fv,Hc,x1,x2,MT,E6];have Qv:=s.sz u Q Lm
        refine aS 348447814499045201670622694203070368260096 Q.length (fun c f J K=>(f 120).v=vi c/\ ∃(part3:Nat->Int) (F:List Nat),PartS (EI (dm E) d) g part part3 m root F i/\F[i]? =some u/\(∀w∈Q.take c,part3 w≠ -1)/\ay J K (f 13).v 1 (ai (qI F))/\J (x+1+5)=some (.rows 1 (ai (dH part3 n)) false)/\W<=K/\(∀q,q<W->q≠x+1+5->J q=h3 q)/\ ∀q,q<W->aK (f 13).v q) rfl
         ⟨am,part2,q,R,U,af,?_,D,av,B,?_⟩ ?_
        ·refine ar Iz ?_;exact .inr ⟨kq,by rw[aB,cu],aa,HM⟩
        ·refine ax ?_;exact Jm
        clear B D HM Jm Hn Fv Mq R U a3 v1 l1;rintro c f u' J K bs hc ⟨Im,part3,F,ID,U,DQ,Y,D,Rx,B,Jm⟩;have FQ:=aC c aa
        by_cases By:c<Q.length
        ·have FF:=aW By;obtain⟨w,I,FP⟩:=aw By;obtain⟨B8,Cq,C8⟩:=(s.iff u w Q Lm).1 FP
         have Mm:w<n/\u∈dm E w:=by
          rcases C8 with a | ⟨_,b⟩
          ·exact a
          ·simp at b
         have E3:=aW Mm.1;have a4:(ai (dH part3 n))[w]? =some [vi (part3 w)]:=fP (sb part3 Mm.1);have lp3:(ai (dH part3 n)).length=n:=by rw[aB,iA]
         rcases(Mb J K aa B).own u vu Q Ir Lm with⟨_,e0⟩ | ⟨kl,AO,C7,D9⟩
         ·have:Q.length=0:=by rw[<- cu,<- aB,e0];rfl
          omega
         ·rw[aB,cu]at AO;have a5:=fP (qw I);have v1:=Y.valOf
          by_cases Kk:part3 w= -1
          ·have X:(ai (dH part3 n)).set w [V.t (Rg.T.int IntKind.i64 root)]=ai (dH (aV part3 w root) n):=by rw[dR,L8]
           have okp:aK (f 13).v (x+1+5):=Jm _ aa
           have Q1:ay (updC J (x+1+5) (some (.rows 1 (ai (dH (aV part3 w root) n)) false))) K (f 13).v 1 (ai (qI F)):=Y.keep (aA _) fun q _ q2=>by
            rw[aq,ac];rintro rfl;exact q2 okp
           have Qd:=nO n F ID.nd fun v k=>Mp v (ID.mem v (by rw[(ID.pln v k).1];omega))
           simp -dsimp only[go_sem,seval,Im,FF,AO,D9,aB,cu,a5,D,a4,lp3,iA,E3,Kk,X,v1,(fun b=>(Q1.upd (q:=K+1+3+5+5+2) aa b).rowsS: ∀b,_)]
           generalize DC:updC J (x+1+5) (some (.rows 1 (ai (dH (aV part3 w root) n)) false))=N at *
           refine bX (Q1.upd (q:=K+1+3+5+5+2) aa _) aa (by rw[aB,cu];omega) aI rfl (eu _) ?_;intro v' hp IE Cv HX;have x5:=IE.valOf
           have g5: ∀q,q<K->aK (f 13).v q->At (updC N (K+1+3+5+5+2) (some (O.rows 1 [[V.t (Rg.T.int IntKind.i64 w)]] false))) hp q=N q:=fun q q1 q2=>by
            rw[HX q aa q2,aq,ac aa]
           have Ge:ay (At (updC N (K+1+3+5+5+2) (some (O.rows 1 [[V.t (Rg.T.int IntKind.i64 w)]] false))) hp) (K+1+3+5+5+3+1) v' 1 (ai (qI (F++[w]))):=by
            rw[qI,dZ,<- qI,show ai (qI F++List.map Int.ofNat [w])=ai (qI F)++[[vi w]]from fw _ _];exact IE
           have AV:=(zH.1 U).1;refine bw x5 Im X DC ?_;refine⟨aa,al FQ,aV part3 w root,F++[w],ID.add hF Bt (zL U) ⟨B8,Cq,Mm.2⟩ ((Ce w).2 ⟨Mm.1,B8⟩) Kk,by rw[bP AV];exact U,fun v k=> ?_,?_,?_,av,?_,?_⟩
           ·unfold aV
            by_cases e:v=w
            ·rw[ah e];omega
            ·rw[ac e];rcases(nt I).1 k with k | k
             ·exact DQ v k
             ·exact absurd k e
           ·refine aG X DC ?_;exact Ge.le aa
           ·refine aG X DC ?_;rw[g5 _ aa okp,<- DC,aq,ah rfl]
           ·refine aG X DC ?_;intro q q1 q2;rw[g5 q aa (Jm q q1),<- DC,aq,ac q2];exact B q q1 q2
           ·refine ax ?_;exact fun q p=>Cv q aa
          ·have Np:=aJ Kk;simp -dsimp only[go_sem,seval,Im,FF,AO,D9,aB,cu,a5,D,a4,lp3,iA,E3,Np];refine⟨aa,al FQ,part3,F,ID,U,fun v k=> ?_,?_,D,av,B,?_⟩
           ·rcases(nt I).1 k with k | rfl
            ·exact DQ v k
            ·exact Kk
           ·refine ax ?_;exact Y.le aa
           ·refine ax ?_;exact Jm
        ·have FF:=aJ By;have:c=Q.length:=aa
         subst this;rw[bg]at DQ;refine aY Im FF C0 ?_;refine⟨aa,al BF,part3,F,ID.step U fun w I=>DQ w ((s.iff u w Q Lm).2 ⟨I.1,I.2.1,.inl ⟨T.insn w I.1,I.2.2⟩⟩),?_,D,av,B,?_⟩
         ·refine ax ?_;exact Y.le aa
         ·refine ax ?_;exact Jm
      ·have JE:=aJ L4;have A5:=R.le;have:i=q.length:=aa
       subst this;refine dc C0 v1 l1 @aB @cu JE MB ?_;refine⟨aa,al C9,part2,?_,D,av,B⟩;rw[show g.length-(j+1)=m by omega];exact R.done P BH
     ·have Nr:=aJ BH;simp -dsimp only[go_sem,seval,MB,HZ,hr,Nz,aB,mH,cu,a1,D,a2,lp,iA,KI,Nr];refine⟨aa,al C9,part,?_,D,av,B⟩;rw[show g.length-(j+1)=m by omega];exact P.skip DM BH
   ·have HZ:=aJ FB;have:j=g.length:=aa
    subst this;rw[dA]at P;have hf:=P.fin;refine aG MB HZ ?_
    exact⟨part,.inr ⟨x+1+5,by rw[aB,iA];rfl,av,D⟩,fun v k=>(hf.1 v).trans ⟨fun h=>((Ce v).1 h).2,fun h=>(Ce v).2 ⟨k,h⟩⟩,fun v w k GO=>hf.2 v w ((Ce v).2 ⟨k,GO⟩),av,fun q p=>by
     rw[B q aa aa,Aq q aa,AT q aa,L q p]⟩
def iT (l:List Int):List (T×V):=l.map fun k=>(ti k,vb true)
theorem yv (b:Int): ∀l:List Int,dD (ti b) (iT l)=some (if b∈l then some (vb true)else none)
 | []=>by simp[iT,dD]
 | a::l=>by
   rw[iT,aT,dD,eT,ah rfl]
   by_cases h:b=a
   ·subst h;simp
   ·have:(b==a)=false:=ak h
    rw[this];simp only[];rw[show(l.map fun k=>(ti k,vb true))=iT l from rfl,yv b l];simp[h]
theorem Ta (b:Int): ∀l:List Int,cZ (ti b) (vb true) (iT l)=some (iT (if b∈l then l else l++[b]))
 | []=>by simp[iT,cZ]
 | a::l=>by
   rw[iT,aT,cZ,eT,ah rfl]
   by_cases h:b=a
   ·subst h;simp[iT]
   ·have:(b==a)=false:=ak h
    rw[this];simp only[];rw[show(l.map fun k=>(ti k,vb true))=iT l from rfl,Ta b l]
    by_cases c:b∈l<;>simp[h,c,iT]
def MvE (E:Nat->List (Nat×Choice)) (t:Nat) (part:Nat->Int) (u:Nat) (e:Nat×Choice) (k:Int):Prop:=part u≠ -1/\part u=part e.1/\fH t e.2=true/\k=part u
def MvK (E:Nat->List (Nat×Choice)) (t:Nat) (part:Nat->Int) (i j:Nat) (k:Int):Prop:= ∃u e,((u<i/\e∈E u)\/(u=i/\e∈(E i).take j))/\MvE E t part u e k
theorem MvK.skip {E:Nat->List (Nat×Choice)} {t:Nat} {part:Nat->Int} {i j:Nat} {k:Int} {y:Nat×Choice} (b:(E i)[j]? =some y) (c: ¬MvE E t part i y k):MvK E t part i (j+1) k<->MvK E t part i j k:=by
 constructor
 ·rintro⟨u,e,h | ⟨rfl,h⟩,a⟩
  ·exact⟨u,e,.inl h,a⟩
  ·rcases(nt b).1 h with h | rfl
   ·exact⟨u,e,.inr ⟨rfl,h⟩,a⟩
   ·exact absurd a c
 ·rintro⟨u,e,h | ⟨rfl,h⟩,a⟩
  ·exact⟨u,e,.inl h,a⟩
  ·exact⟨u,e,.inr ⟨rfl,(nt b).2 (.inl h)⟩,a⟩
theorem MvK.next {E:Nat->List (Nat×Choice)} {t:Nat} {part:Nat->Int} {i:Nat} {k:Int}:MvK E t part (i+1) 0 k<->MvK E t part i (E i).length k:=by
 constructor
 ·rintro⟨u,e,⟨c,b⟩ | ⟨_,h⟩,a⟩
  ·by_cases d:u=i
   ·subst d;exact⟨u,e,.inr ⟨rfl,by rw[bg];exact b⟩,a⟩
   ·exact⟨u,e,.inl ⟨aa,b⟩,a⟩
  ·simp at h
 ·rintro⟨u,e,⟨c,b⟩ | ⟨rfl,h⟩,a⟩
  ·exact⟨u,e,.inl ⟨aa,b⟩,a⟩
  ·rw[bg]at h;exact⟨u,e,.inl ⟨aa,h⟩,a⟩
def Cyc (E:Nat->List (Nat×Choice)) (a:Nat->Bool) (t i:Nat):Prop:=a i=true/\ ∃u e,e∈E u/\a u=true/\a e.1=true/\fH t e.2=true/\Mut (EI (dm E) a) u e.1/\Mut (EI (dm E) a) u i
theorem Wt {H:ae} {x0 kG kE kI:Nat} {vs:List V} {n:Nat} {E:Nat->List (Nat×Choice)} {N:Nat->Bool} {t:Nat} (T:GrfH H x0 kG kE kI vs n E N t):
 ∃r h' n',DenR Γ G 362 [.mp kG 0 0] H x0=some (r,h',n')/\(∃good:Nat->Bool,ay h' n' r 1 (cE good n)/\(∀i,i<n->(good i=true<->Cyc E N t i))/\x0<=n'/\ ∀q,q<x0->h' q=H q):=by
 have BX:=T.len;have Hx:=T.nl;have E1:((n:Int)<=(n:Int)/\(n:Int)<=4294967296)=True:=aW aa
 refine bM (q:=ax ?_);refine bf (Wo (T.keep aa fun q _=>rfl)) ?_;rintro r w o ⟨part,hO,DN,D0,Fj,AT⟩;have v1:=hO.valOf;have T1:=T.keep (show x0<=o from aa) fun q B=>AT q aa
 have tl:=T.lt;have tg:=T1.g;have te:=T1.e;have g1:(kG=o+0)=False:=aJ aa;have g2:(kE=o+0)=False:=aJ aa;refine cw v1 tg te BX g1 g2 ?_
 refine aS 1152921504606323040 n (fun i f I z=>(f 19).v=vi i/\ ∃K:List Int,I (o+0)=some (.map (iT K))/\(∀k,k∈K<->MvK E t part i 0 k)/\o<z/\ ∀q,q<o->I q=w q) rfl
  ⟨am,[],by simp -dsimp only[go_sem,seval];rfl,fun k=>⟨fun h=>absurd h ka,fun⟨u,e,h,_⟩=>by rcases h with⟨h,_⟩ | ⟨_,h⟩<;>simp at h⟩,av,fun q B=>by simp -dsimp only[go_sem,seval];rw[ac aa]⟩ ?_
 rintro i f u' I z bs hi ⟨EZ,K,A,x,FM,m⟩;have BF:=aC i aa;have D:=T1.keep (show o<=z from aa) m;have d:(ai (dH part n)).length=n:=by rw[aB,iA]
 by_cases S:i<n
 ·have J:=aW S;obtain⟨v,hv,_⟩:=aw (show i<vs.length by rw[T.len];exact S);have ho:=D.own i v hv;have Ap:(vs.map fun v=>[v])[i]? =some [v]:=by rw[zJ,hv];rfl
  have w1:=ho.valOf;have w3:=ho.lenS;have C:=D.e;have F3:=T.small i S;have L:(ai (dH part n))[i]? =some [vi (part i)]:=fP (sb part S);refine dc EZ J C Ap w1 w3 @d_ ?_
  refine aS 576460752236314880 (E i).length (fun j f I z=>(f 26).v=vi j/\ ∃K:List Int,I (o+0)=some (.map (iT K))/\(∀k,k∈K<->MvK E t part i j k)/\o<z/\ ∀q,q<o->I q=w q) rfl
   ⟨am,K,A,x,av,m⟩ ?_
  clear D A x m C ho w1 w3 K FM;rintro j f u' I z bs hj ⟨U,K,A,x,FM,m⟩;have C9:=aC j aa;have D:=T1.keep (show o<=z from aa) m
  by_cases AN:j<(E i).length
  ·have W:=aW AN;obtain⟨y,s,Eq⟩:=aw AN;have FO:=T.to i S y Eq;have CN:=aW FO;have b2:(ai (dH part n))[y.1]? =some [vi (part y.1)]:=fP (sb part FO);rcases D.own i v hv with⟨_,Z⟩ | ⟨kv,rfl,kv1,R⟩
   ·have:(E i).length=0:=by rw[<- d_,Z];rfl
    omega
   ·rcases hO with⟨_,Z⟩ | ⟨kp,hr,P,Q⟩
    ·have:n=0:=by rw[<- d,Z];rfl
     omega
    ·rw[d]at hr;subst hr;have l:=(m kp P).trans Q;have BR:(ct (E i))[j]? =some [vi y.1,vi y.2.thread,vi y.2.step,vi y.2.cell]:=by rw[ct,zJ,s];rfl
     by_cases c1:part i= -1
     ·refine kT U W R @d_ BR l d @iA J L c1 ?_;exact⟨aa,al C9,K,A,fun k=>(x k).trans (MvK.skip s fun h=>h.1 c1).symm,av,m⟩
     ·have Y:=aJ c1
      by_cases c2:part i=part y.1
      ·have M:=aW c2;simp -dsimp only[go_sem,seval,U,W,R,d_,BR,l,d,iA,J,CN,L,b2,Y,M];refine bf (Md (D.keep aa fun q _=>rfl) y.2) ?_;rintro r F n2 ⟨rfl,rfl,Fh⟩;cases Ab:fH t y.2
       ·refine ar U ?_;exact⟨aa,al C9,K,A,fun k=>(x k).trans (MvK.skip s fun h=>by rw[h.2.2.1]at Ab;cases Ab).symm,av,m⟩
       ·refine qR U A l d @iA J L @Ta ?_;refine⟨aa,al C9,if part i∈K then K else K++[part i],am,fun k=> ?_,av,fun q B=>by simp -dsimp only[go_sem,seval];rw[ac aa];exact m q B⟩;have B2:MvK E t part i (j+1) (part i):=⟨i,y,.inr ⟨rfl,(nt s).2 (.inr rfl)⟩,c1,c2,Ab,rfl⟩
        have Bc: ∀k,MvK E t part i j k->MvK E t part i (j+1) k:=fun k ⟨u,e,h,hm⟩=>⟨u,e,h.imp id fun⟨a,b⟩=>⟨a,(nt s).2 (.inl b)⟩,hm⟩
        by_cases hk:k=part i
        ·subst hk;refine⟨fun _=>B2,fun _=> ?_⟩;split
         ·assumption
         ·simp
        ·have w:k∈(if part i∈K then K else K++[part i])<->k∈K:=by
          split
          ·rfl
          ·simp[hk]
         rw[w,x k];exact(MvK.skip s fun h=>hk h.2.2.2).symm
      ·have M:=aJ c2;simp -dsimp only[go_sem,seval,U,W,R,d_,BR,l,d,iA,J,CN,L,b2,Y,M];exact⟨aa,al C9,K,A,fun k=>(x k).trans (MvK.skip s fun h=>c2 h.2.1).symm,av,m⟩
  ·have W:=aJ AN;have:j=(E i).length:=aa
   subst this;refine aY U W EZ ?_;exact⟨aa,al BF,K,A,fun k=>(x k).trans MvK.next.symm,av,m⟩
 ·have J:=aJ S;have:n=i:=aa
  subst this;have tg2:=D.g;have C:=D.e;simp -dsimp only[go_sem,seval,EZ,J,tg2,C,BX,E1,aU]
  have QJ: ∀i,i<n->(part i∈K<->Cyc E N t i):=by
   intro i hi;rw[x];constructor
   ·rintro⟨u,e,h,w,F,h3,h4⟩
    have p:u<n/\e∈E u:=by
     rcases h with h | ⟨_,h⟩
     ·exact h
     ·simp at h
    have CU:=(DN u p.1).1 w;have Ch:=T.to u p.1 e p.2;have Ks:=(DN e.1 Ch).1 (by rw[<- F];exact w);have Kr:=(DN i hi).1 (by rw[h4];exact w);exact⟨Kr,u,e,p.2,CU,Ks,h3,(D0 u e.1 p.1 CU).1 F,(D0 u i p.1 CU).1 h4.symm⟩
   ·rintro⟨Kr,u,e,w,F,h3,h4,h5,h6⟩;have p:=T.insn u F;exact⟨u,e,.inl ⟨p,w⟩,(DN u p).2 F,(D0 u e.1 p F).2 h5,h4,((D0 u i p F).2 h6).symm⟩
  have NS: ∀c,(cE (fun i=>decide (i<c/\part i∈K)) n).set c [vb (decide (part c∈K))]=cE (fun i=>decide (i<c+1/\part i∈K)) n:=fun c=>by
   rw[yh];refine bz (fun g=>cE g n) (funext fun i=> ?_);unfold aV
   by_cases e:i=c
   ·subst e;simp
   ·rw[ac e];exact sK.2 ⟨fun⟨a,b⟩=>⟨aa,b⟩,fun⟨a,b⟩=>⟨aa,b⟩⟩
  have Ip:(o+0=z+1+5)=False:=aJ aa
  refine aS 2417556491324078996587520 n (fun c f s y=>(f 68).v=vi c/\s (z+1+5)=some (.rows 1 (cE (fun i=>decide (i<c/\part i∈K)) n) false)/\z+1+5<y/\ ∀q,q<z->s q=I q) rfl
   ⟨am,?_,av,fun q B=>by simp -dsimp only[go_sem,seval];rw[ac aa]⟩ ?_
  ·refine ax ?_;simp only[cE,sO,pZ,pN,sQ,pX]
  rintro c f u' s y bs hc ⟨OH,e1,IP,X⟩;have FQ:=aC c aa
  by_cases E0:c<n
  ·have Em:=aW E0;have L:(ai (dH part n))[c]? =some [vi (part c)]:=fP (sb part E0);rcases hO with⟨_,Z⟩ | ⟨kp,hr,P,Q⟩
   ·have:n=0:=by rw[<- d,Z];rfl
    omega
   ·rw[d]at hr;subst hr;have l:=(X kp aa).trans ((m kp P).trans Q);have Pt:=(X (o+0) aa).trans A;have hg:=NS c;have C2:=mw (fun i=>decide (i<c/\part i∈K)) E0
    by_cases Ev:part c∈K
    ·have hd:decide (part c∈K)=true:=ql Ev;rw[hd]at hg;simp -dsimp only[go_sem,seval,OH,Em,e1,fe,l,d,iA,L,Pt,yv,Ev,gp,C2,hg];refine⟨aa,al FQ,am,av,fun q B=>by simp -dsimp only[go_sem,seval];rw[ac aa];exact X q B⟩
    ·have hd:decide (part c∈K)=false:=nk Ev;rw[hd]at hg;simp -dsimp only[go_sem,seval,OH,Em,e1,fe,l,d,iA,L,Pt,yv,Ev,j_,C2,hg];refine⟨aa,al FQ,am,av,fun q B=>by simp -dsimp only[go_sem,seval];rw[ac aa];exact X q B⟩
  ·have Em:=aJ E0;have:n=c:=aa
   subst this;refine aG OH Em ?_;refine⟨_,.inr ⟨z+1+5,by rw[fe];rfl,av,e1⟩,fun i hi=> ?_,av,fun q B=>by rw[X q aa,m q aa,AT q aa]⟩;rw[<- QJ i hi];simp[hi]
theorem Yz (c:RK) (p:Prog) (hs:p.sane) (D:aO p=true) (k:Int) (hk:0<=k/\k<=2) (a:Nat) (h1:1<=a) (h2:a<=20000) (env:Nat->V) (H:ae) (nx:Nat)
 (DA:H c.ky=some (.loop env [11] jQ .ready)) (e3:env 3= .mp c.k3 0 0) (e4:env 4= .mp c.k4 0 0) (e5:env 5= .mp c.k5 0 0) (e6:env 6= .mp c.k6 0 0) (e7:env 7= .mp c.k7 0 0)
 (h3:H c.k3=some (.rows 1 [[.mp c.kS 0 0]] false)) (h4:H c.k4=some (.rows 1 [[vi a]] false)) (h5:H c.k5=some (.rows 1 [[.fn 376 [] [.mp c.kL 0 0]]] false)) (h6:H c.k6=some (.rows 1 [[vi 0]] false)) (h7:H c.k7=some (.rows 1 [[vi 0]] false)) (n67:c.k6≠c.k7)
 (I:H c.kSV=some (.rows 1 [[.mp c.kS 0 0]] false)) (hS:H c.kS=some (.rows 6 [[.t (.sl (p.cells.map Cell.enc)),.t (.sl (p.modules.map Contract.enc)),.t (.sl (p.locks.map Lock.enc)),.t (.sl (p.threads.map Thread.enc)),vi k,.t .nils]] false))
 (hL:H c.kL=some (.rows 1 [[.t .nils]] false)) (bd:c.ky<nx/\c.k3<nx/\c.k4<nx/\c.k5<nx/\c.k6<nx/\c.k7<nx/\c.kL<nx/\c.kS<nx/\c.kSV<nx):
 ∃r h' o,DenR Γ G 392 [.yl c.ky,.mp c.kSV 0 0] H nx=some (r,h',o)/\(nx<=o/\
  ((∃l vL,dX p k a=some l/\h' c.ky=some (.loop env [11] jQ .ready)/\h' c.k6=some (.rows 1 [[vi 0]] false)/\h' c.k7=some (.rows 1 [[vi 0]] false)/\h' c.kL=some (.rows 1 [[vL]] false)/\ay h' o vL 3 (dx l))\/
   (dX p k a=none/\pd c env h'))):=by
 have AE:=Lo p hs;obtain⟨b1,b2,b3,b4,b5,b6,b7,b8,b9⟩:=bd;have FT:=r7 D k
 refine bM (q:=?_)
 have u1:(c.kSV=nx+1+1)=False:=aJ aa;have u2:(c.kSV=nx+1+0)=False:=aJ aa;have u3:(c.kSV=nx+0)=False:=aJ aa;have u4:(c.kS=nx+1+1)=False:=aJ aa;have u5:(c.kS=nx+1+0)=False:=aJ aa;have u6:(c.kS=nx+0)=False:=aJ aa;refine nJ I hS AE u1 u2 u3 u4 u5 u6 ?_;obtain⟨K,hK⟩: ∃K:RK,K= { c with kY:=nx+0,kSe:=nx+1+1,kM:=nx+1+0 }:=⟨_,rfl⟩
 have keyS:K.ky=c.ky/\K.k6=c.k6/\K.k7=c.k7/\K.kL=c.kL/\K.kSV=c.kSV/\K.kS=c.kS/\K.kY=nx+0/\K.kSe=nx+1+1:=by rw[hK];exact⟨rfl,rfl,rfl,rfl,rfl,rfl,rfl,rfl⟩
 obtain⟨t1,t2,t3,t4,t5,Y,t7,t8⟩:=keyS
 have R0: ∀z,nx+1+2<=z->RI K p k a env (updC (updC (updC (updC H (nx+0) (some (O.rows 1 [[V.yl c.ky]] false))) (nx+1+0) (some (O.map []))) (nx+1+1) (some (O.rows 1 [[V.t T.nilm]] false))) (nx+1+1) (some (O.rows 1 [[V.mm (nx+1+0)]] false))) z [] [] (.t .nils) (.t .nils):=fun z hz=>by
  have q: ∀j,j<nx->updC (updC (updC (updC H (nx+0) (some (O.rows 1 [[V.yl c.ky]] false))) (nx+1+0) (some (O.map []))) (nx+1+1) (some (O.rows 1 [[V.t T.nilm]] false))) (nx+1+1) (some (O.rows 1 [[V.mm (nx+1+0)]] false)) j=H j:=fun j hj=>by
   rw[aq,ac aa,aq,ac aa,aq,ac aa,aq,ac aa]
  rw[hK];refine⟨(q _ b1).trans DA,e3,e4,e5,e6,e7,(q _ b2).trans h3,(q _ b3).trans h4,(q _ b4).trans h5,(q _ b5).trans h6,(q _ b6).trans h7,n67,(q _ b9).trans I,?_,?_,?_,(q _ b8).trans hS,.inl ⟨rfl,rfl⟩,(q _ b7).trans hL,.inl ⟨rfl,rfl⟩,?_⟩
  ·show updC _ _ _ (nx+0)=_;rw[aq,ac aa,aq,ac aa,aq,ac aa,aq,ah rfl]
  ·show updC _ _ _ (nx+1+1)=_;rw[aq,ah rfl]
  ·show updC _ _ _ (nx+1+0)=_;rw[aq,ac aa,aq,ac aa,aq,ah rfl];rfl
  ·simp only;omega
 have DE: ∀{H':ae} {w:Nat} {l:List Vis} {t vL:V},RI K p k a env H' w l l t vL-> ∀d:Vis,IsB p d.c->(∀v∈l,IsB p v.c)->l.length<=a->
  ∃r h' o,DenR Γ G 393 [.agg [.t (ints d.c.mem),.t (ints d.c.at_),.t (.sl (d.c.buf.map fun b=>[.sl (b.map Entry.enc)])),vi d.fr,vi d.x.thread,vi d.x.step,vi d.x.cell],.mp (nx+1+1) 0 0,.mp c.kSV 0 0,.mp (nx+0) 0 0] H' w=some (r,h',o)/\(w<=o/\if g6 l d.c then r=vb true/\ ∃g e,RI K p k a env h' o l l g e
  else if l.length=a then r=vb false/\pd K env h' else r=vb true/\ ∃g e,RI K p k a env h' o (l++[d]) (l++[d]) g e):=fun R d W Aa hl=>by
  have:=X6 D R d W Aa aa;rw[t5,t7,t8]at this;exact this
 have Ai: ∀h':ae,pd K env h'->pd c env h':=fun h' ⟨q1,q2,q3⟩=>⟨t1▸q1,t2▸q2,t3▸q3⟩
 refine bf (DE (R0 _ aa) (v0 p) FT.b af af) ?_;rintro r h' o ⟨Jt,n⟩;rw[ac (by simp[g6]),ac (by simp;omega)]at n;obtain⟨rfl,t,vL,R⟩:=n;rw[eY]at R;clear R0;refine ax ?_
 refine aS 1208925819614629170513760 (a+1) (fun i f h x=>(f 5).v=vi i/\nx<=x/\ ∃(l:List Vis) (t vL:V),RI K p k a env h x l l t vL/\i<=l.length/\1<=l.length/\l.length<=a/\(∀v∈l,IsK p k v.c)/\dX p k a=goV p k a (a+1-i) i l) rfl
  ⟨am,av,[v0 p],t,vL,by simp -dsimp only[go_sem,seval];exact R.le aa,af,af,ak h1,fun v s=>by simp only[bD]at s;subst s;exact FT,rfl⟩ ?_
 clear R;rintro i f u H2 x bs hi ⟨S,ED,l,t,vL,R,g1,g2,g3,g4,g5⟩;have hw:=aC i aa;have r1:=R.hSV;have X:=R.hS;rw[t5,Y]at r1;rw[Y]at X;rcases R.oV with⟨_,e1⟩ | ⟨kV,rfl,e2,F⟩
 ·have:=mr l;rw[e1]at this;simp at this;omega
 rw[mr]at R X
 by_cases Ad:i<l.length
 ·have Af:=aW Ad;obtain⟨v,s,Kg⟩:=aw Ad;have E:=g4 v Kg;have Ch:=HA p hs D k hk v.c E;have Ap:=Ph s;have i0:(0:Int)<=(i:Int):=aa
  have i1:(i:Int)<(l.length:Int):=aa
  refine jk S r1 X F Af i0 i1 Ap @mr Ch ?_
  generalize Z:c_ p k v.c=cs at *
  have By:=tY D (k:=k) E.b;rw[<- q9 E,Z]at By;have G8:eX p k v.c i=cs.map fun x=>⟨(dy p k v.c x).1,i,x⟩:=by rw[eX,Z]
  have M:dX p k a=(g9 a l (eX p k v.c i)).bind fun l'=>goV p k a (a-i) (i+1) l':=by
   rw[g5,show a+1-i=a-i+1 from aa,goV,s]
  refine aS 1208925818488729267865344 cs.length (fun j f h x=>(f 50).v=vi j/\nx<=x/\ ∃(l':List Vis) (t vL:V),RI K p k a env h x l' l' t vL/\l'[i]? =some v/\l'.length<=a/\(∀v∈l',IsK p k v.c)/\g9 a l (eX p k v.c i)=g9 a l' ((eX p k v.c i).drop j)) rfl
   ⟨am,av,l,_,vL,by simp -dsimp only[go_sem,seval];exact R.le aa,s,g3,g4,by rw[ie]⟩ ?_
  rintro j f2 u2 H3 x2 bs2 hj ⟨Q,Qn,l',g,e,U,C,CE,P,m⟩;have BO:=aC j aa;have J:=U.hSV;have L:=U.hS;rw[t5,Y]at J;rw[Y]at L
  by_cases AN:j<cs.length
  ·have Ba:=aW AN;obtain⟨y,hy,Eq⟩:=aw AN;have Hs:y∈c_ p k v.c:=by rw[Z];exact Eq
   have ED:=xP p hs D k hk v.c E y;obtain⟨d,Bt,W⟩:=sc D E Hs;rw[Bt]at ED
   have Gb:(eX p k v.c i).drop j=⟨d,i,y⟩::(eX p k v.c i).drop (j+1):=by
    have:(eX p k v.c i)[j]? =some ⟨d,i,y⟩:=by rw[G8,zJ,hy];simp[Bt]
    exact je this
   rw[Gb,g9,lH]at m;refine dc Q S J L Ba hy ED ?_;refine bf (DE (U.le aa) ⟨d,i,y⟩ W.b (fun v s=>(P v s).b) CE) ?_;rintro r h' o ⟨Jt,n⟩;have AV:=(zH.1 C).1;cases N:g6 l' d
   ·rw[ac (by simp only[N];simp)]at n;rw[ac (by simp[N])]at m
    by_cases AC:l'.length=a
    ·rw[ah AC]at n;rw[ah aa,sL]at m;rw[m,sL]at M;obtain⟨rfl,Dk⟩:=n;refine ax ?_;exact⟨aa,.inr ⟨M,Ai _ Dk⟩⟩
    ·rw[ac AC]at n;rw[ac aa,zD]at m;obtain⟨rfl,B,A,R2⟩:=n;refine ar Q ?_;refine⟨aa,al BO,av,l'++ [⟨d,i,y⟩],B,A,by simp -dsimp only[go_sem,seval];exact R2.le aa,?_,by rw[zM,fN];omega,fun v' C=> ?_,m⟩
     ·rw[bP AV];exact C
     ·rcases cx.1 C with h | h
      ·exact P v' h
      ·rw[bD]at h;subst h;exact W
   ·rw[ah (by simp only[N])]at n;rw[ah (by simp only[N]),zD]at m;obtain⟨rfl,B,A,R2⟩:=n;refine ar Q ?_;exact⟨aa,al BO,av,l',B,A,by simp -dsimp only[go_sem,seval];exact R2.le aa,C,CE,P,m⟩
  ·have Ba:=aJ AN;have:j=cs.length:=aa
   subst this;rw[show(eX p k v.c i).drop cs.length=[]from oy (by rw[G8,cL];omega),g9]at m;rw[m,zD]at M;have AV:=(zH.1 C).1;refine aY Q S Ba ?_;exact⟨aa,al hw,av,l',g,e,by simp -dsimp only[go_sem,seval];exact U.le aa,aa,aa,CE,P,by rw[M,show a+1-(i+1)=a-i by omega]⟩
 ·have Af:=aJ Ad
  have hb:dX p k a=some l:=by
   rw[g5]
   cases a+1-i with
   | zero=>rfl
   | succ f=>rw[goV,fO aa]
  refine cw S r1 X F Af @mr ?_;refine⟨av,.inl ⟨l,vL,hb,?_,?_,?_,?_,?_⟩⟩
  ·rw[<- t1];exact R.hk
  ·rw[<- t2];exact R.h6
  ·rw[<- t3];exact R.h7
  ·rw[<- t4];exact R.hL
  ·refine ax ?_;exact R.oL.le aa
theorem Zg (a:Nat) (H:ae) (n:Nat): ∃r h' b,DenR Γ G 386 [.mp a 0 0] H n=some (r,h',b)/\(r= .fn 392 [] [.mp n 0 0]/\h'=updC H n (some (.rows 1 [[.mp a 0 0]] false))/\n<b):=by
 refine bM (q:=ax ?_);refine⟨rfl,by simp -dsimp only[go_sem,seval];rfl,av⟩
theorem X9 (p:Prog) (R:p.sane) (M:aO p=true) (k:Int) (Q:0<=k/\k<=2) (c:Nat) (I:1<=c) (J:c<=20000) (f g:Nat) (H:ae) (nx:Nat)
 (L:H f=some (.rows 6 [[.t (.sl (p.cells.map Cell.enc)),.t (.sl (p.modules.map Contract.enc)),.t (.sl (p.locks.map Lock.enc)),.t (.sl (p.threads.map Thread.enc)),vi k,.t .nils]] false))
 (K:H g=some (.rows 1 [[.t .nils]] false)) (bS:f<nx) (Z:g<nx):
 ∃r h' d,DenR Γ G 375 [.mp f 0 0,vi c,.fn 376 [] [.mp g 0 0]] H nx=some (r,h',d)/\
  ((∃l vL,dX p k c=some l/\r= .tup [vi 0,vi 4]/\h' g=some (.rows 1 [[vL]] false)/\ay h' d vL 3 (dx l))\/(dX p k c=none/\r= .tup [vi 0,vi 2])):=by
 have t: ∀a b:Nat,a≠b->(nx+a=nx+b)=False:=fun a b h=>aJ aa
 have C:=t 0 4 aI;have D:=t 0 3 aI;have E:=t 0 2 aI;have F:=t 0 1 aI
 refine bM (q:=bw C D E F ?_);refine bf (Zg f _ _) ?_;rintro r h' d ⟨rfl,rfl,u⟩;refine ax ?_
 refine yS (P:=fun e h' n=>nx+5+2<d/\d+1<=n/\((e= .normal/\ ∃l vL,dX p k c=some l/\(∀rs,h' d≠some (.rows 3 rs false))/\h' (nx+3)=some (.rows 1 [[vi 0]] false)/\h' (nx+4)=some (.rows 1 [[vi 0]] false)/\h' g=some (.rows 1 [[vL]] false)/\ay h' n vL 3 (dx l))\/
  (e= .ret/\dX p k c=none/\h' (nx+3)=some (.rows 1 [[vi 0]] false)/\h' (nx+4)=some (.rows 1 [[vi 2]] false)))) ?_ ?_
 ·have N:=Yz ⟨d,nx+0,nx+1,nx+2,nx+3,nx+4,g,f,nx+5+2,0,0,0⟩ p R M k Q c I J (envC (updC (updC (begC (updC (updC (updC (updC (updC (begC (slotsC [V.mp f 0 0,vi c,V.fn 376 [] [V.mp g 0 0]] 0)) 3 ⟨V.mp (nx+0) 0 0,none,none⟩) 4 ⟨V.mp (nx+1) 0 0,none,none⟩) 5 ⟨V.mp (nx+2) 0 0,none,none⟩) 6 ⟨V.mp (nx+3) 0 0,none,none⟩) 7 ⟨V.mp (nx+4) 0 0,none,none⟩)) 9 ⟨V.mp f 0 0,none,none⟩) 10 ⟨V.fn 392 [] [V.mp (nx+5+2) 0 0],none,none⟩))
   (updC (updC (updC (updC (updC (updC (updC H (nx+0) (some (O.rows 1 [[V.mp f 0 0]] false))) (nx+1) (some (O.rows 1 [[vi c]] false))) (nx+2) (some (O.rows 1 [[V.fn 376 [] [V.mp g 0 0]]] false))) (nx+3) (some (O.rows 1 [[vi 0]] false))) (nx+4) (some (O.rows 1 [[vi 0]] false))) (nx+5+2) (some (O.rows 1 [[V.mp f 0 0]] false))) d (some (O.loop _ [11] jQ LSt.ready))) (d+1)
   (by rw[aq,ah rfl]) am am am am am
   (by simp only[aq];repeat(first | rw[ac aa] | rw[ah (by trivial)])) (by simp only[aq];repeat(first | rw[ac aa] | rw[ah (by trivial)])) (by simp only[aq];repeat(first | rw[ac aa] | rw[ah (by trivial)]))
   (by simp only[aq];repeat(first | rw[ac aa] | rw[ah (by trivial)])) (by simp only[aq];repeat(first | rw[ac aa] | rw[ah (by trivial)])) af
   (by simp only[aq];repeat(first | rw[ac aa] | rw[ah (by trivial)])) (by simp only[aq];(repeat(first | rw[ac aa] | rw[ah (by trivial)]));exact L) (by simp only[aq];(repeat(first | rw[ac aa] | rw[ah (by trivial)]));exact K) (by simp only;omega)
  obtain⟨r,h',n,o,m,⟨l,vL,i,s,j,x,W,X⟩ | ⟨i,s,j,x⟩⟩:=N
  ·exact⟨r,h',n,o,_,_,_,_,_,s,rfl,u,m,.inl ⟨rfl,l,vL,i,(fun rs e=>by rw[show h' d=some _ from s]at e;cases e),j,x,W,X⟩⟩
  ·exact⟨r,h',n,o,_,_,_,_,_,s,rfl,u,m,.inr ⟨rfl,i,j,x⟩⟩
 ·rintro e h' n ⟨u,Y,⟨rfl,l,vL,o,U,m,i,s,j⟩ | ⟨rfl,o,m,i⟩⟩
  ·have v:(nx+3=d)=False:=aJ aa;have w:(nx+4=d)=False:=aJ aa;have S:(nx+4=nx+3)=False:=aJ aa;have T:(nx+3=nx+4)=False:=aJ aa;refine cw m i v w S T ?_;refine .inl ⟨l,vL,o,rfl,?_,?_⟩
   ·simp only[cy,bE,aq];rw[ac aa,ac aa,ac aa];exact s
   ·refine j.keep (by simp[nC]) fun q r1 y=> ?_
    have z:q≠d:=by rintro rfl;exact y (j.offAt U)
    have A:q≠nx+3:=by rintro rfl;exact y (j.offAt fun rs e=>by rw[m]at e;cases e)
    have B:q≠nx+4:=by rintro rfl;exact y (j.offAt fun rs e=>by rw[i]at e;cases e)
    simp only[cy,bE,aq];rw[ac B,ac A,ac z]
  ·have v:(nx+3=d)=False:=aJ aa;have w:(nx+4=d)=False:=aJ aa;refine bw m i v w ?_;exact .inr ⟨o,rfl⟩
theorem Xe (p:Prog) (g:p.sane) (f:aO p=true) (k:Int) (j:0<=k/\k<=2) (a:Nat) (h:1<=a) (i:a<=20000):Den Γ G 374 [(zP p),vi k,vi a]=some (vb true):=by
 have b:Den Γ G 385 [(zP p)]=some (vb true):=by
  have b:=tw p g;have e:(dh p).1=0:=by simpa[aO]using f
  exact aD (q:=a_ b e)
 have c:(a:Int)>=1:=aa
 have d:(a:Int)<=20000:=aa
 refine aD (q:=?_)
 rcases(show k=0\/k=1\/k=2 from aa)with rfl | rfl | rfl
 ·exact dp b c d
 ·exact dp b c d
 ·exact dp b c d
theorem Wi (p:Prog) (j:p.sane) (h:aO p=true) (k:Int) (i:0<=k/\k<=2) (a:Nat) (f:1<=a) (g:a<=20000):
 Den Γ G 360 [(zP p),vi k,vi a]=some (match dX p k a with
  | some l=> .tup [.t (.sl (l.map fun v=>Config.enc v.c)),vi 0]
  | none=> .tup [.t (.sl []),vi 2]):=by
 have o:=Xe p j h k i a f g
 have d: ∀l:List Vis,∀e∈l.map (fun v=>Config.enc v.c),∀t∈e,T.norm t=t:=by
  intro l e u t b;obtain⟨v,-,rfl⟩:=df.1 u;simp only[Config.enc,cq,ka,dQ]at b;rcases b with rfl | rfl | rfl<;>rfl
 refine aD (q:=ar o ?_);refine bf (X9 p j h k i a f g 12 8 _ _ am am aa aa) ?_;rintro r h' A (⟨l,vL,c,rfl,m,n⟩ | ⟨c,rfl⟩)
 ·have b:=jy (es:=l.map fun v:Vis=>Config.enc v.c) n (d l);rw[c];rcases n with⟨rfl,q⟩ | ⟨z,rfl,y,s⟩
  ·have w:l=[]:=by simpa[dx]using q
   subst w;exact al m
   done
  ·have x:(dx l).mapM (fun row=>row.mapM (toT h' 999))=some (l.map fun v=>Config.enc v.c):=mu h' 999 (l.map fun v:Vis=>Config.enc v.c) (d l);refine aG m s ?_;rw[ah (aA _),bg];simp only[zD];rw[x];rfl
 ·rw[c];exact am
  done
end Rg
end
