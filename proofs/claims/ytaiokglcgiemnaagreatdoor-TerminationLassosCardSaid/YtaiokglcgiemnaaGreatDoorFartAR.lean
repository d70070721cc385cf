/- Part of the proof of laws of relyguardlaw36. No condition. -/
import Derived.Test.YtaiokglcgiemnaaGreatDoorFartAK
import Derived.Test.YtaiokglcgiemnaaGreatDoorFartAQ
import Derived.Test.YtaiokglcgiemnaaGreatDoorFartAP
set_option linter.unusedSimpArgs false
set_option linter.unusedVariables false
set_option linter.defProp false
section
namespace Rg
open Go
noncomputable def envC:(Nat->Slot)->Nat->V:=(Classical.choice (⟨⟨fun sl t=>(sl t).v,rfl⟩⟩:Nonempty {g:(Nat->Slot)->Nat->V// g=fun sl t=>(sl t).v})).1
theorem S1:envC=fun sl t=>(sl t).v:=(Classical.choice (⟨⟨fun sl t=>(sl t).v,rfl⟩⟩:Nonempty {g:(Nat->Slot)->Nat->V// g=fun sl t=>(sl t).v})).2
@[go_sem ↓]theorem zBO (sl:Nat->Slot) (t:Nat):envC sl t=(sl t).v:=by rw[S1]
@[go_sem ↓]theorem zzA (f:Nat->V) (i j:Nat) (v:V):updC f i v j=pk (j==i) v (f j) ⟨0⟩:=by rw[cm,qB];rfl
def rL (env:Nat->V) (a:List Nat) (vs:List V):Nat->Slot:=fun t=>⟨pP env a vs t,none,none⟩
noncomputable def rndS:(Nat->V)->List Nat->List V->Nat->Slot:=(Classical.choice (⟨⟨rL,rfl⟩⟩:Nonempty {g:(Nat->V)->List Nat->List V->Nat->Slot// g=rL})).1
theorem yV:rndS=rL:=(Classical.choice (⟨⟨rL,rfl⟩⟩:Nonempty {g:(Nat->V)->List Nat->List V->Nat->Slot// g=rL})).2
@[go_sem ↓]theorem zzE (env:Nat->V) (t:Nat):(rndS env [] [] t).v=env t:=by rw[yV];rfl
@[go_sem ↓]theorem zyg (env:Nat->V) (p:Nat) (a:List Nat) (v:V) (vs:List V) (t:Nat):(rndS env (p::a) (v::vs) t).v=(rndS (updC env p v) a vs t).v:=by rw[yV,cm];rfl
section
variable {Γ:Nat->Option F} {G:Nat->List T}
def wU (o:Option (V×ae×Nat)) (k:Nat) (K:Ex->ae->Nat->Prop) (_:WK K):Prop:=
 ∃r h' a,o=some (r,h',a)/\ ∃env d c b e,h' k=some (.loop env d c b)/\b.ends=some e/\K e (updC h' k (some .dead)) a
@[go_sem ↓]theorem zAZ (x:Opd) (p:List Nat) (k:C) (Q:Ex->M->Prop) (sl:Nat->Slot) (u:Nat->Bool) (h:ae) (n b:Nat) (w:W3 (.rangeF x p k) Q ⟨sl,u,h,n,b⟩):
 wC Γ G (.rangeF x p k) Q ⟨sl,u,h,n,b⟩ w=fnK (aD G sl x) (fun g a c=>wU (DenR Γ G g (a++[V.yl n]++c) (updC h n (some (.loop (envC sl) p k .ready))) (n+1)) n (fun e h' i=>Q e ⟨sl,u,h',i,b⟩) ⟨0⟩) ⟨0⟩:=by
 unfold wC;rw[fl,cm,S1];simp only[wpC,bP]
 cases aD G sl x with
 | none=>rfl
 | some v=>
   simp only[zD,fnK]
   cases cD v with
   | none=>rfl
   | some q=>
     obtain⟨g,a,c⟩:=q;simp only[wU,cm];apply propext;constructor
     ·rintro⟨r,h',i,j,_,env',f,d,s,e,o,m,l⟩;exact⟨r,h',i,jA.2 j,env',f,d,s,e,o,m,l⟩
     ·rintro⟨r,h',i,j,env',f,d,s,e,o,m,l⟩;exact⟨r,h',i,jA.1 j,zp (jA.1 j),env',f,d,s,e,o,m,l⟩
theorem yU {o:Option (V×ae×Nat)} {k:Nat} {K:Ex->ae->Nat->Prop} {w:WK K} {P:Ex->ae->Nat->Prop}
 (h: ∃r h' a,o=some (r,h',a)/\ ∃env d c b e,h' k=some (.loop env d c b)/\b.ends=some e/\P e h' a) (j: ∀e h' a,P e h' a->K e (updC h' k (some .dead)) a):wU o k K w:=by
 obtain⟨r,h',a,f,env,d,c,b,e,g,i,hp⟩:=h;exact⟨r,h',a,f,env,d,c,b,e,g,i,j e h' a hp⟩
def FiY (P:Ex->ae->Nat->Prop) (e:Ex) (m:M):Prop:=P e m.heap m.nxt
@[go_sem ↓]theorem zCV (P:Ex->ae->Nat->Prop) (e:Ex) (sl:Nat->Slot) (u:Nat->Bool) (h:ae) (n b:Nat):FiY P e ⟨sl,u,h,n,b⟩=SpN (P e h n) ⟨0⟩:=rfl
def rS (o:Option O) (K:(Nat->V)->List Nat->C->Prop) (_:WK K):Prop:=match o with
 | some (.loop env ps bd .enter)=>K env ps bd
 | _=>False
@[go_sem]theorem zy1 (env:Nat->V) (b:List Nat) (a:C) (K:(Nat->V)->List Nat->C->Prop) (w:WK K):rS (some (.loop env b a .enter)) K w=K env b a:=rfl
variable (Γ G) in
def FiA (k:Nat) (cb:C) (Q:Ex->M->Prop):Ex->M->Prop
 | .normal,m=>rS (m.heap k) (fun env b a=>wC Γ G cb Q ⟨m.sl,m.used,updC m.heap k (some (.loop env b a .busy)),m.nxt,m.bas⟩ ⟨0⟩) ⟨0⟩
 | _,_=>False
@[go_sem ↓]theorem zCW (k:Nat) (cb:C) (Q:Ex->M->Prop) (sl:Nat->Slot) (u:Nat->Bool) (h:ae) (n b:Nat):
 FiA Γ G k cb Q .normal ⟨sl,u,h,n,b⟩=rS (h k) (fun env c a=>wC Γ G cb Q ⟨sl,u,updC h k (some (.loop env c a .busy)),n,b⟩ ⟨0⟩) ⟨0⟩:=rfl
theorem su {k:Nat} {vs:List V} {h:ae} {n:Nat} {env:Nat->V} {d:List Nat} {g cb:C} {P:Ex->ae->Nat->Prop} (y:h k=some (.loop env d (.round g cb) .ready)) (z:vs.length=d.length)
 (x: ∀e h' i,P e h' i-> ∃env' b a,h' k=some (.loop env' b a .busy))
 (m:wC Γ G g (qOf Γ G [] (FiA Γ G k cb (qOf Γ G [] (FiY P)))) ⟨rndS env d vs,fun _=>false,updC h k (some (.loop env d (.round g cb) .enter)),n,n⟩ ⟨0⟩):
 ∃e h' i,P e h' i/\ ∃env' b a,h' k=some (.loop env' b a .busy)/\DenY Γ G k vs h n=some (.t (.bool (decide (e=Ex.normal))),updC h' k (some (.loop env' b a e.toL)),i):=by
 unfold wC at m;rw[fl,eN,yV,cm]at m;obtain⟨u,c,v,l⟩:=jP m
 cases u with
 | exit id=>exact l.elim
 | ret=>exact l.elim
 | normal=>
   have f:rS (c.heap k) (fun env d t=>wC Γ G cb (jc Γ G [] (FiY P)) ⟨c.sl,c.used,updC c.heap k (some (.loop env d t .busy)),c.nxt,c.bas⟩ ⟨0⟩) ⟨0⟩:=by
    exact l
   unfold rS at f;split at f
   ·rename_i env1 p j s;unfold wC at f;rw[fl,cm]at f;obtain⟨e,o,w,r⟩:=jP f;obtain⟨env',b,a,q⟩:=x _ _ _ r;refine⟨e,o.heap,o.nxt,r,env',b,a,q,xE.2 ⟨env,d,g,cb,c.st,env1,p,j,env',b,a,e,o.st,y,z,v,s,w,q,rfl,by rw[cm];rfl,rfl⟩⟩
   ·exact f.elim
end
def lR (h:ae) (n a:Nat) (l:List Choice):Prop:= ∃v,h a=some (.rows 1 [[v]] false)/\aw h n v 3 (bf l)
theorem kc1 {c d f n t i:Nat} {h:ae} {env:Nat->V} {l:List Choice} {e:Entry} (I:h c=some (.loop env [64,65] qL .ready)) (Y:env 9= .mp d 0 0) (DL:env 10= .mp f 0 0)
 (D:h f=some (.rows 1 [[vi t]] false)) (hL:lR h n d l) (EK:c<n) (QW:d<n) (QR:f<n) (P8:c≠d) (P7:c≠f) (QY:d≠f) (Az:e.cells≠[]) (FZ:l.length<2^20):
 ∃h' o,DenY Γ G c [vi i,.agg [.t (ints e.cells),.t (ints e.values)]] h n=some (vb true,h',o)/\h' c=some (.loop env [64,65] qL .ready)/\h' f=some (.rows 1 [[vi t]] false)/\lR h' o d (l++[⟨t,-1,cn e⟩])/\n<=o/\
  (∀j,j<n->j≠c->j≠d->(∀W rs s,h j≠some (.rows W rs s))->h' j=h j):=by
 have:=su (Γ:=Γ) (G:=G) (vs:=[vi i,.agg [.t (ints e.cells),.t (ints e.values)]]) (n:=n) (P:=fun C h' o=>C= .normal/\h' c=some (.loop env [64,65] qL .busy)/\h' f=some (.rows 1 [[vi t]] false)/\lR h' o d (l++[⟨t,-1,cn e⟩])/\n<=o/\
  (∀j,j<n->j≠c->j≠d->(∀W rs s,h j≠some (.rows W rs s))->h' j=h j)) I rfl (fun C h' o hP=>⟨_,_,_,hP.2.1⟩) (by
  obtain⟨v,K,J⟩:=hL;have n1:c≠n+0:=aa
  have n2:d≠n+0:=aa
  have n3:f≠n+0:=aa
  have S:d≠c:=aa
  have n5:f≠c:=aa
  have CM:e.cells[0]? =some (cn e):=by
   cases hc:e.cells with
   | nil=>exact absurd hc Az
   | cons a r=>simp[cn,hc]
  have n6:n+0≠c:=aa
  have n7:n+0≠d:=aa
  have n8:n+0≠f:=aa
  have Bs:=J.valOf
  have X: ∀(H:ae) q,n<=q->(∀j,j<n->j≠c->H j=h j)->aw H q v 3 (bf l):=fun H q hq hH=>by
   rcases J with g | ⟨kv,g,B,m⟩
   ·exact .inl g
   ·refine .inr ⟨kv,g,aa,?_⟩;rw[hH kv B (by rintro rfl;rw[I]at m;simp at m)];exact m
  simp -dsimp only[go_sem,seval,Y,DL,D,K,n1,n2,n3,S,n5,n6,n7,n8,CM,Bs]
  have AD: ∀(o1 o2 o3 o4 o5:Option O) (a b:Nat),rowsS (updC (updC (updC (updC (updC h c o1) (n+0) o2) (n+0) o3) c o4) (n+a+b) o5) v=some (bf l):=fun o1 o2 o3 o4 o5 a b=>
   (X _ (n+a+b) aa fun j E u=>by
     have k:j≠n+0:=aa
     have y:j≠n+a+b:=aa
     rw[aq,ac y,aq,ac u,aq,ac k,aq,ac k,aq,ac u]).rowsS
  simp -dsimp only[go_sem,seval,AD]
  refine bY (x:=n+2+8) (X _ _ aa fun j E u=>by
   have k:j≠n+0:=aa
   have y:j≠n+2+7:=aa
   rw[aq,ac y,aq,ac u,aq,ac k,aq,ac k,aq,ac u]) (ax _) (by rw[f_];omega) aG rfl (kX _) ?_
  intro v2 hp Z Bn z
  have A: ∀j,(∀rs s,h j≠some (.rows 3 rs s))->j<n->aJ v j:=fun j E Kq=>by
   rcases J with⟨rfl,_⟩ | ⟨kv,rfl,B,m⟩
   ·intro i n h0;cases h0
   ·refine c7 ?_ _ _;rintro rfl;exact E _ _ m
  have O2:=Z;rcases Z with⟨_,CY⟩ | ⟨p,rfl,HW,C4⟩
  ·simp at CY
  have FA:n+2+8<=p:=by
   rcases bv p (n+2+8)with g | g
   ·exact absurd rfl (Bn p g 0 _)
   ·exact g
  have y0:=z c aa (A c (by rw[I];simp) EK);have y1:=z d aa (A d (by rw[K];simp) QW);have y2:=z f aa (A f (by rw[D];simp) QR);have n9:d≠n+2+7:=aa
  have Q:c≠n+2+7:=aa
  have R:f≠n+2+7:=aa
  simp only[aq,n1,n2,n3,S,n5,n9,Q,R,aX,aT,K,D]at y0 y1 y2;simp -dsimp only[go_sem,seval,Y,y1];refine⟨rfl,?_,?_,⟨.ms p 0 (bf l++[[vi t,vi (-1),vi (cn e)]]).length,?_,.inr ⟨p,?_,?_,?_⟩⟩,?_,?_⟩
  ·simp -dsimp only[go_sem,seval,S.symm,y0];rfl
  ·simp -dsimp only[go_sem,seval,QY.symm,y2]
  ·simp -dsimp only[go_sem,seval]
  ·rw[mz]
  ·simp -dsimp only[go_sem,seval];omega
  ·have k:p≠d:=aa
   simp -dsimp only[go_sem,seval,k];rw[C4,mz]
  ·simp -dsimp only[go_sem,seval];omega
  ·intro j L w M N;have k:j≠n+0:=aa
   have y:j≠n+2+7:=aa
   simp -dsimp only[go_sem,seval,M]
   rw[z j aa (A j (fun rs s=>N _ _ _) L),aq,ac y,aq,ac w,aq,ac k,aq,ac k,aq,ac w])
 obtain⟨C,h',o,⟨rfl,q1,q2,q3,q4,q5⟩,env',ps',bd',U,q7⟩:=this;rw[q1]at U;simp only[zA,O.loop.injEq]at U;obtain⟨rfl,rfl,rfl,_⟩:=U;refine⟨_,o,q7,by rw[aq,ah rfl];rfl,by rw[aq,ac P7.symm];exact q2,?_,q4,fun j L w M N=>by rw[aq,ac w];exact q5 j L w M N⟩;obtain⟨v,v1,v2⟩:=q3;refine⟨v,by rw[aq,ac P8.symm];exact v1,?_⟩;rcases v2 with g | ⟨p,g,B,m⟩
 ·exact .inl g
 ·exact .inr ⟨p,g,B,by rw[aq,ac (by rintro rfl;rw[q1]at m;simp at m)];exact m⟩
theorem lR.upd {h:ae} {n d e:Nat} {l:List Choice} {env:Nat->V} {m:List Nat} {g:C} {p:LSt} (o:Option O) (a:lR h n d l) (j:h e=some (.loop env m g p)) (f:e≠d):lR (updC h e o) n d l:=by
 obtain⟨v,q,r⟩:=a;refine⟨v,by rw[aq,ac f.symm];exact q,?_⟩;rcases r with b | ⟨k,b,i,c⟩
 ·exact .inl b
 ·exact .inr ⟨k,b,i,by rw[aq,ac (by rintro rfl;rw[j]at c;simp at c)];exact c⟩
theorem PV {o:Option (V×ae×Nat)} {k:Nat} {P:Ex->ae->Nat->Prop} {Q:ae->Nat->Prop} (h: ∃r h' a,o=some (r,h',a)/\Q h' a)
 (i: ∀h' a,Q h' a-> ∃env d c b e,h' k=some (.loop env d c b)/\b.ends=some e/\P e h' a): ∃r h' a,o=some (r,h',a)/\ ∃env d c b e,h' k=some (.loop env d c b)/\b.ends=some e/\P e h' a:=by
 obtain⟨r,h',a,f,g⟩:=h;exact⟨r,h',a,f,i h' a g⟩
theorem XI (p:Prog) (hs:p.sane) (B:aM p=true) (k:Int) (hk:k=1\/k=2) (c:Config) (o:IsB p c):Den Γ G 179 [(zP p),vi k,(.agg [.t (ints (c).mem),.t (ints (c).at_),.t (.sl ((c).buf.map (fun b=>[.sl (b.map Entry.enc)])))])]=some (.t (.sl ((lN p k c).map Choice.enc))):=by
 obtain⟨⟨m1,m2,m3,m4⟩,l5⟩:=cR (cS B).1;have l1:=o.lm;have l2:=o.la;have l3:=o.lb;have Ga:=Ss p hs B c o k hk;have k0: ¬k=0:=aa
 unfold stV at Ga
 refine aB (q:=?_)
 simp -dsimp only[go_sem,seval,k0,Ga];refine aS 37797378607022281333760 c.at_.length (fun i f h x=>(f 33).v=vi i/\lR h x 17 (eI p k c i)/\18<=x) rfl ?_ ?_
 ·exact⟨am,⟨.t .nils,am,.inl ⟨rfl,rfl⟩⟩,am⟩
 rintro i f u H z bs hi ⟨w,hL,hz⟩;have hw:=ay i aa;simp -dsimp only[go_sem,seval,w];refine aO w ?_ ?_<;>intro h<;>try exact⟨⟩<;>try exact h.elim
 ·obtain⟨x,Z,C1⟩:=au (show i<p.threads.length from aa);have hv:=Px p B c o i aa;obtain⟨_,AE,_⟩:=l5 x C1;simp -dsimp only[go_sem,seval,w,hv,Z];refine aS 2305772640469520384 x.steps.length (fun j f' h' x'=>(f' 46).v=vi j/\h' (z+1+1)=some (.rows 1 [[vi i]] false)/\lR h' x' 17 (eI p k c i++fE p c i x j)/\z+3<=x') rfl ?_ ?_
  ·obtain⟨v,d,g⟩:=hL;have K:17≠z+1+1:=aa
   refine⟨am,am,⟨v,bh K d,?_⟩,av⟩;have S:fE p c i x 0=[]:=rfl;rw[S,bK];rcases g with a | ⟨D,a,J,A⟩
   ·exact .inl a
   ·have L:D≠z+1+1:=aa
    exact .inr ⟨D,a,av,bh L A⟩
  rintro j f' u' H' r bs' hj ⟨C,y,Gg,Mk⟩;have Aw:=ay j aa;simp -dsimp only[go_sem,seval,C];refine dI C w ?_ ?_<;>intro h<;>try exact⟨⟩<;>try exact h.elim
  ·obtain⟨s,R,F3⟩:=au ‹j<x.steps.length›;have Ch:=Jy p B k c o i x Z j s R;unfold stV at Ch;obtain⟨v,d,g⟩:=Gg;simp -dsimp only[go_sem,seval,C,w,y,Ch,d];refine lq C w y d ?_ ?_<;>intro h<;>try exact⟨⟩<;>try exact h.elim
   ·have Q:=g.valOf
    have FZ:(eI p k c i++fE p c i x j).length<2^20:=by
     have a:=rg B (k:=k) o i;have J:=rr p c i x j;rw[zM];omega
    have l:=wz (p:=p) (c:=c) (t:=i) R;rw[h,ah rfl]at l
    have I1:aw (updC H' (r+1+2+5+4) (some (O.rows 3 [[V.t (T.int IntKind.i64 i),V.t (T.int IntKind.i64 j),V.t (T.int IntKind.i64 0)]] false))) (r+1+2+5+5) v 3 (bf (eI p k c i++fE p c i x j)):=by
     rcases g with a | ⟨D,a,J,A⟩
     ·exact .inl a
     ·exact .inr ⟨D,a,aa,by rw[aq,ac aa];exact A⟩
    have AD:=I1.rowsS;simp -dsimp only[go_sem,seval,C,w,y,d,Q,AD];refine bY I1 (ax _) (by rw[f_];omega) aG rfl (kX _) ?_;intro v3 hp hO Bn A8;rcases hO with⟨_,CY⟩ | ⟨E,rfl,Q5,NI⟩
    ·simp at CY
    have Q4:r+1+2+5+5<=E:=by
     rcases bv E (r+1+2+5+5)with a | a
     ·exact absurd rfl (Bn E a 0 _)
     ·exact a
    have AM: ∀q,(∀rs fz,H' q≠some (.rows 3 rs fz))->aJ v q:=fun q hq=>by
     rcases g with⟨rfl,_⟩ | ⟨kv,rfl,J,A⟩
     ·intro i n h0;cases h0
     ·refine c7 ?_ _ _;rintro rfl;exact hq _ _ A
    have y1:=A8 17 aa (AM 17 (by rw[d];simp));have y2:=A8 (z+1+1) aa (AM _ (by rw[y];simp));rw[aq,ac aa,d]at y1;rw[aq,ac aa,y]at y2;have K:z+1+1≠17:=aa
    have L:E≠17:=aa
    simp -dsimp only[go_sem,seval,C,y1];refine⟨aa,al Aw,bh K y2,⟨.ms E 0 (bf (eI p k c i++fE p c i x j)++[[vi i,vi j,vi 0]]).length,am,.inr ⟨E,?_,av,?_⟩⟩,av⟩
    ·rw[l,<- zQ,mz]
    ·simp -dsimp only[go_sem,seval,L];rw[NI,l,<- zQ,mz]
   ·have l:=wz (p:=p) (c:=c) (t:=i) R;rw[h]at l;simp only[zG,aX,bK]at l;refine⟨aa,al Aw,al y,⟨v,al d,?_⟩,av⟩;rw[l];exact g.le av
  ·have H1:j=x.steps.length:=aa
   subst H1;have Ao:=Sr p k c i;unfold stV at Ao;simp -dsimp only[go_sem,seval,y,w,Ao]
   generalize W:envC _=env
   have e9:env 9= .mp 17 0 0:=by rw[<- W];simp -dsimp only[go_sem,seval]
   have U:env 10= .mp (z+1+1) 0 0:=by rw[<- W];simp -dsimp only[go_sem,seval]
   clear W;have hb:=(o.buf i _ (fA (c:=c) (t:=i) aa)).2.1
   have QX:(eI p k c i++fE p c i x x.steps.length).length<2^19:=by
    have a:=rg B (k:=k) o i;have J:=rr p c i x x.steps.length;rw[zM];omega
   refine yU (P:=fun e h' I=>e= .normal/\lR (updC h' (r+1+3) (some .dead)) I 17 (eI p k c (i+1))/\18<=I) ?_ ?_
   ·refine PV (NP p B k c o i aa (r+1+3)
     (fun q h n=>h (r+1+3)=some (.loop env [64,65] qL .ready)/\h (z+1+1)=some (.rows 1 [[vi i]] false)/\lR h n 17 (eI p k c i++fE p c i x x.steps.length++iU k i (aF c i) q)/\r+1+4<=n)
     (fun _ _=>False) ?_ (fun _ _ _ h _=>h) ?_ _ _ ?_) ?_
    ·rintro q h n m ⟨M,N,⟨v,d,g⟩,a4⟩ GE;exact⟨M,N,⟨v,d,g.le GE⟩,aa⟩
    ·rintro q e h n Y ⟨M,N,a3,a4⟩;have l:=MA (k:=k) (t:=i) Y;have RE:=(zH.1 Y).1;have D4:=(o.buf i _ (fA (c:=c) (t:=i) aa)).1;cases ho:dk k (aF c i) q e
     ·rw[ac af];rw[ho,ac af,bK]at l;rw[l];exact⟨M,N,a3,a4⟩
     ·rw[ah rfl];rw[ho,ah rfl]at l;have RP:=xx k i (aF c i) q;obtain⟨h',I,b1,b2,b3,b4,b5,b6⟩:=kc1 (i:=q) (e:=e) M e9 U N a3 aa aa aa aa aa aa (hb e (zL Y)).ne (by rw[zM];omega);refine⟨true,h',I,b1,?_⟩;rw[ah rfl,l,<- zQ];exact⟨b2,b3,b4,aa⟩
    ·obtain⟨v,d,g⟩:=Gg;have K:z+1+1≠r+1+3:=aa
     have L:17≠r+1+3:=aa
     refine⟨by rw[aq,ah rfl],by rw[aq,ac K];exact y,⟨v,by rw[aq,ac L];exact d,?_⟩,aa⟩;have S:iU k i (aF c i) 0=[]:=rfl;rw[S,bK];rcases g with a | ⟨D,a,J,A⟩
     ·exact .inl a
     ·exact .inr ⟨D,a,aa,by rw[aq,ac aa];exact A⟩
    ·rintro h' I (X | ⟨⟨⟩⟩);refine⟨env,[64,65],qL,.ready,.normal,X.1,rfl,rfl,?_,aa⟩;rw[w_ Z,<- zQ];exact X.2.2.1.upd _ X.1 aa
   ·rintro e h' I ⟨rfl,⟨v,d,g⟩,Fh⟩;simp -dsimp only[go_sem,seval,w];refine⟨aa,al hw,⟨v,al d,?_⟩,av⟩;exact g.le av
 ·have Cq:i=c.at_.length:=aa
  subst Cq;obtain⟨v,d,g⟩:=hL;have Q:=g.valOf;have Bh:=g.reify (mS _);have v5:=g.resVal;simp only[Rg.resVal]at v5;simp -dsimp only[go_sem,seval,d,Q,v5];rw[l2]at Bh;exact Bh
structure NxV (p:Prog) (k:Int) (c:Config) (t:Nat) (n:Int) (env:Nat->V) (ky k7 k8 k9 kS:Nat) (h:Nat->Option O) (x:Nat):Prop where
 e7:env 7= .mp k7 0 0
 e8:env 8= .mp k8 0 0
 e9:env 9= .mp k9 0 0
 e10:env 10= .mp kS 0 0
 hy:h ky=some (.loop env [57,58] mW .ready)
 h7:h k7=some (.rows 3 [[vi t,vi (-1),vi n]] false)
 h8:h k8=some (.rows 3 [[.t .nils,.t .nils,.t .nils]] false)
 h9:h k9=some (.rows 1 [[vi 0]] false)
 hS:h kS=some (.rows 8 [[.t (ints c.mem),.t (ints c.at_),.t (.sl (c.buf.map fun b=>[.sl (b.map Entry.enc)])),.t (.sl (p.cells.map Cell.enc)),.t (.sl (p.modules.map Contract.enc)),.t (.sl (p.locks.map Lock.enc)),.t (.sl (p.threads.map Thread.enc)),vi k]] false)
 ly:ky<x
 l7:k7<ky
 l8:k8<ky
 l9:k9<ky
 lS:kS<ky
 d78:k7≠k8
 d79:k7≠k9
 d7S:k7≠kS
 d89:k8≠k9
 d8S:k8≠kS
 d9S:k9≠kS
theorem Zu {p:Prog} {k:Int} {c:Config} {t i:Nat} {n:Int} {env:Nat->V} {b g l m q:Nat} {h:ae} {x:Nat} {e:Entry} (H:NxV p k c t n env b g l m q h x) (N:e.cells≠[]) (hn:cn e≠n):
 ∃h' f,DenY Γ G b [vi i,.agg [.t (ints e.cells),.t (ints e.values)]] h x=some (vb true,h',f)/\NxV p k c t n env b g l m q h' f:=by
 have Q:e.cells[0]? =some (cn e):=by
  cases I:e.cells with
  | nil=>exact absurd I N
  | cons a r=>simp[cn,I]
 obtain⟨D,e8,e9,A,hy,E,h8,h9,hS,ly,J,K,L,M,s,u,v,w,y,z⟩:=H;have R:g≠x+1+0:=aa
 have S:l≠x+1+0:=aa
 have U:m≠x+1+0:=aa
 have W:q≠x+1+0:=aa
 have X:b≠x+1+0:=aa
 have c1:x+1+0≠g:=aa
 have c2:x+1+0≠l:=aa
 have c3:x+1+0≠m:=aa
 have c4:x+1+0≠q:=aa
 have c5:x+1+0≠b:=aa
 have Y:g≠b:=aa
 have b2:l≠b:=aa
 have Z:m≠b:=aa
 have b4:q≠b:=aa
 have:=su (Γ:=Γ) (G:=G) (vs:=[vi i,.agg [.t (ints e.cells),.t (ints e.values)]]) (n:=x) (P:=fun B h' f=>B= .normal/\h' b=some (.loop env [57,58] mW .busy)/\x<=f/\(∀j,j<b->h' j=h j)) hy rfl (fun B h' f hP=>⟨_,_,_,hP.2.1⟩) (by
  simp -dsimp only[go_sem,seval,D,E,R,S,U,W,X,Y,b2,Z,b4,c1,c2,c3,c4,c5,Q,hn];refine⟨rfl,by simp -dsimp only[go_sem,seval];rfl,av,fun j d=> ?_⟩;have u1:j≠b:=aa
  have u2:j≠x+1+0:=aa
  simp -dsimp only[go_sem,seval,u1,u2])
 obtain⟨B,h',f,⟨rfl,q1,q2,q3⟩,env',ps',bd',C,q7⟩:=this;rw[q1]at C;simp only[zA,O.loop.injEq]at C;obtain⟨rfl,rfl,rfl,_⟩:=C;have d: ∀j o,j<b->updC h' b o j=h j:=fun j o d=>by rw[aq,ac aa];exact q3 j d
 exact⟨_,f,q7,D,e8,e9,A,by rw[aq,ah rfl];rfl,by rw[d _ _ J];exact E,by rw[d _ _ K];exact h8,by rw[d _ _ L];exact h9,by rw[d _ _ M];exact hS,aa,J,K,L,M,s,u,v,w,y,z⟩
theorem Yd {p:Prog} (hf:aM p=true) {k:Int} {c:Config} (m:IsB p c) {t i:Nat} (ht:t<p.threads.length) {n:Int} {env:Nat->V} {d o f g q:Nat} {h:ae} {x:Nat} {e:Entry} (H:NxV p k c t n env d o f g q h x)
 (he:(aF c t)[i]? =some e) (B:e.cells≠[]) (hn:cn e=n):
 ∃h' j,DenY Γ G d [vi i,.agg [.t (ints e.cells),.t (ints e.values)]] h x=some (vb false,h',j)/\h' d=some (.loop env [57,58] mW (.done .ret))/\
  h' f=some (.rows 3 [[.t (ints (c6 c t i).mem),.t (ints (c6 c t i).at_),.t (.sl ((c6 c t i).buf.map fun b=>[.sl (b.map Entry.enc)]))]] false)/\h' g=some (.rows 1 [[vi 0]] false)/\d<j:=by
 have C:e.cells[0]? =some (cn e):=by
  cases m:e.cells with
  | nil=>exact absurd m B
  | cons a r=>simp[cn,m]
 have w:=X4 p hf k c m t ht i e he;unfold stV at w;obtain⟨e7,e8,e9,s,hy,h7,h8,h9,hS,ly,l7,l8,l9,lS,Y,Z,d7S,l,d8S,d9S⟩:=H;have D:o≠x+1+0:=aa
 have E:f≠x+1+0:=aa
 have I:g≠x+1+0:=aa
 have J:q≠x+1+0:=aa
 have K:d≠x+1+0:=aa
 have R:x+1+0≠o:=aa
 have S:x+1+0≠f:=aa
 have U:x+1+0≠g:=aa
 have W:x+1+0≠q:=aa
 have X:x+1+0≠d:=aa
 have L:o≠d:=aa
 have b2:f≠d:=aa
 have y:g≠d:=aa
 have M:q≠d:=aa
 have z:d≠f:=aa
 have A:d≠g:=aa
 have N:g≠f:=aa
 have:=su (Γ:=Γ) (G:=G) (vs:=[vi i,.agg [.t (ints e.cells),.t (ints e.values)]]) (n:=x) (P:=fun u h' j=>u= .ret/\h' d=some (.loop env [57,58] mW .busy)/\x<=j/\
  h' f=some (.rows 3 [[.t (ints (c6 c t i).mem),.t (ints (c6 c t i).at_),.t (.sl ((c6 c t i).buf.map fun b=>[.sl (b.map Entry.enc)]))]] false)/\h' g=some (.rows 1 [[vi 0]] false)) hy rfl (fun u h' j hP=>⟨_,_,_,hP.2.1⟩) (by
  simp -dsimp only[go_sem,seval,e7,h7,D,E,I,J,K,L,b2,y,M,R,S,U,W,X,C,hn,e8,e9,s,hS,w,h8,h9,z,A,N,l]
  refine⟨rfl,by simp -dsimp only[go_sem,seval,z,A];rfl,av,al l,am⟩)
 obtain⟨u,h',j,⟨rfl,q1,q2,q3,q4⟩,env',ps',Q,v,q7⟩:=this;rw[q1]at v;simp only[zA,O.loop.injEq]at v;obtain⟨rfl,rfl,rfl,_⟩:=v;exact⟨_,j,q7,by rw[aq,ah rfl];rfl,by rw[aq,ac b2];exact q3,by rw[aq,ac y];exact q4,aa⟩
theorem ZC (p:Prog) (hs:p.sane) (A:aM p=true) (k:Int) (hk:k=1\/k=2) (c:Config) (g:IsB p c) (x:Choice):
 Den Γ G 180 [(zP p),vi k,(.agg [.t (ints (c).mem),.t (ints (c).at_),.t (.sl ((c).buf.map (fun b=>[.sl (b.map Entry.enc)])))]),(.agg [.t (ti (x).thread),.t (ti (x).step),.t (ti (x).cell)])]=some (.tup [(.agg [.t (ints ((ef p k c x).1).mem),.t (ints ((ef p k c x).1).at_),.t (.sl (((ef p k c x).1).buf.map (fun b=>[.sl (b.map Entry.enc)])))]),vi (ef p k c x).2]):=by
 obtain⟨⟨m1,m2,m3,m4⟩,l5⟩:=cR (cS A).1;have l1:=g.lm;have l2:=g.la;have l3:=g.lb;have o:=Ss p hs A c g k hk;have v: ¬k=0:=aa
 unfold stV at o
 refine aB (q:=?_)
 by_cases C:x.thread<0\/(p.threads.length:Int)<=x.thread\/x.step< -1
 ·have a:ef p k c x=(eO,110):=by rw[ef,ah C]
  rw[a];simp only[eO,ba]
  by_cases r:x.thread<0
  ·simp -dsimp only[go_sem,seval,v,o,r];rfl
  ·by_cases w:x.thread>=(p.threads.length:Int)
   ·simp -dsimp only[go_sem,seval,v,o,r,w];rfl
   ·have D:x.step< -1:=aa
    simp -dsimp only[go_sem,seval,v,o,r,w,D];rfl
 ·have r: ¬x.thread<0:=aa
  have w: ¬x.thread>=(p.threads.length:Int):=aa
  have D: ¬x.step< -1:=aa
  by_cases d:x.step= -1
  ·have I:((x.thread.toNat:Nat):Int)=x.thread:=aa
   have V:=Sr p k c x.thread.toNat;rw[I]at V;unfold stV at V;simp -dsimp only[go_sem,seval,v,o,r,w,D,d,V]
   generalize N:envC _=env
   have e7:=congrFun N 7;have e8:=congrFun N 8;have e9:=congrFun N 9;have L:=congrFun N 10;clear N;simp -dsimp only[go_sem,seval]at e7 e8 e9 L;have ht:x.thread.toNat<p.threads.length:=aa
   have EV:=(g.buf x.thread.toNat _ (fA (c:=c) (t:=x.thread.toNat) aa)).2.1
   refine yU (P:=fun e h' J=>(e= .normal/\l_ k (aF c x.thread.toNat) x.cell=none/\h' 3=some (.rows 3 [[.t .nils,.t .nils,.t .nils]] false)/\h' 4=some (.rows 1 [[vi 0]] false))\/
    (e= .ret/\ ∃i,l_ k (aF c x.thread.toNat) x.cell=some i/\
      h' 3=some (.rows 3 [[.t (ints (c6 c x.thread.toNat i).mem),.t (ints (c6 c x.thread.toNat i).at_),.t (.sl ((c6 c x.thread.toNat i).buf.map fun b=>[.sl (b.map Entry.enc)]))]] false)/\h' 4=some (.rows 1 [[vi 0]] false))) ?_ ?_
   ·rw[<- I]
    refine PV (NP p A k c g x.thread.toNat ht 42
     (fun q h n=>NxV p k c x.thread.toNat x.cell env 42 2 3 4 14 h n/\ ∀j e,j<q->(aF c x.thread.toNat)[j]? =some e-> ¬(dk k (aF c x.thread.toNat) j e=true/\cn e=x.cell))
     (fun h n=> ∃i,l_ k (aF c x.thread.toNat) x.cell=some i/\h 42=some (.loop env [57,58] mW (.done .ret))/\
       h 3=some (.rows 3 [[.t (ints (c6 c x.thread.toNat i).mem),.t (ints (c6 c x.thread.toNat i).at_),.t (.sl ((c6 c x.thread.toNat i).buf.map fun b=>[.sl (b.map Entry.enc)]))]] false)/\h 4=some (.rows 1 [[vi 0]] false)) ?_ (fun _ _ _ h _=>h) ?_ _ _ ?_) ?_
    ·rintro q h n m ⟨f,H⟩ GE;exact⟨{ f with ly:=by have:=f.ly;omega },H⟩
    ·rintro q e h n l ⟨f,H⟩;have BH:=EV e (zL l);cases ho:dk k (aF c x.thread.toNat) q e
     ·rw[ac af];refine⟨f,fun j e' B y=> ?_⟩;rcases bv j q with M | M
      ·exact H j e' M y
      ·have:j=q:=aa
       subst this;rw[l]at y;cases y;rw[ho];simp
     ·rw[ah rfl]
      by_cases Q:cn e=x.cell
      ·obtain⟨h',J,K,b2,X,Y,b5⟩:=Yd A g ht f l BH.ne Q;refine⟨false,h',J,K,?_⟩;rw[ac af];exact⟨q,by rw[<- Q];exact Q7 EV l ho,b2,X,Y⟩
      ·obtain⟨h',J,K,b2⟩:=Zu (i:=q) f BH.ne Q;refine⟨true,h',J,K,?_⟩;rw[ah rfl];refine⟨b2,fun j e' B y=> ?_⟩;rcases bv j q with M | M
       ·exact H j e' M y
       ·have:j=q:=aa
        subst this;rw[l]at y;cases y;exact fun h=>Q h.2
    ·refine⟨⟨e7.symm,e8.symm,e9.symm,L.symm,am,bh I d,am,am,am,aa,aa,aa,aa,aa,aa,aa,aa,aa,aa,aa⟩,fun j _ B=>aa⟩
    ·rintro h' J (⟨f,H⟩ | ⟨i,K,b2,X,Y⟩)
     ·refine⟨env,[57,58],mW,.ready,.normal,f.hy,rfl,.inl ⟨rfl,?_,f.h8,f.h9⟩⟩;unfold l_;rw[p5];intro j B;rw[dT]at B;rw[zI B];intro h;simp only[zF,aQ]at h;exact H j _ B (zI B) h
     ·exact⟨env,[57,58],mW,.done .ret,.ret,b2,rfl,.inr ⟨rfl,i,K,X,Y⟩⟩
   ·rintro e h' J (⟨rfl,g1,g2,g3⟩ | ⟨rfl,i,g1,g2,g3⟩)
    ·have a:ef p k c x=(eO,110):=by rw[ef,ac C,ah d,g1]
     rw[a];simp only[eO,ba];simp -dsimp only[go_sem,seval,g2,g3];rfl
    ·have a:ef p k c x=(c6 c x.thread.toNat i,0):=by rw[ef,ac C,ah d,g1]
     rw[a];simp -dsimp only[go_sem,seval,g2,g3]
  ·have I:((x.thread.toNat:Nat):Int)=x.thread:=aa
   have es:((x.step.toNat:Nat):Int)=x.step:=aa
   have R:0<=x.thread:=aa
   have s0:0<=x.step:=aa
   obtain⟨S,u,PQ⟩:=au (show x.thread.toNat<p.threads.length from aa);have O:=Px p A c g x.thread.toNat aa;rw[I]at O
   by_cases z:x.cell=0
   ·by_cases Z:x.step>=(S.steps.length:Int)
    ·have a:ef p k c x=(eO,110):=by
      rw[ef,ac C,ac d];have:lx p x=none:=by simp[lx,u];omega
      rw[this]
     rw[a];simp only[eO,ba];simp -dsimp only[go_sem,seval,v,o,r,w,D,d,O,u,R,z,Z];rfl
    ·obtain⟨s,W,F3⟩:=au (show x.step.toNat<S.steps.length from aa);have Ff:lx p x=some s:=by simp[lx,u,W]
     have E:=Jy p A k c g x.thread.toNat S u x.step.toNat s W;rw[I,es]at E;unfold stV at E;cases l:db p c x.thread.toNat s
     ·have a:ef p k c x=(eO,110):=by
       rw[ef,ac C,ac d,Ff];simp[l]
      rw[a];rw[l]at E;simp only[eO,ba];simp -dsimp only[go_sem,seval,v,o,r,w,D,d,O,u,R,z,Z,E];rfl
     ·have a:ef p k c x=(eg p c x.thread.toNat s,0):=by
       rw[ef,ac C,ac d,Ff];simp[l,z]
      rw[a];rw[l]at E;have U:=kax p A k c g x.thread.toNat S u x.step.toNat s W x (by cases x;simp_all);unfold stV at U;simp -dsimp only[go_sem,seval,v,o,r,w,D,d,O,u,R,z,Z,E];rw[z]at U;simp -dsimp only[go_sem,seval,U]
   ·have a:ef p k c x=(eO,110):=by
     rw[ef,ac C,ac d];split
     ·simp[z]
     ·rfl
    rw[a];simp only[eO,ba];simp -dsimp only[go_sem,seval,v,o,r,w,D,d,O,u,R,z];rfl
theorem kbu {p:Prog} {c:Config} (a:IsB p c):jm p c.mem c.at_=true:=by
 have h:IsC p ⟨c.mem,c.at_,p.threads.map fun _=>[]⟩:=⟨a.lm,a.la,af,a.mem,a.at_,af⟩
 have b:=mV.2 h;simp only[isM,zF]at b;exact b.1.1
theorem XY (p:Prog) (w:aM p=true) (e:Entry) (b:Proper p e):Den Γ G 204 [(zP p),.agg [.t (ints e.cells),.t (ints e.values)]]=some (vb true):=by
 obtain⟨⟨W,X,Y,Z⟩,_⟩:=cR (cS w).1;have S:=g6 b;have U:=b.len
 have L: ¬(e.cells.length:Int)=0:=by
  have:e.cells.length≠0:=fun h=>b.ne (fq h)
  omega
 have M:(e.values.length:Int)=(e.cells.length:Int):=aa
 refine aB (q:=?_)
 simp -dsimp only[go_sem,seval,L,M];refine aZ 154742504910672534360293616 e.cells.length (fun i f=>(f 5).v=vi i) rfl rfl am ?_;rintro i f u V bb hi a;have J:=ay i aa;simp -dsimp only[go_sem,seval,a];refine aO a ?_ ?_<;>intro h<;>try exact⟨⟩<;>try exact h.elim
 ·obtain⟨n,d,P⟩:=au ‹i<e.cells.length›;obtain⟨v,l,_⟩:=au (show i<e.values.length from aa);obtain⟨E,y,g,I,H,v0,v1⟩:=b.cell i n v d l;have Q:=(zH.1 g).1;obtain⟨w1,w2,_⟩:=qk w (zL g);have B:=pa y.w aa;have k:=iR n p.cells.length;have m:=iR v (2^y.w.toNat);have N:inR n p.cells.length=true:=by simp only[inR,aQ];omega
  have O:inR v (2^y.w.toNat)=true:=by simp only[inR,aQ];omega
  rw[N]at k;rw[O]at m
  have A:((y.ghost==decide ((i:Int)>0)) != true)=false:=by
   rw[H]
   by_cases r:0<i
   ·have:(i:Int)>0:=aa
    simp[r]
   ·have : ¬(i:Int)>0:=aa
    simp[r]
  simp -dsimp only[go_sem,seval,a,d,k,E,g,I,A,l,B,m];refine aZ 154704725978809577200681104 i (fun j o=>(o 7).v=vi j) rfl rfl am ?_;rintro j o u' K D R c;have z:=ay j aa;simp -dsimp only[go_sem,seval,c,a];refine dI c a ?_ ?_<;>intro h<;>try exact⟨⟩<;>try exact h.elim
  ·obtain⟨q,x,_⟩:=au (show j<e.cells.length from aa)
   have C: ¬q=n:=by
    rintro rfl;have s:=zH.1 x;have t:=zH.1 d;exact qr.1 (s6.1 b.nd) j i s.1 t.1 aa (by rw[s.2,t.2])
   simp -dsimp only[go_sem,seval,c,a,x,C];exact⟨aa,al z⟩
  ·exact⟨aa,bh J a⟩
theorem kbv (p:Prog) (r:aM p=true) (c:Config) (m:IsB p c):Den Γ G 193 [(zP p),(.agg [.t (ints (c).mem),.t (ints (c).at_),.t (.sl ((c).buf.map (fun b=>[.sl (b.map Entry.enc)])))])]=some (vb true):=by
 obtain⟨⟨Q,R,S,U⟩,_⟩:=cR (cS r).1;have N:=m.lm;have O:=m.la;have P:=m.lb;have H:(c.buf.length:Int)=(p.threads.length:Int):=aa
 have v:=Zd p r c.mem c.at_ aa aa;rw[kbu m]at v
 refine aB (q:=?_)
 simp -dsimp only[go_sem,seval,v,H];refine aZ 37778931862957153321072 c.buf.length (fun i f=>(f 5).v=vi i) rfl rfl am ?_;rintro t f u M bb hi d;have w:=ay t aa;simp -dsimp only[go_sem,seval,d];refine aO d ?_ ?_<;>intro h<;>try exact⟨⟩<;>try exact h.elim
 ·obtain⟨a,q,_⟩:=au (show t<c.at_.length from aa);have g:=fA (c:=c) (t:=t) aa;obtain⟨L,b2,E⟩:=m.buf t _ g;have x: ¬((aF c t).length:Int)>3:=aa
  by_cases n:((aF c t).length:Int)>0
  ·have B: ¬a= -1:=by
    rintro rfl;have:=E q;rw[this]at n;simp at n
   simp -dsimp only[go_sem,seval,d,q,g,x,n,B];refine aZ 37778913848558652227664 (aF c t).length (fun j k=>(k 6).v=vi j) rfl rfl am ?_;rintro j k K s o J l;have y:=ay j aa;simp -dsimp only[go_sem,seval,l,d,g];refine qV l d g ?_ ?_<;>intro h<;>try exact⟨⟩<;>try exact h.elim
   ·obtain⟨e,I,z⟩:=au ‹j<(aF c t).length›;have C:=XY p r e (b2 e z);simp -dsimp only[go_sem,seval,l,d,g,I,Entry.enc,C];exact⟨aa,al y⟩
   ·exact⟨aa,bh w d⟩
  ·have A:(aF c t).length=0:=aa
   simp -dsimp only[go_sem,seval,d,q,g,x,n];refine aZ 37778913848558652227664 0 (fun j k=>(k 6).v=vi j) rfl rfl am ?_;rintro j k K s o J l;have D:j=0:=aa
   subst D;simp -dsimp only[go_sem,seval,l,d,g,A];exact⟨aa,bh w d⟩
theorem Yf (c:Config) (l:c.buf.length<2^48):Den Γ G 194 [(.agg [.t (ints (c).mem),.t (ints (c).at_),.t (.sl ((c).buf.map (fun b=>[.sl (b.map Entry.enc)])))])]=some (vb (uK c)):=by
 refine aB (q:=aE ?_);refine aZ 262140 c.buf.length (fun i f=>(f 3).v=vi i/\uK c=(c.buf.drop i).all fun b=>b.isEmpty) rfl rfl ⟨am,rfl⟩ ?_;rintro i f u m bb hi ⟨d,g⟩;have k:=ay i aa;refine aC d ?_;refine aO d ?_ ?_<;>intro h
 ·obtain⟨b,e,_⟩:=au ‹i<c.buf.length›
  by_cases a:b=[]
  ·have j: ¬(b.length:Int)>0:=by rw[a];simp
   refine bj d e j ?_;exact⟨aa,al k,by rw[g,dz e (by rw[a];rfl)]⟩
  ·have j:(b.length:Int)>0:=by
    have:b.length≠0:=fun h=>a (fq h)
    omega
   refine bj d e j ?_;rw[g,dy e (by cases b with | nil=>exact absurd rfl a | cons _ _=>rfl)]
 ·have:i=c.buf.length:=aa
  subst this;rw[g,dA]
theorem kb3 (p:Prog) (b:p.sane):Den Γ G 176 [(zP p)]=some (vb (aM p)):=by
 refine aB (q:=?_)
 have a:=wN p b;refine aC a ?_;rfl
theorem N8 (p:Prog) (n:p.sane) (e:aM p=true) (k:Int) (o:0<=k/\k<=2) (c:Config) (d:IsK p k c):Den Γ G 182 [(.agg [.t (.sl ((p).cells.map (Cell.enc))),.t (.sl ((p).modules.map (Contract.enc))),.t (.sl ((p).locks.map (Lock.enc))),.t (.sl ((p).threads.map (Thread.enc)))]),vi k,(.agg [.t (ints (c).mem),.t (ints (c).at_),.t (.sl ((c).buf.map (fun b=>[.sl (b.map Entry.enc)])))])]=some (vb true):=by
 obtain⟨⟨r,s,t,u⟩,_⟩:=cR (cS e).1;have q:=d.b.lb;have a:=kb3 p n;rw[e]at a;have g:=kbv p e c d.b;have h:=Yf c aa;have i: ¬k<0:=aa
 have j: ¬k>2:=aa
 refine aB (q:=?_)
 by_cases f:k=0
 ·have m:uK c=true:=by
   rw[uK,zN];intro b l;rw[d.q f b l];rfl
  rw[m]at h;exact pp i j a g f h
 ·exact vx i j a g f
theorem Jw (p:Prog) (hs:p.sane) (M:aM p=true) (k:Int) (hk:0<=k/\k<=2) (c:Config) (l:IsK p k c):Den Γ G 354 [(zP p),vi k,(.agg [.t (ints (c).mem),.t (ints (c).at_),.t (.sl ((c).buf.map (fun b=>[.sl (b.map Entry.enc)])))])]=some (.t (.sl ((cw p k c).map Choice.enc))):=by
 rw[rh l];obtain⟨⟨l1,l2,l3,l4⟩,l5⟩:=cR (cS M).1;have AJ:=N8 p hs M k hk c l;have RH:=l.b.lb
 refine aB (q:=?_)
 simp -dsimp only[go_sem,seval,AJ];refine aS 309485009821345068724717440 p.threads.length (fun i f h x=>(f 8).v=vi i/\aw h x (f 7).v 3 (bf (eI p k c i))) rfl ⟨am,.inl ⟨am,rfl⟩⟩ ?_;rintro i f u H x bs hi ⟨g,a⟩;have hw:=ay i aa;simp -dsimp only[go_sem,seval,g];refine aO g ?_ ?_<;>intro h<;>try exact⟨⟩<;>try exact h.elim
 ·obtain⟨t,z,IW⟩:=au ‹i<p.threads.length›;obtain⟨_,AE,_⟩:=l5 t IW;obtain⟨b,w,EW⟩:=au (show i<c.buf.length from aa);have On:=R9 w;obtain⟨H9,Y,_⟩:=l.b.buf i b w;have AO:=rg M l.b (k:=k) i;refine aS 18014398501094016 t.steps.length (fun j P h x=>(P 9).v=vi j/\aw h x (P 7).v 3 (bf (eI p k c i++fE p c i t j))) rfl ⟨am,by simp -dsimp only[go_sem,seval,fE,fw,vU,rC,bK];exact a.le aa⟩ ?_;clear a;rintro j P u' H' x' bs' hj ⟨L,a⟩;have W:=ay j aa
  by_cases N:j<t.steps.length
  ·have C:=aW N;obtain⟨s,K,F3⟩:=au N;have E:=XJ p M k c l i t z j s K;have d:=wz (p:=p) (c:=c) (t:=i) K;have C7:=rr p c i t j;cases hE:db p c i s
   ·rw[hE]at E d;simp -dsimp only[go_sem,seval,L,g,z,C,K,Step.enc,E];refine⟨aa,al W,?_⟩;simp -dsimp only[go_sem,seval,d,bK,zG,aX];exact a.le aa
   ·rw[hE]at E d;have A:=a.valOf;have R:=a.r2;have S:=a.r3;have U:=a.r4;have m:=a.r5;simp -dsimp only[go_sem,seval,L,g,z,C,K,Step.enc,E,A,R,S,U,m];refine bY (a.upd aa _) aa (by rw[f_,zM];omega) aG rfl (kX _) ?_;intro v hp o Bp Aq;have V:=o.valOf;simp -dsimp only[go_sem,seval,V,L];refine⟨aa,al W,?_⟩;simp -dsimp only[go_sem,seval,d,aT];rw[<- zQ,mz];exact o.le aa
  ·have C:=aI N;have:j=t.steps.length:=aa
   subst this;simp -dsimp only[go_sem,seval,L,g,z,C];refine aS 309485009803330670215300224 b.length (fun q f h x=>(f 10).v=vi q/\aw h x (f 7).v 3 (bf ((eI p k c i++fE p c i t t.steps.length)++iU k i b q))) rfl ⟨am,by simp -dsimp only[go_sem,seval,iU,fw,vU,rC,bK];exact a.le aa⟩ ?_;have C7:=rr p c i t t.steps.length;clear a;rintro q f3 u3 H3 x3 bs3 hq ⟨I,a⟩;have Z:=ay q aa
   by_cases O:q<b.length
   ·have J:=aW O;obtain⟨e,Q,Cn⟩:=au O;have X:=Y e Cn;have D:=Zz k b q e Q aa (fun y hy=>by have:=g6 (Y y hy);omega);have d:=MA (k:=k) (t:=i) Q;have D9:=xx k i b q
    have CM:e.cells[0]? =some (cn e):=by
     have:=X.ne
     cases B:e.cells with
     | nil=>exact absurd B this
     | cons n r=>simp[cn,B]
    have By:0<e.cells.length:=by
     have:=X.ne
     cases B:e.cells with
     | nil=>exact absurd B this
     | cons n r=>simp
    have FF:(0:Int)<(e.cells.length:Int):=aa
    cases o:dk k b q e
    ·rw[o]at D d;simp -dsimp only[go_sem,seval,I,g,w,J,D];refine⟨aa,al Z,?_⟩;simp -dsimp only[go_sem,seval,d,bK,zG,aX];exact a.le aa
    ·rw[o]at D d;have A:=a.valOf;have R:=a.r2;have S:=a.r3;have U:=a.r4;have m:=a.r5;simp -dsimp only[go_sem,seval,I,g,w,J,D,Q,Entry.enc,CM,FF,A,R,S,U,m];refine bY (a.upd aa _) aa (by rw[f_,zM,zM];omega) aG rfl (kX _) ?_;intro v hp O2 Bp Aq;have V:=O2.valOf;simp -dsimp only[go_sem,seval,V,I];refine⟨aa,al Z,?_⟩;simp -dsimp only[go_sem,seval,d,aT];rw[<- zQ,mz];exact O2.le aa
   ·have J:=aI O;have:q=b.length:=aa
    subst this;simp -dsimp only[go_sem,seval,I,g,w,J];refine⟨aa,al hw,?_⟩;simp -dsimp only[go_sem,seval];rw[w_ z,On,<- zQ];exact a.le aa
 ·have:i=p.threads.length:=aa
  subst this;have A:=a.valOf;have Bh:=a.reify (mS _);have m:=a.resVal;simp only[Rg.resVal]at m;simp -dsimp only[go_sem,seval,A,m];exact Bh
theorem KC (l:Loop) (d:l.body.length<2^40) (a:Int):Den Γ G 359 [(.agg [.t (ti (l).head),.t (ints (l).body),.t (ti ((l).variant).op),.t (ti ((l).variant).w),.t (ti ((l).variant).n),.t (.sl (((l).variant).kids.map Expr.enc))]),vi a]=some (vb (dq l a)):=by
 refine aB (q:=?_)
 have c:=xj l.body a d
 by_cases b:a=l.head
 ·have:dq l a=true:=by simp[dq,b]
  rw[this];exact al b
 ·have:dq l a=l.body.contains a:=by simp[dq,b]
  rw[this];exact bh b c
theorem NU (k:Int) (a:0<=k/\k<=2):Den Γ G 358 [vi k]=some (vb true):=by
 refine aB (q:=?_)
 rcases(show k=0\/k=1\/k=2 from aa)with rfl | rfl | rfl
 ·exact am
 ·exact am
 ·exact am
def dN (l:List Int):List (List V):=l.map fun n=>[.t (.int .u8 n)]
def rR (l:List Int):ByteArray:=⟨(l.map fun n=>UInt8.ofNat n.toNat).toArray⟩
theorem pB (l:List Int):(dN l).length=l.length:=by simp[dN]
theorem pC (l m:List Int):dN (l++m)=dN l++dN m:=by simp[dN]
theorem pD (l:List Int):((dN l).all fun r=>decide (r.length=1))=true:=by simp[dN]
theorem xi: ∀{l:List Int},(∀n∈l,0<=n/\n<256)->bytesOf (dN l)=some (l.map fun n=>UInt8.ofNat n.toNat)
 | [],_=>rfl
 | n::l,h=>by
   have a:=h n af;rw[dN,aU,bytesOf,ah a,show(l.map fun n=>[V.t (.int .u8 n)])=dN l from rfl,xi fun m b=>h m (by simp[b])];rfl
theorem PE {l m:List Int} (f: ∀n∈l,0<=n/\n<256) (g: ∀n∈m,0<=n/\n<256) (h:rR l=rR m):l=m:=by
 have c:(l.map fun n=>UInt8.ofNat n.toNat)=m.map fun n=>UInt8.ofNat n.toNat:=by
  have:=bx ByteArray.data h;exact gZ.2 this |>fun e=>by simpa[rR]using e
 clear h
 induction l generalizing m with
 | nil=>cases m with
   | nil=>rfl
   | cons _ _=>simp at c
 | cons a l i=>
   cases m with
   | nil=>simp at c
   | cons b m=>
     simp only[aU,gv]at c;have j:=f a af;have k:=g b af
     have e:a.toNat=b.toNat:=by
      have:=bx UInt8.toNat c.1;simp only[pX]at this;omega
     rw[i (fun n d=>f n (by simp[d])) (fun n d=>g n (by simp[d])) c.2]
     congr 1
     omega
def b2 (l:List Int):List Int:=l.flatMap fun n=>[n % 256,n/ 256 % 256]
theorem qK (l m:List Int):b2 (l++m)=b2 l++b2 m:=by simp[b2]
theorem qJ (l:List Int):(b2 l).length=2*l.length:=by
 induction l with
 | nil=>rfl
 | cons a l b=>simp only[b2,dr,zM,d_,jf]at b⊢;omega
theorem xG (l:List Int): ∀n∈b2 l,0<=n/\n<256:=by
 intro n b;simp only[b2,di]at b;obtain⟨m,_,a⟩:=b;simp at a;rcases a with rfl | rfl<;>omega
theorem kcJ {l m:List Int} (d: ∀n∈l,-1<=n/\n<256) (e: ∀n∈m,-1<=n/\n<256) (h:b2 l=b2 m):l=m:=by
 induction l generalizing m with
 | nil=>cases m with
   | nil=>rfl
   | cons _ _=>simp[b2]at h
 | cons a l f=>
   cases m with
   | nil=>simp[b2]at h
   | cons b m=>
     simp only[b2,dr,iP,eG,gv]at h;have g:=d a af;have i:=e b af;rw[f (fun n c=>d n (by simp[c])) (fun n c=>e n (by simp[c])) h.2.2]
     congr 1
     omega
theorem qb (H:ae) (nx:Nat) (v:V) (l:List Int) (n:Int) (c:aw H nx v 1 (dN l)) (m:l.length<2^31):
 ∃r h' d,DenR Γ G 391 [v,vi n] H nx=some (r,h',d)/\(aw h' d r 1 (dN (l++[n % 256,n/ 256 % 256]))/\nx<=d):=by
 have i:=c.valOf;have j:=c.r2;have f: ∀a:Int,IntKind.i64.wrap ((BitVec.ofInt IntKind.i64.bits a&&& BitVec.ofInt IntKind.i64.bits 255).toNat)=a % 256:=fun a=>ut a 8 aa
 have g: ∀a:Int,IntKind.u8.wrap (a % 256)=a % 256:=fun a=>by show(a % 256) % 256=_;omega
 have h: ∀a:Int,a.fdiv (2^min 8 64)=a/ 256:=fun a=>So _ aG
 refine bO (q:=cN i j f g h ?_);refine vK (c.upd aa _) aa (by rw[pB];simp;omega) aG rfl (pD _) ?_;intro v hp b _ _;have k:=b.valOf;have e:=b.resVal;simp only[Rg.resVal]at e;refine aR k e ?_;refine⟨?_,av⟩;refine aE ?_;rw[pC];exact b.le aa
theorem kbj (e:Entry) (h:e.values.length=e.cells.length):(mi e).length=2*e.cells.length:=by
 have : ∀l:List (Int×Int),(l.flatMap fun q=>[q.1,q.2]).length=2*l.length:=by
  intro l
  induction l with
  | nil=>rfl
  | cons a l b=>simp only[dr,zM,d_,jf]at b⊢;omega
 rw[mi,this,kj];omega
theorem nC {α:Type} {f:α->List Int} {m:Nat}: ∀{l:List α},(∀x∈l,(f x).length<=m)->(l.flatMap f).length<=m*l.length
 | [],_=>af
 | x::l,h=>by
   have b:=h x af;have c:=nC (l:=l) fun y a=>h y (by simp[a])
   rw[dr,zM,d_,xl];omega
theorem tT {p:Prog} (i:aM p=true) {c:Config} (g:IsB p c) {b:List Entry} (f:b∈c.buf):(∀e∈b,(dQ e).length<=65)/\b.length<=3/\(d5 b).length<=196:=by
 have a: ∀e∈b,(dQ e).length<=65:=fun e h=>by
  have hp:=g.ent b f e h;have:=g6 hp;have:=(mw i).1;rw[dQ,d_,kbj e hp.len];omega
 obtain⟨t,j⟩:=eD f;have d:=(g.buf t b j).1;have k:=nC a;refine⟨a,d,?_⟩;rw[d5,d_];have:65*b.length<=65*3:=rA _ d;omega
def gV (c:Config):ByteArray:=rR (b2 (iZ 0 c))
theorem O' (p:Prog) (N:aM p=true) (c:Config) (A:IsB p c):Den Γ G 383 [(.agg [.t (ints (c).mem),.t (ints (c).at_),.t (.sl ((c).buf.map (fun b=>[.sl (b.map Entry.enc)])))])]=some (.t (.str (gV c))):=by
 obtain⟨⟨m1,m2,m3,m4⟩,_⟩:=cR (cS N).1;have By:=(mw N).1;have l1:=A.lm;have l2:=A.la;have l3:=A.lb;have Ck:iZ 0 c=c.mem++c.at_++c.buf.flatMap d5:=by simp[iZ]
 refine aB (q:=?_)
 simp -dsimp only[go_sem,seval];refine aS 16776216 c.mem.length (fun i f h x=>(f 4).v=vi i/\aw h x (f 3).v 1 (dN (b2 (c.mem.take i)))) rfl ⟨am,.inl ⟨am,rfl⟩⟩ ?_
 ·rintro i f u H x bs hi ⟨W,a⟩;have C:=ay i aa;have B:=a.valOf
  by_cases g:i<c.mem.length
  ·have k:=aW g;obtain⟨n,s,_⟩:=au g;simp -dsimp only[go_sem,seval,W,k,s,B];refine be (qb _ _ _ (b2 (c.mem.take i)) n ?_ (by rw[qJ,bJ];omega)) ?_
   ·exact a.le aa
   rintro r h' O ⟨d,D⟩;have w:=d.valOf;simp -dsimp only[go_sem,seval,w,W];refine⟨aa,al C,?_⟩;simp -dsimp only[go_sem,seval];rw[a8 s,qK];exact d.le aa
  ·have k:=aI g;have:i=c.mem.length:=aa
   subst this;rw[bc]at a;simp -dsimp only[go_sem,seval,W,k];refine aS 274861129768 c.at_.length (fun i f h x=>(f 5).v=vi i/\aw h x (f 3).v 1 (dN (b2 (c.mem++c.at_.take i)))) rfl ⟨am,by simp -dsimp only[go_sem,seval,fw,bK];exact a.le aa⟩ ?_;clear a;rintro i f u H x bs hi ⟨X,a⟩;have C:=ay i aa;have B:=a.valOf
   by_cases g:i<c.at_.length
   ·have k:=aW g;obtain⟨n,s,_⟩:=au g;simp -dsimp only[go_sem,seval,X,k,s,B];refine be (qb _ _ _ (b2 (c.mem++c.at_.take i)) n ?_ (by rw[qJ,zM,bJ];omega)) ?_
    ·exact a.le aa
    rintro r h' O ⟨d,D⟩;have w:=d.valOf;simp -dsimp only[go_sem,seval,w,X];refine⟨aa,al C,?_⟩;simp -dsimp only[go_sem,seval];rw[a8 s,<- zQ,qK];exact d.le aa
   ·have k:=aI g;have:i=c.at_.length:=aa
    subst this;rw[bc]at a;simp -dsimp only[go_sem,seval,X,k]
    have O4: ∀t,t<=c.buf.length->((c.mem++c.at_)++(c.buf.take t).flatMap d5).length<=100+196*t:=fun t Y=>by
     have:=nC (l:=c.buf.take t) fun b z=>(tT N A (lG z)).2.2
     rw[bJ]at this;rw[zM,zM];have:196*min t c.buf.length=196*t:=by rw[je Y]
     omega
    refine aS 20282409603651670423672373380040 c.buf.length (fun i f h x=>(f 6).v=vi i/\aw h x (f 3).v 1 (dN (b2 ((c.mem++c.at_)++(c.buf.take i).flatMap d5)))) rfl ⟨am,by simp -dsimp only[go_sem,seval,fw,fQ,bK];exact a.le aa⟩ ?_;clear a;rintro t f u H x bs Y ⟨y,a⟩;have C:=ay t aa;have B:=a.valOf;have O3:=O4 t Y
    by_cases g:t<c.buf.length
    ·have k:=aW g;obtain⟨b,z,EW⟩:=au g;obtain⟨e1,e2,e3⟩:=tT N A EW;have BH:=A.ent b EW
     generalize hL:(c.mem++c.at_)++(c.buf.take t).flatMap d5=L at *
     simp -dsimp only[go_sem,seval,y,k,z,B];refine be (qb _ _ _ (b2 L) b.length ?_ (by rw[qJ];omega)) ?_
     ·exact a.le aa
     rintro r h' O ⟨d,D⟩;rw[<- show b2 [(b.length:Int)]=[(b.length:Int) % 256,(b.length:Int)/ 256 % 256]from rfl,<- qK]at d;have w:=d.valOf;simp -dsimp only[go_sem,seval,w,y];refine aS 20282409603651661416747996545928 b.length (fun i f h x=>(f 7).v=vi i/\aw h x (f 3).v 1 (dN (b2 ((L++[(b.length:Int)])++(b.take i).flatMap dQ)))) rfl ⟨am,by simp -dsimp only[go_sem,seval,fw,fQ,bK];exact d.le aa⟩ ?_;clear d w;rintro i f3 u3 H3 x3 bs3 C8 ⟨J,d⟩;have Gl:=ay i aa;have w:=d.valOf
     have IF:((L++[(b.length:Int)])++(b.take i).flatMap dQ).length<=101+196*t+65*i:=by
      have:=nC (l:=b.take i) fun e M=>e1 e (lG M)
      rw[bJ]at this;rw[zM,zM,fR];have:65*min i b.length=65*i:=by rw[je C8]
      omega
     by_cases U:i<b.length
     ·have R:=aW U;obtain⟨e,M,Cn⟩:=au U;have CC:=BH e Cn;have BL:=g6 CC;have E6:=CC.len
      generalize O7:(L++[(b.length:Int)])++(b.take i).flatMap dQ=I at *
      simp -dsimp only[go_sem,seval,J,y,R,z,M,Entry.enc,w];refine be (qb _ _ _ (b2 I) e.cells.length ?_ (by rw[qJ];omega)) ?_
      ·exact d.le aa
      rintro r h' O ⟨o,D⟩;rw[<- show b2 [(e.cells.length:Int)]=[(e.cells.length:Int) % 256,(e.cells.length:Int)/ 256 % 256]from rfl,<- qK]at o;have P:=o.valOf;simp -dsimp only[go_sem,seval,P,J,y];refine aS 20282409528093806698032927867400 e.cells.length (fun j f h x=>(f 9).v=vi j/\aw h x (f 3).v 1 (dN (b2 ((I++[(e.cells.length:Int)])++((e.cells.zip e.values).take j).flatMap fun q=>[q.1,q.2])))) rfl ⟨am,by simp -dsimp only[go_sem,seval,fw,fQ,bK];exact o.le aa⟩ ?_;clear o P;rintro j f4 u4 H4 x4 bs4 hj ⟨K,o⟩;have Kd:=ay j aa;have P:=o.valOf
      have O5:((I++[(e.cells.length:Int)])++((e.cells.zip e.values).take j).flatMap fun q=>[q.1,q.2]).length<=102+196*t+65*i+2*j:=by
       have:=nC (f:=fun q:Int×Int=>[q.1,q.2]) (m:=2) (l:=(e.cells.zip e.values).take j) fun q _=>af
       rw[bJ,kj]at this;rw[zM,zM,fR];omega
      by_cases S:j<e.cells.length
      ·have Q:=aW S;have Ln:(j:Int)<(e.values.length:Int):=aa
       obtain⟨n,s,_⟩:=au S;obtain⟨v,Z,_⟩:=au (show j<e.values.length from aa);have hz:(e.cells.zip e.values)[j]? =some (n,v):=oz.2 ⟨s,Z⟩
       generalize O6:((I++[(e.cells.length:Int)])++((e.cells.zip e.values).take j).flatMap fun q=>[q.1,q.2])=L3 at *
       simp -dsimp only[go_sem,seval,K,Q,Ln,s,Z,P];refine be (qb _ _ _ (b2 L3) n ?_ (by rw[qJ];omega)) ?_
       ·exact o.le aa
       rintro r h' O ⟨V,D⟩;rw[<- show b2 [n]=[n % 256,n/ 256 % 256]from rfl,<- qK]at V;have w3:=V.valOf;simp -dsimp only[go_sem,seval,K,Z,w3];refine be (qb _ _ _ (b2 (L3++[n])) v ?_ (by rw[qJ,zM,fR];omega)) ?_
       ·exact V.le aa
       rintro r2 h2 n2 ⟨E,D⟩;rw[<- show b2 [v]=[v % 256,v/ 256 % 256]from rfl,<- qK]at E;have w4:=E.valOf;simp -dsimp only[go_sem,seval,K,w4];refine⟨aa,al Kd,?_⟩;simp -dsimp only[go_sem,seval];rw[a8 hz,jg,<- zQ,O6];rw[zQ]at E;exact E.le aa
      ·have Q:=aI S;have:j=e.cells.length:=aa
       subst this;simp -dsimp only[go_sem,seval,K,Q,J];refine⟨aa,al Gl,?_⟩;simp -dsimp only[go_sem,seval];rw[a8 M,jg,<- zQ,O7,show [e].flatMap dQ=[(e.cells.length:Int)]++(e.cells.zip e.values).flatMap (fun q=>[q.1,q.2])by simp[dQ,mi]];rw[de (by rw[kj];omega),zQ]at o;refine o.le ?_;omega
     ·have R:=aI U;have:i=b.length:=aa
      subst this;rw[bc]at d;simp -dsimp only[go_sem,seval,J,y,R,z];refine⟨aa,al C,?_⟩;simp -dsimp only[go_sem,seval];rw[a8 z,jg,<- zQ,hL,show [b].flatMap d5=[(b.length:Int)]++b.flatMap dQ by simp[d5]];rw[zQ]at d;refine d.le ?_;omega
    ·have k:=aI g;have:t=c.buf.length:=aa
     subst this;rw[bc,<- Ck]at a;have AD:=a.rowsS;have ET:=xi (xG (iZ 0 c));simp -dsimp only[go_sem,seval,y,k,B,AD,ET];rfl
def eA (c:Config):ByteArray:=rR (iZ 1 c)
theorem kao {p:Prog} (f:aM p=true) {c d:Config} (b:IsB p c) (e:IsB p d) (h:eA c=eA d):c=d:=by
 refine Sl b e (PE (fun n a=> ?_) (fun n a=> ?_) h)
 ·have:=qg f (sh:=1) aa b n a;omega
 ·have:=qg f (sh:=1) aa e n a;omega
theorem kan {p:Prog} (f:aM p=true) {c d:Config} (b:IsB p c) (e:IsB p d) (h:gV c=gV d):c=d:=by
 refine Sl b e (kcJ (fun n a=> ?_) (fun n a=> ?_) (PE (xG _) (xG _) h))
 ·have:=qg f (sh:=0) aa b n a;omega
 ·have:=qg f (sh:=0) aa e n a;omega
theorem Z4 (p:Prog) (D:aM p=true) (c:Config) (y:IsB p c):Den Γ G 394 [(.agg [.t (ints (c).mem),.t (ints (c).at_),.t (.sl ((c).buf.map (fun b=>[.sl (b.map Entry.enc)])))])]=some (.t (.str (eA c))):=by
 obtain⟨⟨m1,m2,m3,m4⟩,_⟩:=cR (cS D).1;have By:=(mw D).1;have l1:=y.lm;have l2:=y.la;have l3:=y.lb;have I:iZ 1 c=c.mem++c.at_.map (· +1)++c.buf.flatMap d5:=rfl;have K: ∀n∈iZ 1 c,0<=n/\n<256:=fun n d=>by have:=qg D (sh:=1) aa y n d;omega
 have A: ∀n,0<=n/\n<256->IntKind.u8.wrap n=n:=fun n h=>by show n % 256=n;omega
 have r1: ∀n∈c.mem,0<=n/\n<256:=fun n d=>K n (by rw[I];simp[d])
 have r2: ∀n∈c.at_,0<=n+1/\n+1<256:=fun n d=>K (n+1) (by rw[I];simp only[cA,cv];exact .inl (.inr ⟨n,d,rfl⟩))
 have r3: ∀b∈c.buf,∀n∈d5 b,0<=n/\n<256:=fun b B n d=>K n (by rw[I];simp only[cA,di];exact .inr ⟨b,B,d⟩)
 refine aB (q:=?_)
 simp -dsimp only[go_sem,seval];refine aS 134086696 c.mem.length (fun i f h x=>(f 17).v=vi i/\aw h x (f 3).v 1 (dN (c.mem.take i))) rfl ⟨am,.inl ⟨am,rfl⟩⟩ ?_
 ·rintro i f u H x bs hi ⟨Y,a⟩;have E:=ay i aa;have s:=a.valOf;have z:=a.r3
  by_cases k:i<c.mem.length
  ·have o:=aW k;obtain⟨n,d,J⟩:=au k;have C:=A n (r1 n J);simp -dsimp only[go_sem,seval,Y,o,d,s,z,C];refine bY (a.upd aa _) aa (by rw[pB,bJ];omega) aG rfl (pD _) ?_;intro v hp g _ _;have w:=g.valOf;simp -dsimp only[go_sem,seval,w,Y];refine⟨aa,al E,?_⟩;simp -dsimp only[go_sem,seval];rw[a8 d,pC];exact g.le aa
  ·have o:=aI k;have:i=c.mem.length:=aa
   subst this;rw[bc]at a;simp -dsimp only[go_sem,seval,Y,o];refine aS 2197949513864 c.at_.length (fun i f h x=>(f 30).v=vi i/\aw h x (f 3).v 1 (dN (c.mem++(c.at_.take i).map (· +1)))) rfl ⟨am,by simp -dsimp only[go_sem,seval,fw,ba,bK];exact a.le aa⟩ ?_;clear a s z;rintro i f u H x bs hi ⟨Z,a⟩;have E:=ay i aa;have s:=a.valOf;have z:=a.r3
   by_cases k:i<c.at_.length
   ·have o:=aW k;obtain⟨n,d,J⟩:=au k;have C:=A _ (r2 n J);have Qo:IntKind.i64.wrap (n+1)=n+1:=bt (by have:=r2 n J;omega);simp -dsimp only[go_sem,seval,Z,o,d,s,z,Qo,C];refine bY (a.upd aa _) aa (by rw[pB,zM,cO,bJ];omega) aG rfl (pD _) ?_;intro v hp g _ _;have w:=g.valOf;simp -dsimp only[go_sem,seval,w,Z];refine⟨aa,al E,?_⟩;simp -dsimp only[go_sem,seval];rw[a8 d,d7,<- zQ,pC];exact g.le aa
   ·have o:=aI k;have:i=c.at_.length:=aa
    subst this;rw[bc]at a;simp -dsimp only[go_sem,seval,Z,o]
    have O4: ∀t,t<=c.buf.length->((c.mem++c.at_.map (· +1))++(c.buf.take t).flatMap d5).length<=100+196*t:=fun t ht=>by
     have:=nC (l:=c.buf.take t) fun b B=>(tT D y (lG B)).2.2
     rw[bJ]at this;rw[zM,zM,cO];have:196*min t c.buf.length=196*t:=by rw[je ht]
     omega
    refine aS 618970019642672545263532552 c.buf.length (fun i f h x=>(f 44).v=vi i/\aw h x (f 3).v 1 (dN ((c.mem++c.at_.map (· +1))++(c.buf.take i).flatMap d5))) rfl ⟨am,by simp -dsimp only[go_sem,seval,fw,fQ,bK];exact a.le aa⟩ ?_;clear a s z;rintro t f u H x bs ht ⟨M,a⟩;have E:=ay t aa;have s:=a.valOf;have z:=a.r3;have O3:=O4 t ht
    by_cases k:t<c.buf.length
    ·have o:=aW k;obtain⟨b,B,V⟩:=au k;obtain⟨e1,e2,e3⟩:=tT D y V;have BH:=y.ent b V;have rb:=r3 b V;have QN:=A _ (rb b.length (by simp[d5]))
     generalize hL:(c.mem++c.at_.map (· +1))++(c.buf.take t).flatMap d5=L at *
     simp -dsimp only[go_sem,seval,M,o,B,s,z,QN];refine bY (a.upd aa _) aa (by rw[pB];omega) aG rfl (pD _) ?_;intro v hp g _ _;rw[<- show dN [(b.length:Int)]=[[.t (.int .u8 (b.length:Int))]]from rfl,<- pC]at g;have w:=g.valOf;simp -dsimp only[go_sem,seval,w,M];refine aS 309485009749287474686867464 b.length (fun i f h x=>(f 56).v=vi i/\aw h x (f 3).v 1 (dN ((L++[(b.length:Int)])++(b.take i).flatMap dQ))) rfl ⟨am,by simp -dsimp only[go_sem,seval,fw,fQ,bK];exact g.le aa⟩ ?_;clear g w;rintro i f3 u3 H3 x3 bs3 C8 ⟨N,g⟩;have Gl:=ay i aa;have w:=g.valOf;have w3:=g.r3
     have IF:((L++[(b.length:Int)])++(b.take i).flatMap dQ).length<=101+196*t+65*i:=by
      have:=nC (l:=b.take i) fun e O=>e1 e (lG O)
      rw[bJ]at this;rw[zM,zM,fR];have:65*min i b.length=65*i:=by rw[je C8]
      omega
     by_cases U:i<b.length
     ·have R:=aW U;obtain⟨e,O,Cn⟩:=au U;have CC:=BH e Cn;have BL:=g6 CC;have E6:=CC.len;have re: ∀n∈dQ e,0<=n/\n<256:=fun n d=>rb n (by simp only[d5,cj,di];exact .inr ⟨e,Cn,d⟩)
      have QE:=A _ (re e.cells.length (by simp[dQ]))
      generalize O7:(L++[(b.length:Int)])++(b.take i).flatMap dQ=X at *
      simp -dsimp only[go_sem,seval,N,R,O,Entry.enc,w,w3,QE];refine bY (g.upd aa _) aa (by rw[pB];omega) aG rfl (pD _) ?_;intro v hp r _ _;rw[<- show dN [(e.cells.length:Int)]=[[.t (.int .u8 (e.cells.length:Int))]]from rfl,<- pC]at r;have P:=r.valOf;simp -dsimp only[go_sem,seval,P,N];refine aS 154741324319051816951099400 e.cells.length (fun j f h x=>(f 70).v=vi j/\aw h x (f 3).v 1 (dN ((X++[(e.cells.length:Int)])++((e.cells.zip e.values).take j).flatMap fun q=>[q.1,q.2]))) rfl ⟨am,by simp -dsimp only[go_sem,seval,fw,fQ,bK];exact r.le aa⟩ ?_;clear r P;rintro j f4 u4 H4 x4 bs4 hj ⟨h9,r⟩;have Kd:=ay j aa;have P:=r.valOf;have w4:=r.r3
      have O5:((X++[(e.cells.length:Int)])++((e.cells.zip e.values).take j).flatMap fun q=>[q.1,q.2]).length<=102+196*t+65*i+2*j:=by
       have:=nC (f:=fun q:Int×Int=>[q.1,q.2]) (m:=2) (l:=(e.cells.zip e.values).take j) fun q _=>af
       rw[bJ,kj]at this;rw[zM,zM,fR];omega
      by_cases S:j<e.cells.length
      ·have Q:=aW S;obtain⟨n,d,_⟩:=au S;obtain⟨v,hv,_⟩:=au (show j<e.values.length from aa);have hz:(e.cells.zip e.values)[j]? =some (n,v):=oz.2 ⟨d,hv⟩;have Mj:=zL hz;have C:=A _ (re n (by simp only[dQ,mi,cj,di];exact .inr ⟨_,Mj,af⟩));have PK:=A _ (re v (by simp only[dQ,mi,cj,di];exact .inr ⟨_,Mj,af⟩))
       generalize O6:((X++[(e.cells.length:Int)])++((e.cells.zip e.values).take j).flatMap fun q=>[q.1,q.2])=L3 at *
       simp -dsimp only[go_sem,seval,h9,Q,d,hv,P,w4,C,PK];refine vK (r.upd aa _) aa (by rw[pB];simp;omega) aG rfl (pD _) ?_;intro v2 hp W _ _;rw[<- show dN [n,v]=[[.t (.int .u8 n)],[.t (.int .u8 v)]]from rfl,<- pC]at W;have w5:=W.valOf;simp -dsimp only[go_sem,seval,h9,w5];refine⟨aa,al Kd,?_⟩;simp -dsimp only[go_sem,seval];rw[a8 hz,jg,<- zQ,O6];exact W.le aa
      ·have Q:=aI S;have:j=e.cells.length:=aa
       subst this;simp -dsimp only[go_sem,seval,h9,Q,N];refine⟨aa,al Gl,?_⟩;simp -dsimp only[go_sem,seval];rw[a8 O,jg,<- zQ,O7,show [e].flatMap dQ=[(e.cells.length:Int)]++(e.cells.zip e.values).flatMap (fun q=>[q.1,q.2])by simp[dQ,mi]];rw[de (by rw[kj];omega),zQ]at r;refine r.le ?_;omega
     ·have R:=aI U;have:i=b.length:=aa
      subst this;rw[bc]at g;simp -dsimp only[go_sem,seval,N,M,R];refine⟨aa,al E,?_⟩;simp -dsimp only[go_sem,seval];rw[a8 B,jg,<- zQ,hL,show [b].flatMap d5=[(b.length:Int)]++b.flatMap dQ by simp[d5]];rw[zQ]at g;refine g.le ?_;omega
    ·have o:=aI k;have:t=c.buf.length:=aa
     subst this;rw[bc,<- I]at a;have AD:=a.rowsS;have ET:=xi K;simp -dsimp only[go_sem,seval,M,o,s,AD,ET];rfl
theorem u_ {h:ae} {c:Nat} {l:List Int} {K:V->List (Nat×O)->Prop} {w:WK K} (g:l.length<2^31)
 (f: ∀v hp,aw (At h hp) (c+1) v 1 (ai l)->(∀j,j≠c->At h hp j=h j)->(∀j,j≠c->aJ v j)->(Rg.valOf v=some v/\V.cells v=some [v])->K v hp):rW (Γ:=Γ) (G:=G) false h c 32 [.t (ints l)] K w:=by
 obtain⟨r,h',i,e,d,_,_⟩:=tS l g (fun _=>none) 0;refine qH (es:=l.map fun n=>[ti n]) rfl rfl ⟨r,h',i,e,d⟩ fun v hp o a b=>f v hp o a b ?_
 rcases o with⟨rfl,_⟩ | ⟨k,rfl,_⟩<;>exact⟨rfl,rfl⟩
def jQ (h:ae) (lo hi:Nat) (v:V) (rows:List (List V)):Prop:=
 (v= .t .nils/\rows=[])\/ ∃k,v= .ms k 0 rows.length/\lo<=k/\k<hi/\h k=some (.rows 1 rows false)
theorem jQ.keep {h h':ae} {lo hi:Nat} {v:V} {rows:List (List V)} (o:jQ h lo hi v rows) (e: ∀k,lo<=k->k<hi->h' k=h k):jQ h' lo hi v rows:=by
 rcases o with o | ⟨k,c,a,b,d⟩
 ·exact .inl o
 ·exact .inr ⟨k,c,a,b,by rw[e k a b];exact d⟩
theorem jQ.val {h:ae} {lo hi:Nat} {v:V} {rows:List (List V)} (o:jQ h lo hi v rows):Rg.valOf v=some v/\V.cells v=some [v]:=by
 rcases o with⟨rfl,_⟩ | ⟨k,rfl,_⟩<;>exact⟨rfl,rfl⟩
theorem jQ.tree {h:ae} {lo hi:Nat} {v:V} {l:List Int} (o:jQ h lo hi v (ai l)) (d:Nat):toT h (d+1) v=some (ints l):=by
 rcases o with⟨rfl,b⟩ | ⟨k,rfl,_,_,c⟩
 ·have:l=[]:=by
   have:=bx List.length b;rw[aA]at this;exact fq this
  subst this;rfl
 ·have a:List.take (ai l).length (ai l)=ai l:=ec rfl;simp only[toT,c,rd,gO,ax,aT,il,a,zC,zD,g7]
def V1 (h:ae) (x:Nat) (g f:V) (b:Nat) (c:Config):Prop:=
 ∃d e a vs,jQ h 0 d g (ai c.mem)/\jQ h d e f (ai c.at_)/\d<=e/\e<=b/\b<a 0/\h b=some (.rows 1 vs false)/\BufsV h a vs c.buf/\a c.buf.length<=x
theorem OJ (p:Prog) (hf:aM p=true) (c:Config) (hc:IsB p c) (nx:Nat):
 ∃r h' n',DenR Γ G 356 [(.agg [.t (ints (c).mem),.t (ints (c).at_),.t (.sl ((c).buf.map (fun b=>[.sl (b.map Entry.enc)])))])] (fun _=>none) nx=some (r,h',n')/\ ∃R Q kB,r= .agg [R,Q,.ms kB 0 c.buf.length]/\V1 h' n' R Q kB c:=by
 obtain⟨⟨m1,m2,m3,m4⟩,_⟩:=cR (cS hf).1;have l1:=hc.lm;have l2:=hc.la;have l3:=hc.lb;have e3:(c.buf.length:Int)<=4294967296:=aa
 refine bO (q:=?_)
 simp -dsimp only[go_sem,seval];refine u_ aa ?_;rintro R DN KZ DC H6 ⟨AX,Dr⟩;simp -dsimp only[go_sem,seval,AX];refine u_ aa ?_;rintro Q D0 KY Cl Cv ⟨DT,CG⟩;unfold V.cells at Dr CG;simp -dsimp only[go_sem,seval,AX,Dr,DT,CG,e3,gz]
 generalize Rh:At (At (fun _=>none) DN) D0=H0 at *
 refine aS 2305843009213431920 c.buf.length (fun i f h x=>(f 4).v=vi i/\ ∃P vs,h (nx+2+9)=some (.rows 1 (vs++List.replicate (c.buf.length-i) [.t .nils]) false)/\BufsV h P vs (c.buf.take i)/\P 0=nx+2+10/\P i<=x/\(∀k,k<nx+2+9->h k=H0 k)) rfl ?_ ?_
 ·refine⟨am,fun _=>nx+2+10,[],by simp -dsimp only[go_sem,seval,eG,tf],⟨rfl,fun q w=>ax _,fun q b E=>by simp at E⟩,rfl,av,?_⟩;intro k g;have:k≠nx+2+9:=aa
  simp -dsimp only[go_sem,seval,this]
 rintro i f u Ho x bs hi ⟨D,P,vs,hB,J,Co,He,AG⟩;have hw:=ay i aa;simp -dsimp only[go_sem,seval,D];refine aO D ?_ ?_<;>intro h<;>try exact⟨⟩<;>try exact h.elim
 ·obtain⟨b,E,EW⟩:=au ‹i<c.buf.length›;obtain⟨b1,b2,_⟩:=hc.buf i b E
  have Ae:List.replicate (c.buf.length-i) [V.t T.nils]=[V.t T.nils]::List.replicate (c.buf.length-i-1) [V.t T.nils]:=by
   rw[<- oy];congr 1;omega
  have E6:vs.length=i:=by rw[J.len,bJ];omega
  have Do:nx+2+9<x:=by have:=J.le (q:=0) (r:=i) aa (by rw[bJ];omega);omega
  refine aS 2305843009180139616 b.length (fun j f' h' d=>(f' 5).v=vi j/\ ∃v,h' (nx+2+9)=some (.rows 1 (vs++[v]::List.replicate (c.buf.length-i-1) [.t .nils]) false)/\ic h' x d v (b.take j)/\x<=d/\(∀k,k<x->k≠nx+2+9->h' k=Ho k)) rfl ?_ ?_
  ·refine⟨am,.t .nils,bh hB Ae,⟨[],.inl ⟨rfl,rfl⟩,af,af,af⟩,av,fun k _ _=>rfl⟩
  rintro j f' u' s d bs' hj ⟨Z,v,EX,Y,PA,DD⟩;have Aw:=ay j aa;simp -dsimp only[go_sem,seval,Z,D,E];refine qV Z D E ?_ ?_<;>intro h<;>try exact⟨⟩<;>try exact h.elim
  ·obtain⟨e,he,Cn⟩:=au ‹j<b.length›;have M:=b2 e Cn;have BL:=g6 M
   have B5:(vs++[v]::List.replicate (c.buf.length-i-1) [V.t T.nils])[i]? =some [v]:=by
    rw[eF aa,E6,dJ];rfl
   obtain⟨Bs,Fc⟩:=Y.val;have C8:(i:Int)<(c.buf.length:Int):=aa
   have Dq:(0:Int)<=(i:Int):=aa
   simp -dsimp only[go_sem,seval,Z,D,E,he,Entry.enc,EX,B5,C8,Dq,Bs];refine u_ aa ?_;rintro l K Ny NQ Kv ⟨Bu,Bi⟩;simp -dsimp only[go_sem,seval,Bu];refine u_ (by have:=M.len;omega) ?_;rintro m L HQ L7 LD ⟨Di,CL⟩;unfold V.cells at Bi CL;obtain⟨rows,U,C,W,Bh⟩:=Y
   have hG: ∀k,k<d->updC (At (At s K) L) (d+8+10+15) (some (O.rows 2 [[l,m]] false)) k=s k:=fun k g=>by
    rw[aq,ac aa,L7 k aa,NQ k aa]
   have I1:aw (updC (At (At s K) L) (d+8+10+15) (some (O.rows 2 [[l,m]] false))) (d+8+10+16) v 2 rows:=by
    rcases U with h | ⟨k,a,h2,B,A⟩
    ·exact .inl h
    ·exact .inr ⟨k,a,aa,by rw[hG k B];exact A⟩
   have AD:=I1.rowsS;simp -dsimp only[go_sem,seval,Bs,Bu,Bi,Di,CL,AD];have Aa:(rows.all fun r=>decide (r.length=2))=true:=ak W
   refine bY I1 (ax _) (by have:=J.len;rw[C,bJ];omega) aG rfl Aa ?_;intro v2 hp hO Bp Aq;rcases hO with⟨_,CY⟩ | ⟨t,rfl,AF,C4⟩
   ·simp at CY
   have FA:d+8+10+16<=t:=by
    rcases bv t (d+8+10+16)with a | a
    ·exact absurd rfl (Bp t a 0 _)
    ·exact a
   have AM: ∀k,(k<x\/d<=k\/ ∀rs fz,s k≠some (O.rows 2 rs fz))->aJ v k:=by
    intro k g;rcases U with⟨rfl,_⟩ | ⟨k',rfl,h2,B,A⟩
    ·intro i n z;cases z
    ·refine c7 ?_ _ _;rintro rfl;rcases g with g | g | g
     ·omega
     ·omega
     ·exact g _ _ A
   have A8: ∀k,k<d->(k<x\/ ∀rs fz,s k≠some (O.rows 2 rs fz))->At (updC (At (At s K) L) (d+8+10+15) (some (O.rows 2 [[l,m]] false))) hp k=s k:=by
    intro k g Ah;rw[Aq k aa (AM k (by rcases Ah with h | h;exact .inl h;exact .inr (.inr h))),hG k g]
   have Ij:=A8 (nx+2+9) aa (.inl aa);rw[EX]at Ij
   have E8:(vs++[v]::List.replicate (c.buf.length-i-1) [V.t T.nils]).set i [V.ms t 0 (rows++[[l,m]]).length]=vs++[V.ms t 0 (rows++[[l,m]]).length]::List.replicate (c.buf.length-i-1) [V.t T.nils]:=by
    rw[wb _ _ aa,E6,dJ];rfl
   simp -dsimp only[go_sem,seval,Z,D,Ij,B5,C8,Dq,E8];have N: ∀(o:Option O) k,k≠nx+2+9->updC (At (updC (At (At s K) L) (d+8+10+15) (some (O.rows 2 [[l,m]] false))) hp) (nx+2+9) o k=At (updC (At (At s K) L) (d+8+10+15) (some (O.rows 2 [[l,m]] false))) hp k:=fun o k g=>by rw[aq,ac g]
   have Hb: ∀(o:Option O) I,t<I->ic (updC (At (updC (At (At s K) L) (d+8+10+15) (some (O.rows 2 [[l,m]] false))) hp) (nx+2+9) o) x I (.ms t 0 (rows++[[l,m]]).length) (b.take (j+1)):=by
    intro o I IQ;refine⟨rows++[[l,m]],.inr ⟨t,rfl,aa,IQ,by rw[N _ _ aa];exact C4⟩,by rw[zM,C,bJ,bJ];simp;omega,?_,?_⟩
    ·intro r y;rcases cA.1 y with y | y
     ·exact W r y
     ·rw[bD]at y;rw[y];rfl
    ·intro q e0 w;rw[a8 he]at w;have S:(b.take j).length=j:=by rw[bJ];omega
     rcases bv q j with a | a
     ·rw[bR aa]at w;obtain⟨r,y,hE⟩:=Bh q e0 w;refine⟨r,by rw[bR (by rw[C];omega)];exact y,hE.keep (ax _) aa fun k a1 a2 a3=> ?_⟩;rw[N _ _ aa,A8 k a2 (.inr a3)]
     ·have Cc:q=j:=by
       have:=(zH.1 w).1;rw[zM,S,fR]at this;omega
      subst Cc;rw[eF aa,S,dJ]at w;simp only[ds,zA]at w;subst w;refine⟨[l,m],by rw[eF (by rw[C,S];exact ax _),C,S,dJ];rfl,?_⟩;have NZ:ai e.cells≠[]:=fun z=>M.ne (fq (by rw[<- aA,z];rfl))
      have Ak:ai e.values≠[]:=fun z=>M.ne (fq (by rw[<- M.len,<- aA,z];rfl))
      rcases Ny with⟨_,z⟩ | ⟨H,rfl,DO,J8⟩
      ·exact absurd z NZ
      rcases HQ with⟨_,z⟩ | ⟨kv,rfl,Eh,J2⟩
      ·exact absurd z Ak
      have qc:H=d+8+10+10:=by
       rcases Nat.decEq H (d+8+10+10)with a | a
       ·exact absurd rfl (Kv H a 0 _)
       ·exact a
      have qv:kv=d+8+10+13:=by
       rcases Nat.decEq kv (d+8+10+13)with a | a
       ·exact absurd rfl (LD kv a 0 _)
       ·exact a
      refine⟨H,kv,by rw[aA,aA],aa,aa,aa,aa,?_,?_⟩
      ·rw[N _ _ aa,Aq H aa (AM H (.inr (.inl aa))),aq,ac aa,L7 H aa];exact J8
      ·rw[N _ _ aa,Aq kv aa (AM kv (.inr (.inl aa))),aq,ac aa];exact J2
   refine⟨aa,al Aw,.ms t 0 (rows++[[l,m]]).length,am,?_,av,?_⟩
   ·simp -dsimp only[go_sem,seval];exact Hb _ _ aa
   intro k g Ls;simp -dsimp only[go_sem,seval,N _ k Ls];rw[A8 k aa (.inl g)];exact DD k g Ls
  ·have:j=b.length:=aa
   subst this;rw[bc]at Y;have Dv:c.buf.take (i+1)=c.buf.take i++[b]:=a8 E;have X:(c.buf.take i).length=i:=by rw[bJ];omega
   have C6:=J.snoc (h':=s) (x:=d) (v:=v) (b:=b) (by rw[X];omega) (fun k k1 t=>by rw[X]at t;exact DD k aa aa) (by
    rw[X];obtain⟨rows,U,C,W,Bh⟩:=Y;refine⟨rows,?_,C,W,fun q e0 w=> ?_⟩
    ·rcases U with h | ⟨k,a,h2,B,A⟩
     ·exact .inl h
     ·exact .inr ⟨k,a,aa,B,A⟩
    ·obtain⟨r,y,hE⟩:=Bh q e0 w
     exact⟨r,y,hE.keep He (ax _) fun _ _ _ _=>rfl⟩)
   rw[X,<- Dv]at C6;refine⟨aa,bh hw D,_,vs++[[v]],?_,C6,by rw[ah (pn _)];exact Co,by rw[ac aa];simp -dsimp only[go_sem,seval];omega,?_⟩
   ·simp -dsimp only[go_sem,seval,EX];rw[zQ];rfl
   ·intro k g;simp -dsimp only[go_sem,seval,DD k aa aa];exact AG k g
 ·have Cq:i=c.buf.length:=aa
  subst Cq;rw[dJ,nP,bK]at hB;rw[bc]at J
  have hM:jQ Ho 0 (nx+5) R (ai c.mem):=by
   rcases KZ with a | ⟨k,a,h2,B⟩
   ·exact .inl a
   ·exact .inr ⟨k,a,aa,aa,by rw[AG k aa,Cl k aa];exact B⟩
  have hA:jQ Ho (nx+5) (nx+8) Q (ai c.at_):=by
   rcases KY with a | ⟨k,a,h2,B⟩
   ·exact .inl a
   ·have g:k=nx+2+5:=by
     rcases Nat.decEq k (nx+2+5)with A | A
     ·subst a;exact absurd rfl (Cv k A 0 _)
     ·exact A
    exact .inr ⟨k,a,aa,aa,by rw[AG k aa];exact B⟩
  refine⟨R,Q,nx+2+9,rfl,nx+5,nx+8,P,vs,hM,hA,aa,aa,aa,hB,J,av⟩
end Rg
end
