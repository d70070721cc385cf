/- Part of the proof of laws of relyguardlaw36. No condition. -/
import Derived.Test.YtaiokglcgiemnaaGreatDoorEartAR
import Derived.Test.YtaiokglcgiemnaaGreatDoorEartAS
import Derived.Test.YtaiokglcgiemnaaGreatDoorEartAU
import Derived.Test.YtaiokglcgiemnaaGreatDoorEartAT
import Derived.Test.YtaiokglcgiemnaaGreatDoorEartAO
set_option linter.unusedSimpArgs false
set_option linter.unusedVariables false
set_option linter.defProp false
section
namespace Rg
open Go
theorem YV {l:List Int} (h:fS l=true):l.Pairwise (· < ·):=by
 have c: ∀i,i+1<l.length->l.getD i 0<l.getD (i+1) 0:=fun i hi=>by
  unfold fS at h;simp only[zN,dN,aR]at h;exact h i aa
 have e: ∀d i,i+d+1<l.length->l.getD i 0<l.getD (i+d+1) 0:=by
  intro d
  induction d with
  | zero=>exact fun i hi=>c i hi
  | succ d g=>intro i hi;have a:=g i aa;have b:=c (i+d+1) aa;rw[show i+(d+1)+1=i+d+1+1 by omega];omega
 rw[qn];intro i j hi f k;have:=e (j-i-1) i aa;rw[show i+(j-i-1)+1=j by omega]at this;simpa[zK,zI hi,zI f]using this
theorem Ql {p:Prog} (a:aO p=true) {t j:Nat} {x:Thread} {l:Loop} (b:p.threads[t]? =some x) (g:x.loops[j]? =some l):l.body.length<=48:=by
 have i:=uN.1 (show p.ok by simpa[aO]using a);obtain⟨_,_,⟨o,q,_⟩,_,r,_,e⟩:=HH.1 (i.threads t x b);obtain⟨⟨m,c,d⟩,n,_⟩:=JG.1 (e j l g);have s:=(mj a).2.2 x (zL b);refine uo 48 _ ((YV c).imp fun h=>aa) fun k f=> ?_
 have:=zN.1 d k f;simp only[inR,zF,aR]at this;have:=this.1;exact⟨this.1,aa⟩
set_option maxHeartbeats 4000000 in
theorem YG (p:Prog) (J:p.sane) (r:aO p=true) (k:Int) (hk:0<=k/\k<=2) {t j:Nat} {x:Thread} {l:Loop} (v:p.threads[t]? =some x) (w:x.loops[j]? =some l)
 (c:List Choice) (Ac:c.length<=120) (Bm:okN p k (ee p) c=true):
 Den Γ G 341 [(zP p),vi k,.t (.sl (c.map Choice.enc)),vi t,vi j]=some (.tup [vi (itM (nxK p k) t l (ee p) c).best,vi 0]):=by
 have X:=Lo p J;have Y:=wp p J r v w;have Z:=Mf k hk;have D4:=Ql r v w;have Aj:=fun a=>I2 l aa a
 have O:=r7 r k;have K:t<p.threads.length:=(zH.1 v).1;have Q: ¬((c.length:Int)>120):=aa
 obtain⟨T,D,_⟩:=aw (show t<(ee p).at_.length by rw[O.b.la];exact K);have Or:atI (ee p).at_ t=T:=jP (ak D);have Bb:(c.map Choice.enc).length=c.length:=af
 refine aD (q:=?_)
 by_cases I:T=l.head
 case' pos=>simp -dsimp only[go_sem,seval,X,Y,Z,v,w,Q,D,I]
 case' neg=>simp -dsimp only[go_sem,seval,X,Y,Z,v,w,Q,D,I]
 all_goals
  refine ba 41538374868278620992215173616823296 c.length (fun i f=>(f 55).v=vi i/\ ∃s:It,s=itM (nxK p k) t l (ee p) (c.take i)/\IsK p k s.c/\okN p k s.c (c.drop i)=true/\(f 13).v= .lb/\(f 13).box=some [.t (ints s.c.mem),.t (ints s.c.at_),.t (.sl (s.c.buf.map (fun b=>[.sl (b.map Entry.enc)])))]/\
   (f 14).v=vi s.best/\(f 15).v=vi s.arr/\0<=s.best/\s.best<=i+1/\0<=s.arr/\s.arr<=i+1) rfl rfl
   ⟨am,it0 t l (ee p),rfl,O,Bm,am,al @it0.eq_1,al @it0.eq_1,dp @it0.eq_1 Or I,by simp[it0],by simp[it0],by simp only[it0];split<;>omega,by simp only[it0];split<;>omega⟩ ?_
  rintro i f u kk bb hi ⟨S,s,F,E,q,U,b2,V,W,c1,c2,c3,c4⟩;have hw:=aC i aa
  by_cases B:i<c.length
  ·have C:=aW B;obtain⟨y,L,Eq⟩:=aw B;rw[je L,okN,zF,aR]at q;obtain⟨Hs,q⟩:=q;obtain⟨d,M,hd⟩:=sc r E Hs;have N:=xP p J r k hk s.c E y;rw[M]at N;have P:nxK p k s.c y=d:=by unfold nxK;rw[M]
   rw[P]at q;obtain⟨a,ha,_⟩:=aw (show t<s.c.at_.length by rw[E.b.la];exact K);obtain⟨g,hb,_⟩:=aw (show t<d.at_.length by rw[hd.b.la];exact K);have LV:atI s.c.at_ t=a:=jP (ak ha);have Fv:atI d.at_ t=g:=jP (ak hb);have C6:itM (nxK p k) t l (ee p) (c.take (i+1))=itS (nxK p k) t l s y:=by rw[bc L,kaW,<- F]
   have R:=Aj g;have hS:itS (nxK p k) t l s y=s.see l d g (fH t y||decide (a= -1)):=by simp only[itS,P,LV,Fv]
   have PI:IntKind.i64.wrap (s.arr+1)=s.arr+1:=bq aa;have MO:IntKind.i64.wrap (s.arr+1-1)=s.arr+1-1:=bq aa;have FQ:IntKind.i64.wrap (s.arr-1)=s.arr-1:=bq aa;have MM:IntKind.i64.wrap (0-1)=0-1:=bq aa
   have H: ∀mv,(fH t y||decide (a= -1))=mv-> ∀(e:Nat->Slot) ,(e 55).v=vi (i+1:Nat)->(e 13).v= .lb->(e 13).box=some [.t (ints d.mem),.t (ints d.at_),.t (.sl (d.buf.map (fun b=>[.sl (b.map Entry.enc)])))]->
    (e 14).v=vi (s.see l d g mv).best->(e 15).v=vi (s.see l d g mv).arr->(e 55).v=vi (i+1:Nat)/\ ∃s:It,s=itM (nxK p k) t l (ee p) (c.take (i+1))/\IsK p k s.c/\okN p k s.c (c.drop (i+1))=true/\(e 13).v= .lb/\(e 13).box=some [.t (ints s.c.mem),.t (ints s.c.at_),.t (.sl (s.c.buf.map (fun b=>[.sl (b.map Entry.enc)])))]/\
   (e 14).v=vi s.best/\(e 15).v=vi s.arr/\0<=s.best/\s.best<=(i+1:Nat)+1/\0<=s.arr/\s.arr<=(i+1:Nat)+1:=by
     intro mv z e g1 g2 g3 g4 g5;refine⟨g1,s.see l d g mv,by rw[C6,hS,z],hd,q,g2,g3,g4,g5,?_,?_,?_,?_⟩<;>simp only[It.see]<;>repeat' split
     all_goals omega
   have h5:((fH t y||decide (a= -1))=true/\(((y.thread=t)=True/\(y.step= -1)=False/\True)\/((y.thread=t)=False/\True/\(a= -1)=True)\/((y.thread=t)=True/\(y.step= -1)=True/\(a= -1)=True)))\/
    ((fH t y||decide (a= -1))=false/\(((y.thread=t)=False/\True/\(a= -1)=False)\/((y.thread=t)=True/\(y.step= -1)=True/\(a= -1)=False))):=by
    by_cases h:y.thread=t<;>by_cases m:y.step= -1<;>by_cases n:a= -1<;>simp[fH,h,m,n]
   rcases h5 with⟨z,⟨h,m,n⟩ | ⟨h,m,n⟩ | ⟨h,m,n⟩⟩ | ⟨z,⟨h,m,n⟩ | ⟨h,m,n⟩⟩
   all_goals
    cases A:gl l g<;>rw[A]at R
    case' false=>have o:=trivial
    case' true=>
     rcases Decidable.em (g=l.head)with o | o
     case' inl=>have o:=aW o
    all_goals
     simp -dsimp only[go_sem,seval,S,C,L,U,b2,V,W,N,ha,hb,R,h,m,n,o,PI,MO,FQ,MM];exact⟨aa,H _ z _ (al hw) (al U) am (by simp -dsimp only[go_sem,seval,It.see,A,o,lx,pN,v6,qW,ig,jn,ld,zG,aX,aU]) (by simp -dsimp only[go_sem,seval,W,It.see,A,o,lx,pN,v6,qW,ig,jn,ld,zG,aX,aU])⟩
  ·have C:=aJ B;have:i=c.length:=aa
   subst this;rw[bg]at F;refine aY S C V ?_;rw[F]
theorem Xh {n:Nat} {P:Nat->Prop} [DecidablePred P]:(∃i,i<n/\P i/\ ∀j,j<i-> ¬P j)\/ ∀j,j<n-> ¬P j:=by
 induction n with
 | zero=>exact .inr fun j c=>aa
 | succ n d=>
   rcases d with⟨i,f,a,b⟩ | h
   ·exact .inl ⟨i,aa,a,b⟩
   ·by_cases hp:P n
    ·exact .inl ⟨n,aa,hp,h⟩
    ·exact .inr fun j c=>by
      by_cases e:j=n
      ·rw[e];exact hp
      ·exact h j aa
def iR (l:List Vis) (t:Nat) (lp:Loop) (i:Nat):Bool:=decide (i<l.length)&&m9 l t lp i
def jJ (p:Prog) (k:Int) (l:List Vis) (t:Nat) (lp:Loop) (u:Nat):List (Nat×Choice):=ge (cn p k l) (iR l t lp) t u (cn p k l (u/ 2))
def jM (p:Prog) (k:Int) (l:List Vis) (t:Nat) (lp:Loop) (i:Nat):Prop:=atI (dJ l i).at_ t=lp.head/\Cyc (cn p k l) (iR l t lp) t i
theorem tq (p:Prog) (hs:p.sane) (K:aO p=true) (k:Int) (hk:0<=k/\k<=2) {t j:Nat} {th:Thread} {lp:Loop} (U:p.threads[t]? =some th) (Ef:th.loops[j]? =some lp) (c:Nat) (h1:1<=c) (h2:c<=10000):
 (dX p k c=none/\Den Γ G 343 [(zP p),vi k,vi t,vi j,vi c]=some (.tup [.t (.sl []),.t (.sl []),vi 2]))\/
 ∃l,dX p k c=some l/\
  ((∃i,i<l.length/\jM p k l t lp i/\(∀m,m<i-> ¬jM p k l t lp m)/\
    Den Γ G 343 [(zP p),vi k,vi t,vi j,vi c]=some (.tup [.t (.sl ((eN (cn p k l) l.length 0 i).map Choice.enc)),.t (.sl ((eN (jJ p k l t lp) (2*l.length) (2*i) (2*i+1)).map Choice.enc)),vi 0]))\/
  ((∀i,i<l.length-> ¬jM p k l t lp i)/\
    Den Γ G 343 [(zP p),vi k,vi t,vi j,vi c]=some (.tup [.t (.sl []),.t (.sl []),vi 4]))):=by
 have Z:=wp p hs K U Ef;have EK:=Mf k hk;have W:=Wi p hs K k hk c h1 aa;have AO:((c:Int)<1)=False:=aJ aa
 cases hb:dX p k c with
 | none=>
   refine .inl ⟨rfl,?_⟩;rw[hb]at W
   exact aD (q:=jR Z EK AO W)
   done
 | some l=>
   refine .inr ⟨l,rfl,?_⟩;rw[hb]at W;simp only at W;obtain⟨J,FZ⟩:=N8 K h1 hb
   have key: ∀R:V,((∃i,i<l.length/\jM p k l t lp i/\(∀m,m<i-> ¬jM p k l t lp m)/\
    R= .tup [.t (.sl ((eN (cn p k l) l.length 0 i).map Choice.enc)),.t (.sl ((eN (jJ p k l t lp) (2*l.length) (2*i) (2*i+1)).map Choice.enc)),vi 0])\/((∀i,i<l.length-> ¬jM p k l t lp i)/\R= .tup [.t (.sl []),.t (.sl []),vi 4]))->
    Den Γ G 343 [(zP p),vi k,vi t,vi j,vi c]=some R:=by
    intro R hR;have D4:=Ql K U Ef;have Aj:=fun a=>I2 lp aa a
    refine aD (q:=cw Z EK AO W U Ef ?_);refine bf (XJ p hs K k hk l J aa _ _) ?_;rintro r h' n' ⟨A,S,vs,rfl,hG,Rj,C⟩;refine ar hG ?_;have Ro:S≠A:=by rintro rfl;have:=C.e;rw[hG]at this;simp at this
    have Fn:0<l.length:=(zH.1 J.z).1
    refine aS 38685607780924059881177088 l.length (fun i f Q z=>(f 64).v=vi i/\ ∃vI,Q A=some (.rows 3 [[.ms S 0 l.length,vI,vi t]] false)/\ay Q z vI 1 (cE (m9 l t lp) i)/\n'<=z/\(∀q,q<n'->q≠A->Q q=h' q)/\ ∀q,q<n'->aK vI q) rfl
     ⟨am,.t .nils,by simp -dsimp only[go_sem,seval];try rfl,.inl ⟨rfl,rfl⟩,av,fun q _ B=>al B,fun q _ i n e=>by cases e⟩ ?_
    rintro i f u' Q z bs hi ⟨HC,vI,e1,hO,P1,BY,Bn⟩;have BF:=aC i aa
    by_cases d:i<l.length
    ·have o:=aW d;have D:=zI d;have hc:=kP D;have NC:=(rH J d).b.la;have Dd:t<p.threads.length:=(zH.1 U).1;obtain⟨w,s,_⟩:=aw (show t<(dJ l i).at_.length by rw[NC];exact Dd);have Bj:atI (dJ l i).at_ t=w:=jP (ak s);have GO:m9 l t lp i=gl lp w:=by rw[m9,Bj]
     rw[hc]at s;have Dq:=Aj w;have v1:=hO.valOf;simp -dsimp only[go_sem,seval,HC,o,D,Config.enc,e1,s,Dq,v1,(fun b=>(hO.upd (q:=z+1+4+12) aa b).rowsS: ∀b,_)];refine bX (hO.upd (q:=z+1+4+12) aa _) aa (by rw[fe];omega) aI rfl (by simp[cE]) ?_;intro vI' hp hP Cv AF;have x1:=hP.valOf;have x2:=hP.cellsV;unfold V.cells at x2;have y1:=AF A aa (Bn A Rj);rw[aq,ac aa,e1]at y1;refine bw x1 x2 y1 HC ?_
     have BM:cE (m9 l t lp) (i+1)=cE (m9 l t lp) i++[[vb (gl lp w)]]:=by
      rw[cE,sP,dZ,<- cE,<- GO];rfl
     refine⟨aa,a_ HC BF,vI',al y1,?_,av,fun q B Az=> ?_,fun q B=>Cv q aa⟩
     ·refine ar y1 ?_;rw[BM];refine ay.keep (h:=At (updC Q (z+1+4+12) (some (O.rows 1 [[V.t (T.bool (gl lp w))]] false))) hp) hP aa fun q q1 q2=> ?_
      have:q≠A:=by rintro rfl;exact q2 (Cv _ aa)
      exact al this
     ·refine ar Az ?_;rw[AF q aa (Bn q B),aq,ac aa];exact BY q B Az
    ·have o:=aJ d;have:i=l.length:=aa
     subst this;refine aG HC o ?_;rcases hO with⟨_,e0⟩ | ⟨kI,rfl,QZ,IG⟩
     ·have:l.length=0:=by rw[<- fe (m9 l t lp) l.length,e0];rfl
      omega
     rw[fe]at e1
     have O8:cE (m9 l t lp) l.length=cE (iR l t lp) l.length:=by
      refine ry fun i hi=> ?_
      simp[iR,dN.1 hi]
     rw[O8]at IG
     have F:GrfH Q z A S kI vs l.length (cn p k l) (iR l t lp) t:=by
      refine⟨e1,(BY S C.lt Ro).trans C.e,IG,⟨aa,by have:=C.lt;omega,QZ⟩,by rw[C.len];simp,fun i v Z=> ?_,fun i hi=> ?_,fun i hi y hy=>yy J hi y hy,aa,fun i hi=> ?_⟩
      ·have d:=(zH.1 Z).1;rw[C.len,cL,pX]at d;have ho:=C.own i v _ Z (by rw[zJ,jo d];rfl);refine ho.keep P1 fun q q1 q2=>BY q q1 ?_
       rintro rfl;exact q2 (ho.offAt fun rs e=>by rw[hG]at e;simp at e)
      ·rw[cn,cL];exact G_ K (rH J hi).b
      ·simp only[iR,zF,aR]at hi;exact hi.1
     refine bf (Wt (F.keep aa fun q _=>rfl)) ?_;rintro r h2 n2 ⟨good,Df,FD,Fh,AF⟩;have v2:=Df.valOf;have T2:=F.keep (show z<=n2 from aa) fun q B=>AF q aa
     refine ar v2 ?_
     refine aS 340282366920319493443731917294320229376 l.length (fun i f hy y=>(f 89).v=vi i/\(∀m,m<i-> ¬jM p k l t lp m)/\n2<=y/\ ∀q,q<n2->hy q=h2 q) rfl
      ⟨am,fun m AK=>aa,av,fun q _=>rfl⟩ ?_
     rintro i f u' hy y bs hi ⟨MC,Ms,P9,DA⟩;have BF:=aC i aa;have T3:=T2.keep P9 DA
     by_cases d:i<l.length
     ·have o:=aW d;have D:=zI d;have hc:=kP D;have NC:=(rH J d).b.la;have Dd:t<p.threads.length:=(zH.1 U).1;obtain⟨w,s,_⟩:=aw (show t<(dJ l i).at_.length by rw[NC];exact Dd);have Bj:atI (dJ l i).at_ t=w:=jP (ak s);rw[hc]at s;have J1:jM p k l t lp i<->w=lp.head/\good i=true:=by rw[jM,Bj,FD i d]
      rcases Df with⟨_,e0⟩ | ⟨kg,hr,L9,GS⟩
      ·have:l.length=0:=by rw[<- fe good l.length,e0];rfl
       omega
      rw[fe]at hr;subst hr;have Pn:=(DA kg L9).trans GS;have Pl:=mw good d
      by_cases M6:w=lp.head
      ·have Ig:=aW M6;cases I8:good i
       ·refine jk MC o D @Config.enc.eq_1 s Ig Pn @fe Pl I8 ?_;refine⟨aa,al BF,fun m AK=> ?_,av,DA⟩
        by_cases e:m=i
        ·subst e;rw[J1,I8];simp
        ·exact Ms m aa
       ·refine jk MC o D @Config.enc.eq_1 s Ig Pn @fe Pl I8 ?_;have Rn:wI 364 A S kI vs l.length (cn p k l) (iR l t lp) t l.length (cn p k l):=fun h x u T E=>Wn T E
        have Rl:wI 365 A S kI vs l.length (cn p k l) (iR l t lp) t (2*l.length) (jJ p k l t lp):=fun h x u T E=>WF T E
        have QU: ∀u,u<l.length->(cn p k l u).length<=268/\ ∀e∈cn p k l u,e.1<l.length:=fun u E=>⟨F.small u E,F.to u E⟩
        have Ge: ∀u,u<2*l.length->(jJ p k l t lp u).length<=268/\ ∀e∈jJ p k l t lp u,e.1<2*l.length:=fun u E=>by
         have IU:u/ 2<l.length:=aa
         refine⟨?_,fun e he=> ?_⟩
         ·rw[jJ,ge,cL];exact cQ (kf _ _) (F.small _ IU)
         ·obtain⟨e',h',rfl⟩:=df.1 he;have:=F.to _ IU e' (ic.1 h').1;simp only;split<;>omega
        have m1:IntKind.i64.wrap (2*(i:Int))=((2*i:Nat):Int):=lP aa aa;have m2:IntKind.i64.wrap (((2*i:Nat):Int)+1)=((2*i+1:Nat):Int):=lP aa aa;have m3:IntKind.i64.wrap (2*(l.length:Int))=((2*l.length:Nat):Int):=lP aa aa;refine bf (MF (T3.keep aa fun q _=>rfl) Rn QU aa Fn d) ?_;rintro r4 h4 n4 ⟨Gf,Qt,GN⟩;have v4:=Gf.valOf;refine aY m1 m2 m3 ?_;refine bf (MF (T3.keep aa fun q B=>GN q aa) Rl Ge aa (fr:=2*i) (to:=2*i+1) aa aa) ?_;rintro r5 I n5 ⟨X,Qs,Ko⟩;have v5:=X.valOf;have JX:ay I n5 r4 3 (bj (eN (cn p k l) l.length 0 i)):=Gf.keep aa fun q B _=>Ko q aa
        have t4:toT I 1000 r4=_:=jy (es:=(eN (cn p k l) l.length 0 i).map Choice.enc) JX (o7 _);have t5:toT I 1000 r5=_:=jy (es:=(eN (jJ p k l t lp) (2*l.length) (2*i) (2*i+1)).map Choice.enc) X (o7 _)
        have QT:R= .tup [.t (.sl ((eN (cn p k l) l.length 0 i).map Choice.enc)),.t (.sl ((eN (jJ p k l t lp) (2*l.length) (2*i) (2*i+1)).map Choice.enc)),vi 0]:=by
         have Kn:jM p k l t lp i:=J1.2 ⟨M6,I8⟩;rcases hR with⟨i0,Y,H,g3,g4⟩ | ⟨g,_⟩
         ·have:i0=i:=by
           rcases wb i0 i with h | h | h
           ·exact absurd H (Ms i0 h)
           ·exact h
           ·exact absurd Kn (g3 i h)
          subst this;exact g4
         ·exact absurd Kn (g i d)
        rw[QT];have y4:=JX.resVal;have y5:=X.resVal;unfold resVal at y4 y5;clear Gf v4 v5
        have M: ∀L:List Choice,((if(bj L).length<=(bj L).length then some (List.take (bj L).length (bj L))else none).bind fun r=>(List.mapM (fun row=>List.mapM (toT I 999) row) r).bind fun es=>some (T.sl es))=some (T.sl (L.map Choice.enc)):=fun L=>by
         rw[ah (aA _),bg,zD,show(bj L).mapM (fun row=>row.mapM (toT I 999))=some (L.map Choice.enc)from mu I 999 _ (o7 _)];rfl
        have N: ∀L:List Choice,bj L=[]->L=[]:=fun L h=>by simpa[bj]using h
        rcases JX with⟨rfl,e4⟩ | ⟨k4,rfl,b4,c4⟩
        ·rw[N _ e4];rcases X with⟨rfl,e5⟩ | ⟨k5,rfl,b5,c5⟩
         ·rw[N _ e5];exact am
          try rfl
         ·refine ar c5 ?_;rw[M];rfl
        ·rcases X with⟨rfl,e5⟩ | ⟨k5,rfl,b5,c5⟩
         ·rw[N _ e5];refine ar c4 ?_;rw[M];rfl
         ·refine aG c4 c5 ?_;rw[M,M];rfl
      ·have Ig:=aJ M6;refine cw MC o D @Config.enc.eq_1 s Ig ?_;refine⟨aa,al BF,fun m AK=> ?_,av,DA⟩
       by_cases e:m=i
       ·subst e;rw[J1];exact fun h=>M6 h.1
       ·exact Ms m aa
     ·have o:=aJ d;have:i=l.length:=aa
      subst this;rcases hR with⟨i,Y,H,_⟩ | ⟨_,rfl⟩
      ·exact absurd H (Ms i Y)
      ·exact a_ MC o
       done
   classical
   rcases Xh (n:=l.length) (P:=jM p k l t lp)with⟨i,Y,H,g3⟩ | g
   ·exact .inl ⟨i,Y,H,g3,key _ (.inl ⟨i,Y,H,g3,rfl⟩)⟩
   ·exact .inr ⟨g,key _ (.inr ⟨g,rfl⟩)⟩
theorem UB {m:Int} (h:0<=m):m.tmod 3=m % 3:=vN h
theorem OO (a:List Int) (b:List Choice) (fr:Nat): ∀(f v:Nat) (l:List Choice),(lX a b fr f v l).length<=l.length+f
 | 0,v,l=>by rw[lX];omega
 | f+1,v,l=>by
   rw[lX];split
   ·have:=OO a b fr f (a.getD v (-1)).toNat (l++[b.getD v ch0]);rw[zM,fN]at this;omega
   ·omega
theorem L2 {E:Nat->List (Nat×Choice)} {n fr to:Nat} (c: ∀u,u<n-> ∀e∈E u,e.1<n) (a:fr<n):(eN E n fr to).length<=n+1:=by
 obtain⟨i,h,_⟩:=kal (to:=to) c a;have b:=OO (iP E n fr to).par (iP E n fr to).ch fr ((iP E n fr to).q.idxOf to+1) to [];have d:(iP E n fr to).q.idxOf to<=(iP E n fr to).q.length:=GM;have f:=h.len;rw[eN,mH];simp only[i6]at b;omega
theorem kb0 {p:Prog} {k:Int} {l:List Vis} (a:VisOk p k l l.length) (t:Nat) (lp:Loop): ∀u,u<2*l.length-> ∀e∈jJ p k l t lp u,e.1<2*l.length:=by
 intro u c e b;obtain⟨e',h',rfl⟩:=df.1 b;have:=yy a (show u/ 2<l.length from aa) e' (ic.1 h').1;simp only;split<;>omega
theorem Vw (w:Den Γ G 334 []=some (vb true)) (p:Prog) (R:p.lite) (m:Int) (hm:0<=m/\m<256) (t j:Int) (a:Int) (NA:0<=a/\a<256):
 Den Γ G 333 [(zP p),.t (.int .u8 m),vi t,vi j,.t (.int .u8 a)]=some (vb true):=by
 have g:=X3 p R t j
 refine aD (q:=?_)
 cases B:iV p&&jd p t j
 ·rw[B]at g;exact a_ w g
 ·rw[B]at g;simp only[zF]at B;obtain⟨NV,Qw⟩:=B;have I:=OZ R NV;obtain⟨D,r,E,x,l,rfl,rfl,S,N⟩:=X2 Qw;have y:IntKind.i64.wrap m=m:=bq aa;have s:=UB hm.1
  generalize Ah:m % 3=k at s
  have H:0<=k/\k<=2:=aa
  have n:=WT p I D k H;have A:IntKind.i64.wrap a=a:=bq aa;have z:a.tmod 40=((a % 40).toNat:Int):=by rw[vN NA.1];omega
  generalize hq:(a % 40).toNat=q at z
  have Z:q+1<=40:=aa
  have C:IntKind.i64.wrap ((q:Int)+1)=((q+1:Nat):Int):=lP aa aa
  cases v:dX p k 40 with
  | none=>
    rw[v]at n
    simp -dsimp only[go_sem,seval,w,g,y,s,n,mc]
  | some b=>
    rw[v]at n;obtain⟨Q,FZ⟩:=N8 D aa v;have d:=tq p I D k H S N 40 aa aa;rcases d with⟨e,_⟩ | ⟨L,e,d⟩
    ·rw[v]at e;cases e
    rw[v]at e;obtain rfl:b=L:=by cases e;rfl
    rcases tq p I D k H S N (q+1) aa aa with⟨P,f⟩ | ⟨M,P,f⟩
    ·rcases d with⟨i,T,J,U,d⟩ | ⟨_,d⟩
     ·have o:Den Γ G 343 [(zP p),vi k,vi r,vi E,vi 40]=_:=d;simp -dsimp only[go_sem,seval,w,g,y,s,n,na,A,z,C,f,o]
     ·have o:Den Γ G 343 [(zP p),vi k,vi r,vi E,vi 40]=_:=d;simp -dsimp only[go_sem,seval,w,g,y,s,n,na,A,z,C,f,o]
    ·have O:=Za (show 1<=q+1 from aa) Z P;rw[v]at O;obtain rfl:b=M:=by cases O;rfl
     have OA: ∀u,u<b.length-> ∀e∈cn p k b u,e.1<b.length:=fun u hu=>yy Q hu
     rcases d with⟨i,T,J,U,d⟩ | ⟨n0,d⟩
     ·rcases f with⟨c,V,K,W,f⟩ | ⟨X,_⟩
      ·have:c=i:=by
        rcases wb c i with h | h | h
        ·exact absurd K (U c h)
        ·exact h
        ·exact absurd J (W i h)
       subst this;have o:Den Γ G 343 [(zP p),vi k,vi r,vi E,vi 40]=_:=d;have b1:=L2 (to:=c) OA (show 0<b.length from aa);have b2:=L2 (to:=2*c+1) (kb0 Q r l) (show 2*c<2*b.length from aa);have F:=tc (eN (cn p k b) b.length 0 c) (eN (cn p k b) b.length 0 c) aa;have Y:=tc (eN (jJ p k b r l) (2*b.length) (2*c) (2*c+1)) (eN (jJ p k b r l) (2*b.length) (2*c) (2*c+1)) aa;rw[ql rfl]at F Y;simp -dsimp only[go_sem,seval,w,g,y,s,n,na,A,z,C,f,o,F,Y]
      ·exact absurd J (X i T)
     ·rcases f with⟨c,V,K,W,f⟩ | ⟨X,f⟩
      ·exact absurd K (n0 c V)
      ·have o:Den Γ G 343 [(zP p),vi k,vi r,vi E,vi 40]=_:=d
       have F:Den Γ G 40 [.t (.sl []),.t (.sl [])]=some (vb true):=by
        have:=tc [] [] af;rw[ql rfl]at this;exact this
       simp -dsimp only[go_sem,seval,w,g,y,s,n,na,A,z,C,f,o,F]
end Rg
end
