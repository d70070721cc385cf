/- Part of the proof of laws of relyguardlaw36. No condition. -/
import Derived.Test.YtaiokglcgiemnaaGreatDoorFartAP
set_option linter.unusedSimpArgs false
set_option linter.unusedVariables false
set_option linter.defProp false
section
namespace Rg
open Go
theorem Zz (k:Int) (l:List Entry) (i:Nat) (e:Entry) (g:l[i]? =some e) (C:l.length<2^20) (t: ∀x∈l,x.cells.length<2^20):
 Den Γ G 372 [vi k,.t (.sl (l.map Entry.enc)),vi i]=some (vb (dk k l i e)):=by
 have A:=(zH.1 g).1;have v:=zL g
 refine aB (q:=?_)
 by_cases n:i=0
 ·subst n;have a:dk k l 0 e=true:=by simp[dk]
  rw[a];refine aE ?_;refine bN ?_;exact am
 ·have s:(i:Int)>0:=aa
  by_cases q:k=2
  ·subst q;have a:dk 2 l i e= !jj (l.take i) e:=by simp[dk,n]
   rw[a];refine aC s ?_;refine aZ 268419264 i (fun j f=>(f 7).v=vi j/\jj (l.take j) e=false) rfl rfl ⟨am,by simp[jj]⟩ ?_;rintro j f u x bs B ⟨p,m⟩;have z:=ay j aa
   by_cases r:j<i
   ·have c:=aW r;obtain⟨o,b,w⟩:=au (show j<l.length from aa);have d:=kbr o e (t o w) (t e v);cases h:lW o e
    ·rw[h]at d;refine fZ p c b g @Entry.enc.eq_1 d ?_;refine⟨aa,al z,?_⟩;rw[a8 b,jj,vW];rw[jj]at m;simp[m,h]
    ·rw[h]at d
     have y:jj (l.take i) e=true:=by
      simp only[jj,lC];exact⟨o,by rw[Hv];exact⟨j,aa,(zH.1 b).2⟩,h⟩
     rw[y];exact pp p c b g @Entry.enc.eq_1 d
   ·have c:=aI r;have:j=i:=aa
    subst this;rw[m];exact bh p c
  ·have a:dk k l i e=false:=by simp[dk,n,q]
   rw[a];exact bh s q
theorem Nl (a:List Int) (e:Entry) (K:a.length<2^31) (L:e.values.length=e.cells.length) (z: ∀c∈e.cells,0<=c/\c<a.length) (P:0<a.length) (S:e.cells.length<2^20):
 Den Γ G 373 [.t (ints a),.agg [.t (ints e.cells),.t (ints e.values)]]=some (.t (ints (d6 a e))):=by
 refine aB (q:=aE ?_);have E:=tS a K (fun _=>none) 0;obtain⟨r,h',O,o,b,_,_⟩:=E;refine qH (es:=a.map fun n=>[ti n]) rfl rfl ⟨r,h',O,o,b⟩ ?_;clear o b;intro v hp b _ _;have s:=b.valOf;refine aC s ?_;refine aS 268435008 e.cells.length (fun i f h x=>(f 6).v=vi i/\aw h x v 1 (ai (d4 a e i))) rfl ⟨am,by simp -dsimp only[go_sem,seval];exact b.le aa⟩ ?_;clear b;rintro i f u H x bs hi ⟨j,b⟩;have M:=ay i aa;have g: ∀i,(d4 a e i).length=a.length:=fun i=>tp _ _
 refine aC j ?_;refine aO j ?_ ?_<;>intro h
 ·obtain⟨c,p,B⟩:=au ‹i<e.cells.length›;obtain⟨d,q,_⟩:=au (show i<e.values.length from aa);obtain⟨F,Q⟩:=z c B;have N:(e.cells.zip e.values)[i]? =some (c,d):=oz.2 ⟨p,q⟩
  have D:d4 a e (i+1)=(d4 a e i).set c.toNat d:=by
   unfold d4;rw[a8 N,f8];rfl
  rcases b with⟨_,I⟩ | ⟨k,rfl,R,J⟩
  ·exfalso;have:(ai (d4 a e i)).length=0:=by rw[I];rfl
   rw[aA,g]at this;omega
  ·have y:c<(((ai (d4 a e i)).length:Nat):Int):=by rw[aA,g];omega
   have A:=gP (l:=d4 a e i) (i:=c.toNat) (by rw[g];omega);have m:=dW (d4 a e i) c.toNat d;rw[<- D]at m;refine gx j p q F y J A ?_;refine⟨aa,al M,.inr ⟨k,?_,av,?_⟩⟩
   ·rw[aA,aA,g,g]
   ·exact al m
 ·have:i=e.cells.length:=aa
  subst this
  have w:d4 a e e.cells.length=d6 a e:=by
   unfold d4 d6;rw[de (by simp[L])]
  rw[w]at b;have C:=b.reify (iI _);have t:=b.resVal;simp only[Rg.resVal]at t;refine aR s t ?_;exact C
structure RdI (h:Nat->Option O) (v:V) (l:List Int):Prop where
 val:valOf v=some v
 rd:toT1 h v=some (.t (ints l))
 res:resVal v=some v
 rf:Rg.reify h v=some (.t (ints l))
theorem RdI.tree (h:ae) (l:List Int):RdI h (.t (ints l)) l:=⟨rfl,rfl,rfl,rfl⟩
theorem RdI.own {h:ae} {x:Nat} {v:V} {l:List Int} (o:aw h x v 1 (ai l)):RdI h v l:=⟨o.valOf,kbk o,o.resVal,o.reify (es:=l.map fun n=>[ti n]) (iI _)⟩
theorem K2 (p:Prog) (I:aM p=true) (c:Config) (m:IsB p c) (t:Nat) (J:t<p.threads.length):
 Den Γ G 357 [(.agg [.t (ints (c).mem),.t (ints (c).at_),.t (.sl ((c).buf.map (fun b=>[.sl (b.map Entry.enc)])))]),vi t]=some (.t (ints (aK c t))):=by
 have O:=(mw I).1;have S:=m.lm;obtain⟨b,g,P⟩:=au (show t<c.buf.length by rw[m.lb];exact J);have F:=R9 g;obtain⟨R,C,_⟩:=m.buf t b g
 refine aB (q:=?_)
 simp -dsimp only[go_sem,seval,g];have E:=tS c.mem aa (fun _=>none) 0;obtain⟨r,h',L,q,a,_,_⟩:=E;refine qH (es:=c.mem.map fun n=>[ti n]) rfl rfl ⟨r,h',L,q,a⟩ ?_;clear q a;intro v hp a _ _;have N:=a.valOf;simp -dsimp only[go_sem,seval,N];refine aS 1073740896 b.length (fun i f h x=>(f 6).v=vi i/\RdI h (f 5).v ((b.take i).foldl d6 c.mem)) rfl ⟨am,by simp -dsimp only[go_sem,seval];exact .own a⟩ ?_;clear a;rintro i f u H x bs hi ⟨l,A⟩;have K:=ay i aa;obtain⟨w,M,y,z⟩:=A
 by_cases j:i<b.length
 ·have k:=aW j;obtain⟨e,s,B⟩:=au j;have d:=C e B;have D:=Nl ((b.take i).foldl d6 c.mem) e (by rw[ql];omega) d.len (fun n o=>by have:=lK d o;rw[ql];omega) (by rw[ql];obtain⟨n,o⟩:=HA _ d.ne;have:=(lK d o).2.1;omega) (by have:=g6 d;omega);simp -dsimp only[go_sem,seval,l,k,g,s,Entry.enc,w,↓M,D];refine XZ fun Q=> ?_
  simp -dsimp only[go_sem,seval,l];refine⟨aa,al K,?_⟩;simp -dsimp only[go_sem,seval,a8 s,f8,eQ,oU];exact .tree _ _
 ·have k:=aI j;have:i=b.length:=aa
  subst this;rw[bc]at z;simp only[Rg.resVal]at y;simp -dsimp only[go_sem,seval,l,k,g,w,y];rw[aK,F];exact z
theorem XJ (p:Prog) (H:aM p=true) (k:Int) (c:Config) (L:IsK p k c) (t:Nat) (x:Thread) (Q:p.threads[t]? =some x) (i:Nat) (s:Step) (Y:x.steps[i]? =some s):
 Den Γ G 371 [(zP p),vi k,(.agg [.t (ints (c).mem),.t (ints (c).at_),.t (.sl ((c).buf.map (fun b=>[.sl (b.map Entry.enc)])))]),vi t,(zS s)]=some (vb (db p c t s)):=by
 have D:=L.b;have l1:=D.lm;have l2:=D.la;have l3:=D.lb;have K:=lf H Q Y;have U:t<p.threads.length:=(zH.1 Q).1;obtain⟨a,e,_⟩:=au (show t<c.at_.length from aa);have O:atI c.at_ t=a:=jp (ak e);have f:=xv s.guard (aK c t) (aK c t);have g:=K2 p H c D t U;have Z:=K.kind;have h:=fA (c:=c) (t:=t) aa
 refine aB (q:=?_)
 by_cases d:a=s.fr
 ·by_cases B:s.guard.eval (aK c t) (aK c t)=1
  ·have z:db p c t s=(if s.kind=3 then(if s.release then decide ((aF c t).length=0)else decide ((aF c t).length<3))
    else if s.kind=4\/s.kind=5 then decide ((aF c t).length=0)
    else if s.kind=6 then decide ((aF c t).length=0)&&decide (atI c.at_ s.target= -1)
    else if s.kind=7 then decide ((aF c t).length=0)&&(decide (atI c.at_ s.target=kF p s.target-1)&&decide ((aF c s.target.toNat).length=0))
    else true):=by
    simp[db,O,d,B]
   rw[B]at f;rw[z];have w:((aF c t).length:Int)=0<->(aF c t).length=0:=aa
   have e3:((aF c t).length:Int)<3<->(aF c t).length<3:=aa
   by_cases j:s.kind=6\/s.kind=7
   ·obtain⟨o,_⟩:=K.tgt j;simp only[inR,aQ]at o;obtain⟨b,n,_⟩:=au (show s.target.toNat<c.at_.length from aa);obtain⟨y,r,_⟩:=au (show s.target.toNat<p.threads.length from aa);have Ml:=p' H r;have I:IntKind.i64.wrap (y.points-1)=y.points-1:=bt aa;have v:=jp n;have F:kF p s.target=y.points:=by simp[kF,r]
    have E:=fA (c:=c) (t:=s.target.toNat) aa;have P:((aF c s.target.toNat).length:Int)=0<->(aF c s.target.toNat).length=0:=aa
    have J:=Z7 p c s.target y b o.1 n r aa
    by_cases A:(aF c t).length=0
    ·rcases j with j | j
     ·simp -dsimp only[go_sem,seval,g,e,d,f,h,A,j,o.1,n,v,ir,iq,io,dV,iu,aT,aX]
     ·by_cases M:b=y.points-1
      ·simp -dsimp only[go_sem,seval,g,e,d,f,h,A,j,o.1,n,r,I,v,F,E,M,P,J,ir,iq,io,dV,iu,aT,aX]
      ·simp -dsimp only[go_sem,seval,g,e,d,f,h,A,j,o.1,n,r,I,v,F,E,M,P,J,im,ir,iq,io,dV,iu,aT,aX]
    ·rcases j with j | j
     ·simp -dsimp only[go_sem,seval,g,e,d,f,h,A,j,o.1,n,v,w,im,ir,iq,io,dV,iu,aT,aX]
     ·simp -dsimp only[go_sem,seval,g,e,d,f,h,A,j,o.1,n,r,I,v,F,E,w,im,ir,iq,io,dV,iu,aT,aX]
   ·have k6: ¬s.kind=6:=aa
    have k7: ¬s.kind=7:=aa
    by_cases q:s.kind=3
    ·by_cases m:k=0
     ·have X:=pE (L.q m) t;have N:(aF c t).length=0:=by rw[X];rfl
      cases l:s.release
      ·simp -dsimp only[go_sem,seval,g,e,d,f,h,q,l,m,N,ir,iq,io,dV,iu,aT,aX]
      ·simp -dsimp only[go_sem,seval,g,e,d,f,h,q,l,m,N,ir,iq,io,dV,iu,aT,aX]
     ·by_cases C:(aF c t).length<3
      ·have u:((aF c t).length:Int)<3:=aa
       cases l:s.release
       ·simp -dsimp only[go_sem,seval,g,e,d,f,h,q,l,m,C,u,ir,iq,io,dV,iu,aT,aX]
       ·simp -dsimp only[go_sem,seval,g,e,d,f,h,q,l,m,C,u,w,ir,iq,io,dV,iu,aT,aX]
      ·have u: ¬((aF c t).length:Int)<3:=aa
       have T: ¬(aF c t).length=0:=aa
       cases l:s.release
       ·simp -dsimp only[go_sem,seval,g,e,d,f,h,q,l,m,C,u,ir,iq,io,dV,iu,aT,aX]
       ·simp -dsimp only[go_sem,seval,g,e,d,f,h,q,l,m,C,u,T,ir,iq,io,dV,iu,aT,aX]
    ·by_cases V:s.kind=4
     ·simp -dsimp only[go_sem,seval,g,e,d,f,h,V,w,ir,iq,io,dV,iu,aT,aX]
     ·by_cases W:s.kind=5
      ·simp -dsimp only[go_sem,seval,g,e,d,f,h,W,w,ir,iq,io,dV,iu,aT,aX]
      ·by_cases S:s.kind=1
       ·simp -dsimp only[go_sem,seval,g,e,d,f,h,S,ir,iq,io,dV,iu,aT,aX]
       ·have R:s.kind=2:=aa
        simp -dsimp only[go_sem,seval,g,e,d,f,h,R,ir,iq,io,dV,iu,aT,aX]
  ·have z:db p c t s=false:=by simp[db,B]
   rw[z];simp -dsimp only[go_sem,seval,g,e,d,f,B]
 ·have z:db p c t s=false:=by simp[db,O,d]
  rw[z];simp -dsimp only[go_sem,seval,g,e,d]
end Rg
end
section
-- FULL
namespace Rg
open Go
def stV (p:Prog) (k:Int) (c:Config):V:=.agg [.t (ints c.mem),.t (ints c.at_),.t (.sl (c.buf.map fun b=>[.sl (b.map Entry.enc)])),.t (.sl (p.cells.map Cell.enc)),.t (.sl (p.modules.map Contract.enc)),.t (.sl (p.locks.map Lock.enc)),.t (.sl (p.threads.map Thread.enc)),vi k]
theorem Jy (p:Prog) (L:aM p=true) (k:Int) (c:Config) (C:IsB p c) (t:Nat) (x:Thread) (e:p.threads[t]? =some x) (i:Nat) (s:Step) (g:x.steps[i]? =some s):
 Den Γ G 189 [stV p k c,vi t,vi i,.t (ints (aK c t))]=some (vb (db p c t s)):=by
 have S:=C.lm;have T:=C.la;have U:=C.lb;have M:=lf L e g;have Q:t<p.threads.length:=(zH.1 e).1;obtain⟨a,f,_⟩:=au (show t<c.at_.length from aa);have I:atI c.at_ t=a:=jp (ak f);have h:=pb s.guard (aK c t) (aK c t);have l:=fA (c:=c) (t:=t) aa;unfold stV
 refine aB (q:=?_)
 by_cases d:a=s.fr
 ·by_cases w:s.guard.eval (aK c t) (aK c t)=1
  ·have r:db p c t s=(if s.kind=3 then(if s.release then decide ((aF c t).length=0)else decide ((aF c t).length<3))
    else if s.kind=4\/s.kind=5 then decide ((aF c t).length=0)
    else if s.kind=6 then decide ((aF c t).length=0)&&decide (atI c.at_ s.target= -1)
    else if s.kind=7 then decide ((aF c t).length=0)&&(decide (atI c.at_ s.target=kF p s.target-1)&&decide ((aF c s.target.toNat).length=0))
    else true):=by
    simp[db,I,d,w]
   rw[w]at h;rw[r];have q:((aF c t).length:Int)=0<->(aF c t).length=0:=aa
   have N:((aF c t).length:Int)<3<->(aF c t).length<3:=aa
   by_cases j:s.kind=6\/s.kind=7
   ·obtain⟨n,_⟩:=M.tgt j;simp only[inR,aQ]at n;obtain⟨b,m,_⟩:=au (show s.target.toNat<c.at_.length from aa);obtain⟨y,v,_⟩:=au (show s.target.toNat<p.threads.length from aa);have R:=p' L v;have D:IntKind.i64.wrap (y.points-1)=y.points-1:=bt aa;have o:=jp m;have B:kF p s.target=y.points:=by simp[kF,v]
    have A:=fA (c:=c) (t:=s.target.toNat) aa;have K:((aF c s.target.toNat).length:Int)=0<->(aF c s.target.toNat).length=0:=aa
    by_cases u:(aF c t).length=0
    ·rcases j with j | j
     ·simp -dsimp [go_sem,e,g,f,d,h,l,u,j,n.1,m,o]
     ·by_cases F:b=y.points-1
      ·simp -dsimp [go_sem,e,g,f,d,h,l,u,j,n.1,m,v,D,o,B,A,F,K]
      ·simp -dsimp [go_sem,e,g,f,d,h,l,u,j,n.1,m,v,D,o,B,A,F,K]
    ·rcases j with j | j
     ·simp -dsimp [go_sem,e,g,f,d,h,l,u,j,n.1,m,o,q]
     ·simp -dsimp [go_sem,e,g,f,d,h,l,u,j,n.1,m,v,D,o,B,A,q]
   ·have O: ¬s.kind=6:=aa
    have P: ¬s.kind=7:=aa
    by_cases z:s.kind=3
    ·cases E:s.release
     ·simp -dsimp [go_sem,e,g,f,d,h,l,z,E,N]
     ·simp -dsimp [go_sem,e,g,f,d,h,l,z,E,q]
    ·by_cases H:s.kind=4
     ·simp -dsimp [go_sem,e,g,f,d,h,l,H,q]
     ·by_cases J:s.kind=5
      ·simp -dsimp [go_sem,e,g,f,d,h,l,J,q]
      ·simp -dsimp [go_sem,e,g,f,d,h,l,O,P,z,H,J]
  ·have r:db p c t s=false:=by simp[db,w]
   rw[r];simp -dsimp [go_sem,e,g,f,d,h,w]
 ·have r:db p c t s=false:=by simp[db,I,d]
  rw[r];simp -dsimp [go_sem,e,g,f,d]
def ii (h:ae) (lo hi:Nat) (v:V) (rows:List (List V)):Prop:=
 (v= .t (.sl [])/\rows=[])\/ ∃k,v= .ms k 0 rows.length/\lo<=k/\k<hi/\h k=some (.rows 1 rows false)
theorem ii.keep {h h':ae} {lo hi:Nat} {v:V} {rows:List (List V)} (o:ii h lo hi v rows) (e: ∀k,lo<=k->k<hi->h' k=h k):ii h' lo hi v rows:=by
 rcases o with o | ⟨k,c,a,b,d⟩
 ·exact .inl o
 ·exact .inr ⟨k,c,a,b,by rw[e k a b];exact d⟩
theorem ii.val {h:ae} {lo hi:Nat} {v:V} {rows:List (List V)} (o:ii h lo hi v rows):Rg.valOf v=some v/\V.cells v=some [v]:=by
 rcases o with⟨rfl,_⟩ | ⟨k,rfl,_⟩<;>exact⟨rfl,rfl⟩
theorem ii.tree {h:ae} {lo hi:Nat} {v:V} {l:List Int} (o:ii h lo hi v (ai l)) (d:Nat):toT h (d+1) v=some (ints l):=by
 rcases o with⟨rfl,b⟩ | ⟨k,rfl,_,_,c⟩
 ·have:l=[]:=by
   have:=bx List.length b;rw[aA]at this;exact fq this
  subst this;rfl
 ·have a:List.take (ai l).length (ai l)=ai l:=ec rfl;simp only[toT,c,rd,gO,ax,aT,il,a,zC,zD,g7]
def m8 (h:ae) (lo hi:Nat) (r:List V) (e:Entry):Prop:=
 ∃a kv,r=[.ms a 0 e.cells.length,.ms kv 0 e.values.length]/\lo<=a/\a<hi/\lo<=kv/\kv<hi/\h a=some (.rows 1 (ai e.cells) false)/\h kv=some (.rows 1 (ai e.values) false)
theorem m8.keep {h h':ae} {lo hi a b:Nat} {r:List V} {e:Entry} (o:m8 h lo hi r e) (q:a<=lo) (s:hi<=b) (f: ∀k,lo<=k->k<hi->(∀rs p,h k≠some (.rows 2 rs p))->h' k=h k):m8 h' a b r e:=by
 obtain⟨g,kv,n,i,j,l,m,c,d⟩:=o;exact⟨g,kv,n,aa,aa,aa,aa,by rw[f g i j (by rw[c];simp)];exact c,by rw[f kv l m (by rw[d];simp)];exact d⟩
theorem m8.tree {h:ae} {lo hi:Nat} {r:List V} {e:Entry} (o:m8 h lo hi r e) (d:Nat):r.mapM (toT h (d+1))=some (Entry.enc e):=by
 obtain⟨a,kv,rfl,b,c,f,g,i,j⟩:=o;have k:=ii.tree (h:=h) (lo:=lo) (hi:=hi) (v:=.ms a 0 e.cells.length) (l:=e.cells) (.inr ⟨a,by rw[aA],b,c,i⟩) d;have m:=ii.tree (h:=h) (lo:=lo) (hi:=hi) (v:=.ms kv 0 e.values.length) (l:=e.values) (.inr ⟨kv,by rw[aA],f,g,j⟩) d;rw[cP,k,cP,m,td];rfl
def ic (h:ae) (lo hi:Nat) (v:V) (b:List Entry):Prop:=
 ∃rows,((v= .t .nils/\rows=[])\/ ∃k,v= .ms k 0 rows.length/\lo<=k/\k<hi/\h k=some (.rows 2 rows false))/\rows.length=b.length/\(∀r∈rows,r.length=2)/\
  ∀(j:Nat) (e:Entry),b[j]? =some e-> ∃r,rows[j]? =some r/\m8 h lo hi r e
theorem ic.keep {h h':ae} {lo hi c:Nat} {v:V} {b:List Entry} (o:ic h lo hi v b) (m:hi<=c) (f: ∀k,lo<=k->k<hi->h' k=h k):ic h' lo c v b:=by
 obtain⟨rows,a,n,p,q⟩:=o;refine⟨rows,?_,n,p,fun j e t=> ?_⟩
 ·rcases a with a | ⟨k,g,d,i,l⟩
  ·exact .inl a
  ·exact .inr ⟨k,g,d,aa,by rw[f k d i];exact l⟩
 ·obtain⟨r,u,s⟩:=q j e t;exact⟨r,u,s.keep (ax _) m fun k w x _=>f k w x⟩
theorem yq {h:ae} {d:Nat}: ∀(rows:List (List V)) (b:List Entry),rows.length=b.length->(∀(j:Nat) (e:Entry),b[j]? =some e-> ∃r,rows[j]? =some r/\r.mapM (toT h d)=some (Entry.enc e))->
 rows.mapM (fun row=>row.mapM (toT h d))=some (b.map Entry.enc)
 | [],[],_,_=>rfl
 | [],_::_,hl,_=>by simp at hl
 | _::_,[],hl,_=>by simp at hl
 | r::rows,e::b,hl,hj=>by
   have g:=yq rows b (ak hl) fun j e c=>hj (j+1) e c
   obtain⟨i,a,f⟩:=hj 0 e rfl;simp only[ds,zA]at a;subst a;rw[cP,f,g];rfl
theorem ic.tree {h:ae} {lo hi:Nat} {v:V} {b:List Entry} (o:ic h lo hi v b) (d:Nat):toT h (d+2) v=some (.sl (b.map Entry.enc)):=by
 obtain⟨rows,i,c,s,l⟩:=o;rcases i with⟨rfl,rfl⟩ | ⟨k,rfl,p,q,g⟩
 ·have:b=[]:=fq (ak c.symm);subst this;rfl
 ·have f:List.take rows.length rows=rows:=ec rfl
  have a:=yq (h:=h) (d:=d+1) rows b c fun j e n=>by
   obtain⟨r,a,m⟩:=l j e n;exact⟨r,a,m.tree d⟩
  simp only[toT,g,rd,gO,ax,aT,il,f,zC,zD,a]
theorem ic.val {h:ae} {lo hi:Nat} {v:V} {b:List Entry} (o:ic h lo hi v b):Rg.valOf v=some v/\V.cells v=some [v]:=by
 obtain⟨rows,⟨rfl,_⟩ | ⟨k,rfl,_⟩,_⟩:=o<;>exact⟨rfl,rfl⟩
structure BufsV (h:Nat->Option O) (bd:Nat->Nat) (vs:List (List V)) (bs:List (List Entry)):Prop where
 len:vs.length=bs.length
 mono: ∀q,q<bs.length->bd q<=bd (q+1)
 at_: ∀(q:Nat) (b:List Entry),bs[q]? =some b-> ∃v,vs[q]? =some [v]/\ic h (bd q) (bd (q+1)) v b
theorem BufsV.le {h:ae} {a:Nat->Nat} {vs:List (List V)} {bs:List (List Entry)} (o:BufsV h a vs bs) {q r:Nat} (c:q<=r) (d:r<=bs.length):a q<=a r:=by
 induction r with
 | zero=>have:q=0:=by omega
         subst this;exact ax _
 | succ r b=>
   rcases bv q (r+1)with h | h
   ·exact cT (b aa aa) (o.mono r aa)
   ·have:q=r+1:=aa
    subst this;exact ax _
theorem BufsV.snoc {h h':ae} {a:Nat->Nat} {vs:List (List V)} {bs:List (List Entry)} (o:BufsV h a vs bs) {x:Nat} {v:V} {b:List Entry} (l:a bs.length<=x)
 (g: ∀k,a 0<=k->k<a bs.length->h' k=h k) (j:ic h' (a bs.length) x v b):BufsV h' (fun q=>if q<=bs.length then a q else x) (vs++[[v]]) (bs++[b]):=by
 refine⟨by simp[o.len],fun q e=> ?_,fun q b' d=> ?_⟩
 ·rw[zM,fR]at e;rcases bv q bs.length with c | c
  ·rw[ah aa,ah aa];exact o.mono q c
  ·have:q=bs.length:=aa
   subst this;rw[ah (ax _),ac aa];exact l
 ·rcases bv q bs.length with c | c
  ·rw[bR c]at d;obtain⟨u,i,f⟩:=o.at_ q b' d;refine⟨u,by rw[bR (by rw[o.len];exact c)];exact i,?_⟩;rw[ah aa,ah aa];refine f.keep (ax _) fun k m n=>g k ?_ ?_
   ·have:=o.le (pn q) aa;omega
   ·have:=o.le (show q+1<=bs.length from aa) (ax _);omega
  ·have e:q=bs.length:=by
    have:=(zH.1 d).1;rw[zM,fR]at this;omega
   subst e;rw[eF (ax _),dJ]at d;simp only[ds,zA]at d;subst d;refine⟨v,by rw[eF (by rw[o.len];exact ax _),o.len,dJ];rfl,?_⟩;rw[ah (ax _),ac aa];exact j
def V2 (h:ae) (x:Nat) (g f:V) (b:Nat) (c:Config):Prop:=
 ∃d e a vs,ii h 0 d g (ai c.mem)/\ii h d e f (ai c.at_)/\d<=e/\e<=b/\b<a 0/\h b=some (.rows 1 vs false)/\BufsV h a vs c.buf/\a c.buf.length<=x
theorem wH (p:Prog) (hf:aM p=true) (c:Config) (hc:IsB p c) (nx:Nat):
 ∃r h' n',DenR Γ G 202 [(.agg [.t (ints (c).mem),.t (ints (c).at_),.t (.sl ((c).buf.map (fun b=>[.sl (b.map Entry.enc)])))])] (fun _=>none) nx=some (r,h',n')/\ ∃Q P kB,r= .agg [Q,P,.ms kB 0 c.buf.length]/\V2 h' n' Q P kB c:=by
 obtain⟨⟨m1,m2,m3,m4⟩,_⟩:=cR (cS hf).1;have l1:=hc.lm;have l2:=hc.la;have l3:=hc.lb;have e3:(c.buf.length:Int)<=4294967296:=aa
 refine bO (q:=?_)
 simp -dsimp only[go_sem,seval];refine sB aa ?_;rintro Q DN KZ DC H6 ⟨AX,Dr⟩;simp -dsimp only[go_sem,seval,AX];refine sB aa ?_;rintro P D0 KY Cl Cv ⟨DT,CG⟩;unfold V.cells at Dr CG;simp -dsimp only[go_sem,seval,AX,Dr,DT,CG,e3,gz]
 generalize Rh:At (At (fun _=>none) DN) D0=H0 at *
 have n1:c.buf.length=c.buf.length:=rfl;refine aS 9007199250546864 c.buf.length (fun i f h x=>(f 22).v=vi i/\ ∃M vs,h (nx+2+9)=some (.rows 1 (vs++List.replicate (c.buf.length-i) [.t .nils]) false)/\BufsV h M vs (c.buf.take i)/\M 0=nx+2+10/\M i<=x/\(∀k,k<nx+2+9->h k=H0 k)) rfl ?_ ?_
 ·refine⟨am,fun _=>nx+2+10,[],by simp -dsimp only[go_sem,seval,eG,tf],⟨rfl,fun q w=>ax _,fun q b N=>by simp at N⟩,rfl,av,?_⟩;intro k g;have:k≠nx+2+9:=aa
  simp -dsimp only[go_sem,seval,this]
 rintro i f u Ho x bs hi ⟨D,M,vs,hB,H,Co,He,AG⟩;have hw:=ay i aa;simp -dsimp only[go_sem,seval,D];refine aO D ?_ ?_<;>intro h<;>try exact⟨⟩<;>try exact h.elim
 ·obtain⟨b,N,EW⟩:=au ‹i<c.buf.length›;obtain⟨b1,b2,_⟩:=hc.buf i b N;simp -dsimp only[go_sem,seval,D,N]
  have Ae:List.replicate (c.buf.length-i) [V.t T.nils]=[V.t T.nils]::List.replicate (c.buf.length-i-1) [V.t T.nils]:=by
   rw[<- oy];congr 1;omega
  have E6:vs.length=i:=by rw[H.len,bJ];omega
  have Do:nx+2+9<x:=by have:=H.le (q:=0) (r:=i) aa (by rw[bJ];omega);omega
  refine aS 4503599090499712 b.length (fun j f' h' d=>(f' 29).v=vi j/\ ∃v,h' (nx+2+9)=some (.rows 1 (vs++[v]::List.replicate (c.buf.length-i-1) [.t .nils]) false)/\ic h' x d v (b.take j)/\x<=d/\(∀k,k<x->k≠nx+2+9->h' k=Ho k)) rfl ?_ ?_
  ·refine⟨am,.t .nils,bh hB Ae,⟨[],.inl ⟨rfl,rfl⟩,af,af,af⟩,av,fun k _ _=>rfl⟩
  rintro j f' u' s d bs' hj ⟨Y,v,EX,X,PA,DD⟩;have Aw:=ay j aa;simp -dsimp only[go_sem,seval,Y];refine dI Y D ?_ ?_<;>intro h<;>try exact⟨⟩<;>try exact h.elim
  ·obtain⟨e,he,Cn⟩:=au ‹j<b.length›;have K:=b2 e Cn;have BL:=g6 K
   have B5:(vs++[v]::List.replicate (c.buf.length-i-1) [V.t T.nils])[i]? =some [v]:=by
    rw[eF aa,E6,dJ];rfl
   obtain⟨Bs,Fc⟩:=X.val;have C8:(i:Int)<(c.buf.length:Int):=aa
   have Dq:(0:Int)<=(i:Int):=aa
   simp -dsimp only[go_sem,seval,Y,D,he,Entry.enc,EX,B5,C8,Dq,Bs];refine sB aa ?_;rintro l I Ny NQ Kv ⟨Bu,Bi⟩;simp -dsimp only[go_sem,seval,Bu];refine sB (by have:=K.len;omega) ?_;rintro m J HQ L7 LD ⟨Di,CL⟩;unfold V.cells at Bi CL;obtain⟨rows,S,C,U,Bh⟩:=X
   have hG: ∀k,k<d->updC (At (At s I) J) (d+1+4+15) (some (O.rows 2 [[l,m]] false)) k=s k:=fun k g=>by
    rw[aq,ac aa,L7 k aa,NQ k aa]
   have I1:aw (updC (At (At s I) J) (d+1+4+15) (some (O.rows 2 [[l,m]] false))) (d+1+4+16) v 2 rows:=by
    rcases S with h | ⟨k,a,Z,B,A⟩
    ·exact .inl h
    ·exact .inr ⟨k,a,aa,by rw[hG k B];exact A⟩
   have AD:=I1.rowsS;simp -dsimp only[go_sem,seval,Bs,Bu,Bi,Di,CL,AD];have Aa:(rows.all fun r=>decide (r.length=2))=true:=ak U
   refine bY I1 (ax _) (by have:=H.len;rw[C,bJ];omega) aG rfl Aa ?_;intro v2 hp hO Bp Aq;rcases hO with⟨_,CY⟩ | ⟨t,rfl,AF,C4⟩
   ·simp at CY
   have FA:d+1+4+16<=t:=by
    rcases bv t (d+1+4+16)with a | a
    ·exact absurd rfl (Bp t a 0 _)
    ·exact a
   have AM: ∀k,(k<x\/d<=k\/ ∀rs fz,s k≠some (O.rows 2 rs fz))->aJ v k:=by
    intro k g;rcases S with⟨rfl,_⟩ | ⟨k',rfl,Z,B,A⟩
    ·intro i n z;cases z
    ·refine c7 ?_ _ _;rintro rfl;rcases g with g | g | g
     ·omega
     ·omega
     ·exact g _ _ A
   have A8: ∀k,k<d->(k<x\/ ∀rs fz,s k≠some (O.rows 2 rs fz))->At (updC (At (At s I) J) (d+1+4+15) (some (O.rows 2 [[l,m]] false))) hp k=s k:=by
    intro k g Ah;rw[Aq k aa (AM k (by rcases Ah with h | h;exact .inl h;exact .inr (.inr h))),hG k g]
   have Ij:=A8 (nx+2+9) aa (.inl aa);rw[EX]at Ij
   have E8:(vs++[v]::List.replicate (c.buf.length-i-1) [V.t T.nils]).set i [V.ms t 0 (rows++[[l,m]]).length]=vs++[V.ms t 0 (rows++[[l,m]]).length]::List.replicate (c.buf.length-i-1) [V.t T.nils]:=by
    rw[wb _ _ aa,E6,dJ];rfl
   simp -dsimp only[go_sem,seval,Y,D,Ij,B5,C8,Dq,E8];have L: ∀(o:Option O) k,k≠nx+2+9->updC (At (updC (At (At s I) J) (d+1+4+15) (some (O.rows 2 [[l,m]] false))) hp) (nx+2+9) o k=At (updC (At (At s I) J) (d+1+4+15) (some (O.rows 2 [[l,m]] false))) hp k:=fun o k g=>by rw[aq,ac g]
   have Hb: ∀(o:Option O) F,t<F->ic (updC (At (updC (At (At s I) J) (d+1+4+15) (some (O.rows 2 [[l,m]] false))) hp) (nx+2+9) o) x F (.ms t 0 (rows++[[l,m]]).length) (b.take (j+1)):=by
    intro o F IQ;refine⟨rows++[[l,m]],.inr ⟨t,rfl,aa,IQ,by rw[L _ _ aa];exact C4⟩,by rw[zM,C,bJ,bJ];simp;omega,?_,?_⟩
    ·intro r y;rcases cA.1 y with y | y
     ·exact U r y
     ·rw[bD]at y;rw[y];rfl
    ·intro q e0 w;rw[a8 he]at w;have R:(b.take j).length=j:=by rw[bJ];omega
     rcases bv q j with a | a
     ·rw[bR aa]at w;obtain⟨r,y,hE⟩:=Bh q e0 w;refine⟨r,by rw[bR (by rw[C];omega)];exact y,hE.keep (ax _) aa fun k a1 a2 a3=> ?_⟩;rw[L _ _ aa,A8 k a2 (.inr a3)]
     ·have Cc:q=j:=by
       have:=(zH.1 w).1;rw[zM,R,fR]at this;omega
      subst Cc;rw[eF aa,R,dJ]at w;simp only[ds,zA]at w;subst w;refine⟨[l,m],by rw[eF (by rw[C,R];exact ax _),C,R,dJ];rfl,?_⟩;have NZ:ai e.cells≠[]:=fun z=>K.ne (fq (by rw[<- aA,z];rfl))
      have Ak:ai e.values≠[]:=fun z=>K.ne (fq (by rw[<- K.len,<- aA,z];rfl))
      rcases Ny with⟨_,z⟩ | ⟨E,rfl,DO,J8⟩
      ·exact absurd z NZ
      rcases HQ with⟨_,z⟩ | ⟨kv,rfl,Eh,J2⟩
      ·exact absurd z Ak
      have qc:E=d+1+4+10:=by
       rcases Nat.decEq E (d+1+4+10)with a | a
       ·exact absurd rfl (Kv E a 0 _)
       ·exact a
      have qv:kv=d+1+4+13:=by
       rcases Nat.decEq kv (d+1+4+13)with a | a
       ·exact absurd rfl (LD kv a 0 _)
       ·exact a
      refine⟨E,kv,by rw[aA,aA],aa,aa,aa,aa,?_,?_⟩
      ·rw[L _ _ aa,Aq E aa (AM E (.inr (.inl aa))),aq,ac aa,L7 E aa];exact J8
      ·rw[L _ _ aa,Aq kv aa (AM kv (.inr (.inl aa))),aq,ac aa];exact J2
   refine⟨aa,al Aw,.ms t 0 (rows++[[l,m]]).length,am,?_,av,?_⟩
   ·simp -dsimp only[go_sem,seval];exact Hb _ _ aa
   intro k g Ls;simp -dsimp only[go_sem,seval,L _ k Ls];rw[A8 k aa (.inl g)];exact DD k g Ls
  ·have:j=b.length:=aa
   subst this;rw[bc]at X;have Dv:c.buf.take (i+1)=c.buf.take i++[b]:=a8 N;have W:(c.buf.take i).length=i:=by rw[bJ];omega
   have C6:=H.snoc (h':=s) (x:=d) (v:=v) (b:=b) (by rw[W];omega) (fun k k1 t=>by rw[W]at t;exact DD k aa aa) (by
    rw[W];obtain⟨rows,S,C,U,Bh⟩:=X;refine⟨rows,?_,C,U,fun q e0 w=> ?_⟩
    ·rcases S with h | ⟨k,a,Z,B,A⟩
     ·exact .inl h
     ·exact .inr ⟨k,a,aa,B,A⟩
    ·obtain⟨r,y,hE⟩:=Bh q e0 w
     exact⟨r,y,hE.keep He (ax _) fun _ _ _ _=>rfl⟩)
   rw[W,<- Dv]at C6;refine⟨aa,bh hw D,_,vs++[[v]],?_,C6,by rw[ah (pn _)];exact Co,by rw[ac aa];simp -dsimp only[go_sem,seval];omega,?_⟩
   ·simp -dsimp only[go_sem,seval,EX];rw[zQ];rfl
   ·intro k g;simp -dsimp only[go_sem,seval,DD k aa aa];exact AG k g
 ·have Cq:i=c.buf.length:=aa
  subst Cq;rw[dJ,nP,bK]at hB;rw[bc]at H
  have hM:ii Ho 0 (nx+5) Q (ai c.mem):=by
   rcases KZ with a | ⟨k,a,Z,B⟩
   ·exact .inl a
   ·exact .inr ⟨k,a,aa,aa,by rw[AG k aa,Cl k aa];exact B⟩
  have hA:ii Ho (nx+5) (nx+8) P (ai c.at_):=by
   rcases KY with a | ⟨k,a,Z,B⟩
   ·exact .inl a
   ·have g:k=nx+2+5:=by
     rcases Nat.decEq k (nx+2+5)with A | A
     ·subst a;exact absurd rfl (Cv k A 0 _)
     ·exact A
    exact .inr ⟨k,a,aa,aa,by rw[AG k aa];exact B⟩
  refine⟨Q,P,nx+2+9,rfl,nx+5,nx+8,M,vs,hM,hA,aa,aa,aa,hB,H,av⟩
theorem Yy (m:List Int) (e:Entry) (P:e.values.length=e.cells.length) (Y:e.cells.length<2^40) (M: ∀n∈e.cells,0<=n/\n.toNat<m.length) (H:ae) (nx k b kv:Nat) (N:H k=some (.rows 1 (ai m) false))
 (o:H b=some (.rows 1 (ai e.cells) false)) (E:H kv=some (.rows 1 (ai e.values) false)) (K:b≠k) (L:kv≠k):
 ∃r h' w,DenR Γ G 199 [.ms k 0 m.length,.agg [.ms b 0 e.cells.length,.ms kv 0 e.values.length]] H nx=some (r,h',w)/\(r= .tup []/\h' k=some (.rows 1 (ai (d6 m e)) false)/\(∀j,j≠k->h' j=H j)/\nx<=w):=by
 refine bO (q:=?_)
 simp -dsimp only[go_sem,seval,o];refine aS 8388144 e.cells.length (fun i f h x=>(f 9).v=vi i/\h k=some (.rows 1 (ai (d4 m e i)) false)/\(∀j,j≠k->h j=H j)/\nx<=x) rfl ⟨am,by simp -dsimp only[go_sem,seval,N,d4,fw,oU],fun j _=>rfl,av⟩ ?_;rintro i f u W x bs hi ⟨d,g,a,Z⟩;have Q:=ay i aa;have s:=a b K;have q:=a kv L;rw[o]at s;rw[E]at q;simp -dsimp only[go_sem,seval,d];refine aO d ?_ ?_<;>intro h<;>try exact⟨⟩<;>try exact h.elim
 ·obtain⟨c,p,D⟩:=au ‹i<e.cells.length›;obtain⟨v,t,_⟩:=au (show i<e.values.length from aa);obtain⟨I,X⟩:=M c D;have y:=Nd (m:=m) p t;have V:=P' m e i;have B:=gP (l:=d4 m e i) (i:=c.toNat) aa;have z:=dW (d4 m e i) c.toNat v;have J:c<(m.length:Int):=aa
  have i0:(0:Int)<=(i:Int):=aa
  have T:i<e.cells.length:=aa
  have U:i<e.values.length:=aa
  have R:(i:Int)<(e.cells.length:Int):=aa
  have S:(i:Int)<(e.values.length:Int):=aa
  have A:(ai e.cells)[i]? =some [vi c]:=by simp[ai,p]
  have C:(ai e.values)[i]? =some [vi v]:=by simp[ai,t]
  simp -dsimp only[go_sem,seval,d,s,q,i0,R,S,T,U,A,C,g,I,J,B];refine⟨aa,al Q,?_,?_,av⟩
  ·rw[y];simp -dsimp only[go_sem,seval,z]
  ·intro j F;simp -dsimp only[go_sem,seval,F,a]
 ·have:i=e.cells.length:=aa
  subst this;rw[Qe P]at g;refine⟨rfl,g,a,av⟩
theorem X0 (A:List (List V)) (J: ∀r∈A,r.length=2) (X:A.length<2^20) (i:Nat) (hi:i<A.length) (H:ae) (nx k:Nat) (a:H k=some (.rows 2 A false)) (S:k<nx):
 ∃r h' M,DenR Γ G 203 [.ms k 0 A.length,vi i,vi ((i+1:Nat):Int)] H nx=some (r,h',M)/\ ∃d,r= .ms d 0 (A.length-1)/\h' d=some (.rows 2 (A.eraseIdx i++[[.t .nils,.t .nils]]) false)/\(∀j,j<nx->j≠k->h' j=H j)/\(d=k\/nx<=d):=by
 have t:(0:Int)<=(i:Int):=aa
 have z:(i:Int)<=((i+1:Nat):Int):=aa
 have B:((i+1:Nat):Int)<=(A.length:Int):=aa
 have C:(0:Int)<=((i+1:Nat):Int):=aa
 have D:(i:Int)<=(A.length:Int):=aa
 have E: ¬(i:Int)=((i+1:Nat):Int):=aa
 have F:(A.length:Int)<=(A.length:Int):=gz _;have I: ¬((i+1:Nat):Int)=0:=aa
 have N:((i:Int)-0).toNat=i:=aa
 have P:((A.length:Int)-((i+1:Nat):Int)).toNat=A.length-(i+1):=aa
 have Q:i<=A.length:=aa
 have R:rowsS H (.ms k (i+1) (A.length-(i+1)))=some (A.drop (i+1)):=by
  simp only[rowsS,a,rd];rw[ah aa,de af]
 have x:(A.take i).length=i:=by rw[bJ];omega
 have o: ∀l:List (List V),(∀r∈l,r∈A)->(l.all fun r=>decide (r.length=2))=true:=fun l L=>zN.2 fun r b=>ak (J r (L r b))
 refine bO (q:=?_)
 simp -dsimp only[go_sem,seval,a,t,z,B,C,D,E,F,I,p9,sW,aX,N,P,Q,R];unfold aY;rw[ah ⟨⟨by rw[x,pf];omega,aG⟩,o _ fun r b=>List.mem_of_mem_drop b,o _ fun r b=>lG b⟩];have p:(A.length:Int)-1=((A.length-1:Nat):Int):=aa
 by_cases U:i+1=A.length
 ·have c:A.drop (i+1)=[]:=oH aa;rw[c];simp only[sS,aT,jE,bE];have w:((A.length:Int)-(i:Int)).toNat=1:=aa
  have f: ¬(A.length:Int)<=(i:Int):=aa
  have g:qu H 2 (i:Int) (A.length:Int) (.ms k 0 i)=some (.ms k i 1):=by
   simp only[qu,a];rw[ah ⟨trivial,aa,aa,aa⟩];simp only[k_,gO,w]
  have m:A.take i++[[V.t T.nils,V.t T.nils]]++A.drop (i+1)=A.eraseIdx i++[[.t .nils,.t .nils]]:=by
   rw[HH,c];simp
  have n:i+1<=A.length:=hi;simp -dsimp only[go_sem,seval,a,t,w,f,g,p9,sW,aX,List.replicate_one,m,n];refine⟨k,by rw[show A.length-1=i by omega];rfl,by simp[cB,bE,aq],fun j _ u=>by simp[cB,bE,aq,u],.inl rfl⟩
 ·have c:(A.drop (i+1)).isEmpty=false:=by
   cases y:A.drop (i+1)with
   | nil=>have:=bx List.length y;rw[pf]at this;simp at this;omega
   | cons _ _=>rfl
  rw[c];simp only[zG,aX,a,kx,aT,jE];have v:(A.take i).length+(A.drop (i+1)).length=A.length-1:=by rw[x,pf];omega
  have f: ¬(A.length:Int)<=((A.length-1:Nat):Int):=aa
  have K:fo (A.take i) (A.drop (i+1)) A=A.eraseIdx i++A.drop (A.length-1):=by
   unfold fo;rw[v,ac aa,HH]
  have e:(A.eraseIdx i++A.drop (A.length-1)).length=A.length:=by
   rw[zM,px hi,pf];omega
  rw[v,K]
  have g: ∀(h:ae) q,qu (updC h q (some (O.rows 2 (A.eraseIdx i++A.drop (A.length-1)) false))) 2 ((A.length-1:Nat):Int) (A.length:Int) (.ms q 0 (A.length-1))=some (.ms q (A.length-1) 1):=by
   intro h q;simp only[qu,aq,aT];rw[ah ⟨trivial,aa,aa,by rw[e];omega⟩];simp only[k_,gO]
   congr 1;congr 1;omega
  have W:(A.eraseIdx i).length=A.length-1:=px hi
  have m:(A.eraseIdx i++A.drop (A.length-1)).take (A.length-1)++[[V.t T.nils,V.t T.nils]]++(A.eraseIdx i++A.drop (A.length-1)).drop (A.length-1+1)=A.eraseIdx i++[[.t .nils,.t .nils]]:=by
   rw[ta aa,de aa,oH (by rw[e];omega),bK]
  have n:A.length-1+1<=(A.eraseIdx i++A.drop (A.length-1)).length:=by rw[e];omega
  simp -dsimp only[go_sem,seval,f,g,p9,sW,aX,List.replicate_one,m,n];refine⟨_,rfl,by simp[cB,bE,aq],fun j u p=> ?_,.inr aa⟩;have s:j≠nx+1+6+3+3+6:=aa
  rw[cB,bE,cB,cB,bE,aq,ac s,aq,ac s,aq,ac p]
theorem nU {h:ae} {d:Nat}: ∀(vs:List (List V)) (bs:List (List Entry)),vs.length=bs.length->(∀(j:Nat) (b:List Entry),bs[j]? =some b-> ∃v,vs[j]? =some [v]/\toT h d v=some (.sl (b.map Entry.enc)))->
 vs.mapM (fun row=>row.mapM (toT h d))=some (bs.map fun b=>[.sl (b.map Entry.enc)])
 | [],[],_,_=>rfl
 | [],_::_,hl,_=>by simp at hl
 | _::_,[],hl,_=>by simp at hl
 | r::vs,b::bs,hl,hj=>by
   have g:=nU vs bs (ak hl) fun j e c=>hj (j+1) e c
   obtain⟨v,a,f⟩:=hj 0 b rfl;simp only[ds,zA]at a;subst a;rw[cP,cP,f,td,g];rfl
theorem X4 (p:Prog) (hf:aM p=true) (k:Int) (c:Config) (x:IsB p c) (t:Nat) (ht:t<p.threads.length) (i:Nat) (e:Entry) (C:(aF c t)[i]? =some e):
 Den Γ G 191 [stV p k c,vi t,vi i]=some (.agg [.t (ints (c6 c t i).mem),.t (ints (c6 c t i).at_),.t (.sl ((c6 c t i).buf.map (fun b=>[.sl (b.map Entry.enc)])))]):=by
 obtain⟨⟨m1,m2,m3,m4⟩,_⟩:=cR (cS hf).1;have l1:=x.lm;have l2:=x.la;have l3:=x.lb;have Ag:=fA (c:=c) (t:=t) aa;obtain⟨b1,b2,_⟩:=x.buf t _ Ag;have AV:=(zH.1 C).1;have w:=b2 e (zL C);have BL:=g6 w;unfold stV
 refine aB (q:=?_)
 simp -dsimp only[go_sem,seval];refine be (wH p hf c x _) ?_;rintro r h' n' ⟨vM,vA,a,rfl,x1,x2,bd,vs,hM,S,CK,AT,AF,hB,f,H8⟩;obtain⟨J,B⟩:=S.val;have RQ:=S;obtain⟨v,E,rows,B1,Bb,BC,Bh⟩:=f.at_ t _ Ag;have OM:=f.le (q:=0) (r:=t) aa aa;have OL:=f.le (q:=t+1) (r:=c.buf.length) aa (ax _);obtain⟨r,y,kc,kv,rfl,a1,a2,a3,a4,a5,a6⟩:=Bh i e C;rcases B1 with⟨_,R⟩ | ⟨F,rfl,b3,b4,L⟩
 ·exfalso;rw[R]at y;simp at y
 rcases hM with⟨_,R⟩ | ⟨kM,rfl,m5,m6,m7⟩
 ·exfalso;have g:=bx List.length R;rw[aA]at g;have:=lK w (tP w);simp at g;rw[g]at l1;simp at l1;omega
 unfold V.cells at B;have i0:(0:Int)<=(i:Int):=aa
 have i1:(i:Int)<(rows.length:Int):=aa
 have Y:(0:Int)<=(t:Int):=aa
 have Z:(t:Int)<(c.buf.length:Int):=aa
 have hw:=ay i aa;simp -dsimp only[go_sem,seval,J,B,hB,E,Y,Z,i0,i1,L,y];rw[aA];refine be (Yy c.mem e w.len aa (fun n hn=>by have:=lK w hn;omega) _ _ kM kc kv (al m7) (al a5) (al a6) aa aa) ?_;rintro r2 h2 n2 ⟨rfl,g1,Q,g3⟩;have K:=Q a aa;rw[hB]at K;have l:=Q F aa;rw[L]at l;simp -dsimp only[go_sem,seval,J,B,K,E,Y,Z,i0,i1,l,hw];refine be (X0 rows BC aa i aa h2 _ F l aa) ?_;rintro r3 m n3 ⟨W,rfl,d1,M,d3⟩;have Mb:=M a aa aa;rw[K]at Mb;have EL:W≠a:=aa
 have Ke:vs[t]? =some [.ms F 0 rows.length]:=E;simp -dsimp only[go_sem,seval,J,B,Mb,E,Y,Z];have hC:c6 c t i=⟨d6 c.mem e,c.at_,c.buf.set t ((aF c t).eraseIdx i)⟩:=by simp only[c6,C]
 have I: ∀(o:Option O) q,q<n'->q≠a->q≠kM->q≠F->updC m a o q=h' q:=fun o q q1 X q3 q4=>by
  rw[aq,ac X,M q aa q4,Q q q3]
 have f0: ¬kM=a:=aa
 have f1:m kM=some (.rows 1 (ai (d6 c.mem e)) false):=by rw[M kM aa aa];exact g1
 have f2:(ai (d6 c.mem e)).length=c.mem.length:=by rw[aA,xN]
 have f3:List.take c.mem.length (ai (d6 c.mem e))=ai (d6 c.mem e):=ec f2.symm
 have f4: ∀o:Option O,toT (updC m a o) 1000 vA=some (ints c.at_):=fun o=>
  (S.keep fun q q1 X=>I o q aa aa aa aa).tree 999
 have P: ∀v,(vs.set t [v]).length=c.buf.length:=fun v=>by rw[cJ];exact f.len
 have f6: ∀v,List.take c.buf.length (vs.set t [v])=vs.set t [v]:=fun v=>ec (P v).symm
 have f7: ∀o:Option O,(vs.set t [V.ms W 0 (rows.length-1)]).mapM (fun row=>row.mapM (toT (updC m a o) 999))=some ((c.buf.set t ((aF c t).eraseIdx i)).map fun b=>[.sl (b.map Entry.enc)]):=by
  intro o;refine nU _ _ (by rw[P,cJ]) fun j b s=> ?_
  rw[cu]at s
  by_cases U:t=j
  ·subst U;rw[ah rfl,ah aa]at s;simp only[zA]at s;subst s;refine⟨_,by rw[cu,ah rfl,ah (by have:=f.len;omega)],?_⟩;have hd:updC m a o W=some (.rows 2 (rows.eraseIdx i++[[.t .nils,.t .nils]]) false):=by rw[aq,ac EL];exact d1
   have e1:(rows.eraseIdx i).length=rows.length-1:=px aa;have e2:rows.length-1<=(rows.eraseIdx i++[[V.t T.nils,V.t T.nils]]).length:=by rw[zM,e1];omega
   have e3:List.take (rows.length-1) (rows.eraseIdx i++[[V.t T.nils,V.t T.nils]])=rows.eraseIdx i:=by
    rw[ta aa,de aa]
   have e4:=yq (h:=updC m a o) (d:=998) (rows.eraseIdx i) ((aF c t).eraseIdx i) (by rw[e1,px AV,Bb]) fun q N D=>by
    rw[H7]at D⊢
    have A: ∀H,(aF c t)[H]? =some N-> ∃r:List V,rows[H]? =some r/\r.mapM (toT (updC m a o) 998)=some (Entry.enc N):=fun H Eu=>by
     obtain⟨r,y,hE⟩:=Bh H N Eu;exact⟨r,y,(hE.keep (ax _) (ax _) fun z z1 z2 z3=>I o z aa aa aa (by rintro rfl;exact z3 _ _ L)).tree 997⟩
    split at D
    ·rename_i g;rw[ah g];exact A _ D
    ·rename_i g;rw[ac g];exact A _ D
   simp only[toT,hd,rd,gO,e2,aT,il,e3,zC,zD,e4]
  ·rw[ac U]at s;obtain⟨u,hu,Hn⟩:=f.at_ j b s;have AN:=(zH.1 s).1;refine⟨u,by rw[cu,ac U];exact hu,?_⟩;refine(Hn.keep (ax _) fun q q1 X=> ?_).tree 997;have u1:=f.le (q:=0) (r:=j) aa aa;have u2:=f.le (q:=j+1) (r:=c.buf.length) aa (ax _);refine I o q aa aa aa ?_;rintro rfl;rcases bv j t with g | g
   ·have:=f.le (q:=j+1) (r:=t) aa aa;omega
   ·have:=f.le (q:=t+1) (r:=j) aa aa;omega
 rw[hC];simp -dsimp only[go_sem,seval,f0,f1,f2,f3,f4,P,f6,f7,g7,ax]
theorem xX {p:Prog} {set:List Assign} (h:SetOk p set):set.length<=p.cells.length:=by
 have d:=up p.cells.length (set.map Assign.cell) (by
  rw[s6,qr];intro i j hi c g b;simp only[cO]at hi c;simp only[vR]at b;have:=h.dif i j _ _ (zI hi) (zI c) b
  omega) (fun x f=>by
  obtain⟨a,e,rfl⟩:=cv.1 f;have:=(h.rng a e).1;simp only[inR,aQ]at this
  exact this)
 simpa using d
theorem kaw (p:Prog) (T:aM p=true) (k:Int) (c:Config) (D:IsB p c) (t:Nat) (x:Thread) (U:p.threads[t]? =some x) (i:Nat) (s:Step) (hs:x.steps[i]? =some s) (y:Choice) (hy:y=⟨t,i,0⟩) (w:s.kind≠3):
 Den Γ G 192 [stV p k c,(.agg [.t (ti (y).thread),.t (ti (y).step),.t (ti (y).cell)]),.t (ints (aK c t))]=some (.agg [.t (ints (eg p c t s).mem),.t (ints (eg p c t s).at_),.t (.sl ((eg p c t s).buf.map (fun b=>[.sl (b.map Entry.enc)])))]):=by
 subst hy;obtain⟨⟨m1,m2,m3,m4⟩,_⟩:=cR (cS T).1;have l1:=D.lm;have l2:=D.la;have l3:=D.lb;have K:=lf T U hs;have ht:t<p.threads.length:=(zH.1 U).1;have E8:=xX K.set
 have BI: ∀a∈s.set,0<=a.cell/\a.cell<c.mem.length:=fun a C=>by
  have:=(K.rng.2 a C).1;simp only[inR,aQ]at this;omega
 unfold stV
 refine aB (q:=?_)
 simp -dsimp only[go_sem,seval];refine be (wH p T c D _) ?_;rintro r h' n' ⟨vM,vA,F,rfl,x1,x2,bd,vs,hM,hA,CK,AT,AF,hB,I,H8⟩;obtain⟨A,g⟩:=hM.val;rcases hA with⟨_,R⟩ | ⟨e,rfl,a1,a2,a3⟩
 ·exfalso;have d:=bx List.length R;rw[aA]at d;simp at d;rw[d]at l2;simp at l2;omega
 unfold V.cells at g;simp -dsimp only[go_sem,seval,A,g,U,hs]
 refine aS 18889465931476433377792 s.set.length (fun j f h z=>(f 31).v=vi j/\ii h 0 x1 vM (ai (bm c.mem (aK c t) (s.set.take j)))/\(∀q,x1<=q->h q=h' q)/\n'<=z) rfl
  ⟨am,hM,fun _ _=>rfl,av⟩ ?_
 rintro j f u H z bs hj ⟨L,M,v,hz⟩;have hw:=ay j aa;simp -dsimp only[go_sem,seval,L];refine aO L ?_ ?_<;>intro h<;>try exact⟨⟩<;>try exact h.elim
 ·obtain⟨a,C,Cp⟩:=au ‹j<s.set.length›;obtain⟨c0,N⟩:=BI a Cp;have Ak:=pb a.to (aK c t) (aK c t);have W:(bm c.mem (aK c t) (s.set.take j)).length=c.mem.length:=iG (aK c t) _ c.mem;rcases M with⟨_,R⟩ | ⟨kM,rfl,m5,m6,m7⟩
  ·exfalso;have d:=bx List.length R;rw[aA,W]at d;simp at d;rw[d]at N;simp at N;omega
  have J:=gP (l:=bm c.mem (aK c t) (s.set.take j)) (i:=a.cell.toNat) aa;have n:=dW (bm c.mem (aK c t) (s.set.take j)) a.cell.toNat (a.to.eval (aK c t) (aK c t));rw[<- wK C]at n;have X:(ai (bm c.mem (aK c t) (s.set.take j))).length=c.mem.length:=by rw[aA,W]
  have D9:(ai (bm c.mem (aK c t) (s.set.take (j+1)))).length=c.mem.length:=by rw[aA,iG]
  simp -dsimp only[go_sem,seval,L,C,Ak,w,X,c0,N,m7,J,n];refine⟨aa,al hw,.inr ⟨kM,by rw[D9,X],m5,m6,am⟩,?_,av⟩;intro q E;have PZ:q≠kM:=aa
  simp -dsimp only[go_sem,seval,PZ];exact v q E
 ·have:j=s.set.length:=aa
  subst this;rw[bc]at M;have g1:H e=some (.rows 1 (ai c.at_) false):=by rw[v e a1];exact a3
  have g2:H F=some (.rows 1 vs false):=by rw[v F aa];exact hB
  have J:=gP (l:=c.at_) (i:=t) aa;have n:=dW c.at_ t s.to;have Ad:(t:Int)<(c.at_.length:Int):=aa
  have t0:(0:Int)<=(t:Int):=aa
  have M9:e≠F:=aa
  have Y:F≠e:=aa
  have fM: ∀o,toT (updC H e o) 1000 vM=some (ints (bm c.mem (aK c t) s.set)):=fun o=>
   (M.keep fun q q1 q2=>by rw[aq,ac aa]).tree 999
  have B:vs.length=c.buf.length:=I.len;have Z:List.take c.buf.length vs=vs:=ec B.symm
  have f7: ∀o:Option O,vs.mapM (fun row=>row.mapM (toT (updC H e o) 999))=some (c.buf.map fun b=>[.sl (b.map Entry.enc)]):=fun o=>
   nU _ _ B fun q b E=>by
    obtain⟨u,hu,OD⟩:=I.at_ q b E;have Ed:=(zH.1 E).1;have u1:=I.le (q:=0) (r:=q) aa aa;exact⟨u,hu,(OD.keep (ax _) fun z z1 z2=>by rw[aq,ac aa,v z aa]).tree 997⟩
  simp -dsimp only[go_sem,seval,w,A,g,g1,J,Ad,t0,n,aA]
  by_cases m:s.kind=6
  ·obtain⟨hr,_⟩:=K.tgt (.inl m);simp only[inR,aQ]at hr;have q1:s.target<(c.at_.length:Int):=aa
   have q2:=hr.1;have GQ:=gP (l:=c.at_.set t s.to) (i:=s.target.toNat) (by simp;omega);have Gs:=dW (c.at_.set t s.to) s.target.toNat 0;have P:(ai ((c.at_.set t s.to).set s.target.toNat 0)).length=c.at_.length:=by rw[aA];simp
   have Q:List.take c.at_.length (ai ((c.at_.set t s.to).set s.target.toNat 0))=ai ((c.at_.set t s.to).set s.target.toNat 0):=ec P.symm;have S:eg p c t s=⟨bm c.mem (aK c t) s.set,(c.at_.set t s.to).set s.target.toNat 0,c.buf⟩:=by simp only[eg,ac w,ah m]
   rw[S];simp -dsimp only[go_sem,seval,m,A,g,q1,q2,GQ,Gs,aA,cJ,Y,g2,uk,fM,Q,B,Z,f7,g7,ax]
  ·have P:(ai (c.at_.set t s.to)).length=c.at_.length:=by rw[aA];simp
   have Q:List.take c.at_.length (ai (c.at_.set t s.to))=ai (c.at_.set t s.to):=ec P.symm;have S:eg p c t s=⟨bm c.mem (aK c t) s.set,c.at_.set t s.to,c.buf⟩:=by simp only[eg,ac w,ac m]
   rw[S];simp -dsimp only[go_sem,seval,m,A,g,aA,cJ,Y,g2,fM,Q,B,Z,f7,g7,ax]
def IH (h:ae) (lo z:Nat) (b c:V) (cs ws:List Int):Prop:=
 (b= .t .nils/\c= .t .nils/\cs=[]/\ws=[])\/ ∃a kv,b= .ms a 0 (ai cs).length/\c= .ms kv 0 (ai ws).length/\lo<=a/\a<z/\lo<=kv/\kv<z/\a≠kv/\h a=some (.rows 1 (ai cs) false)/\h kv=some (.rows 1 (ai ws) false)
theorem kav (p:Prog) (hf:aM p=true) (k:Int) (c:Config) (hc:IsB p c) (t:Nat) (x:Thread) (hx:p.threads[t]? =some x) (i:Nat) (s:Step) (hs:x.steps[i]? =some s) (y:Choice) (hy:y=⟨t,i,0⟩) (Z:s.kind=3):
 Den Γ G 192 [stV p k c,(.agg [.t (ti (y).thread),.t (ti (y).step),.t (ti (y).cell)]),.t (ints (aK c t))]=some (.agg [.t (ints (eg p c t s).mem),.t (ints (eg p c t s).at_),.t (.sl ((eg p c t s).buf.map (fun b=>[.sl (b.map Entry.enc)])))]):=by
 subst hy;obtain⟨⟨m1,m2,m3,m4⟩,_⟩:=cR (cS hf).1;have l1:=hc.lm;have l2:=hc.la;have l3:=hc.lb;have Bm:=lf hf hx hs;have ht:t<p.threads.length:=(zH.1 hx).1;have E8:=xX Bm.set
 have BI: ∀a∈s.set,0<=a.cell/\a.cell<c.mem.length:=fun a N=>by
  have:=(Bm.rng.2 a N).1;simp only[inR,aQ]at this;omega
 unfold stV
 refine aB (q:=?_)
 simp -dsimp only[go_sem,seval];refine be (wH p hf c hc _) ?_;rintro r h' R ⟨vM,vA,C,rfl,x1,x2,bd,vs,hM,hA,CK,AT,AF,hB,E,H8⟩;obtain⟨Bu,Bi⟩:=hM.val;rcases hA with⟨_,K⟩ | ⟨B,rfl,a1,a2,a3⟩
 ·exfalso;have d:=bx List.length K;rw[aA]at d;simp at d;rw[d]at l2;simp at l2;omega
 unfold V.cells at Bi;have Om:=E.le (q:=0) (r:=c.buf.length) aa (ax _);simp -dsimp only[go_sem,seval,Bu,Bi,hx,hs]
 refine aS 18889465931476433377792 s.set.length (fun j f h z=>(f 31).v=vi j/\(f 9).v= .lb/\ ∃L S,(f 9).box=some [L,S]/\IH h R z L S (((s.set.take j).filter (a_ p)).map Assign.cell) (((s.set.take j).filter (a_ p)).map fun a=>a.to.eval (aK c t) (aK c t))/\
  ii h 0 x1 vM (ai (bm c.mem (aK c t) ((s.set.take j).filter fun a=> !a_ p a)))/\(∀q,x1<=q->q<R->h q=h' q)/\R<=z) rfl
  ⟨am,am,.t .nils,.t .nils,am,.inl ⟨rfl,rfl,rfl,rfl⟩,hM,fun _ _ _=>rfl,av⟩ ?_
 rintro j f u H z bs hj ⟨E2,M,L,S,FK,J,F7,Y,hz⟩;have hw:=ay j aa;simp -dsimp only[go_sem,seval,E2];refine aO E2 ?_ ?_<;>intro h<;>try exact⟨⟩<;>try exact h.elim
 ·obtain⟨a,N,Cp⟩:=au ‹j<s.set.length›;obtain⟨c0,c1⟩:=BI a Cp;obtain⟨y,hy,_⟩:=Bm.wid a Cp;have Ak:=pb a.to (aK c t) (aK c t);have Bo:a_ p a=decide (y.thread= -1):=by rw[a_,fh hy]
  by_cases Gj:y.thread= -1
  ·have Ff:a_ p a=true:=by rw[Bo];simpa using Gj
   have Fc:Rg.valOf L=some L:=by rcases J with⟨rfl,_⟩ | ⟨_,_,rfl,_⟩<;>rfl
   have Bs:Rg.valOf S=some S:=by rcases J with⟨_,rfl,_⟩ | ⟨_,_,_,rfl,_⟩<;>rfl
   generalize AL:((s.set.take j).filter (a_ p)).map Assign.cell=cs at *
   generalize Fy:(((s.set.take j).filter (a_ p)).map fun a=>a.to.eval (aK c t) (aK c t))=ws at *
   have By:cs.length<=32:=by
    rw[<- AL,cO];have:=ku (a_ p) (s.set.take j);rw[bJ]at this;omega
   have Er:ws.length<=32:=by
    rw[<- Fy,cO];have:=ku (a_ p) (s.set.take j);rw[bJ]at this;omega
   have G9: ∀q,(q<R\/z<=q)->aJ L q:=fun q m=>by
    rcases J with⟨rfl,_⟩ | ⟨e,kv,rfl,_,U,e2,_⟩
    ·intro i n K;cases K
    ·exact c7 aa _ _
   have AM: ∀q,(q<R\/z<=q)->aJ S q:=fun q m=>by
    rcases J with⟨_,rfl,_⟩ | ⟨e,kv,_,rfl,_,_,U,e2,_⟩
    ·intro i n K;cases K
    ·exact c7 aa _ _
   have KX:aw (updC H (z+1+4+6+14+4) (some (O.rows 1 [[V.t (ti a.cell)]] false))) (z+1+4+6+14+5) L 1 (ai cs):=by
    rcases J with⟨rfl,_,rfl,_⟩ | ⟨e,kv,rfl,_,U,e2,e3,e4,e5,e6,e7⟩
    ·exact .inl ⟨rfl,rfl⟩
    ·exact .inr ⟨e,rfl,aa,by rw[aq,ac aa];exact e6⟩
   have Iy:=KX.rowsS;simp -dsimp only[go_sem,seval,E2,M,FK,N,Ak,Z,c0,hy,Gj,Fc,Iy];refine bY KX (ax _) (by rw[aA];omega) aG rfl (ey _) ?_;intro v1 DN O0 Jq J3;rcases O0 with⟨_,CY⟩ | ⟨Q,rfl,NK,J9⟩
   ·simp at CY
   have NJ:z+1+4+6+14+5<=Q:=by
    rcases bv Q (z+1+4+6+14+5)with d | d
    ·exact absurd rfl (Jq Q d 0 _)
    ·exact d
   have G5: ∀q,q<z->aJ L q->At (updC H (z+1+4+6+14+4) (some (O.rows 1 [[V.t (ti a.cell)]] false))) DN q=H q:=fun q D g=>by
    rw[J3 q aa g,aq,ac aa]
   have GB:aw (updC (At (updC H (z+1+4+6+14+4) (some (O.rows 1 [[V.t (ti a.cell)]] false))) DN) (z+1+4+6+14+8+3) (some (O.rows 1 [[V.t (T.int IntKind.i64 (a.to.eval (aK c t) (aK c t)))]] false))) (z+1+4+6+14+8+4) S 1 (ai ws):=by
    rcases J with⟨_,rfl,_,rfl⟩ | ⟨e,kv,rfl,rfl,U,e2,e3,e4,e5,e6,e7⟩
    ·exact .inl ⟨rfl,rfl⟩
    ·exact .inr ⟨kv,rfl,aa,by rw[aq,ac aa,G5 kv e4 (c7 aa _ _)];exact e7⟩
   have DY:=GB.rowsS;simp -dsimp only[go_sem,seval,E2,M,FK,Bs,DY];refine bY GB (ax _) (by rw[aA];omega) aG rfl (ey _) ?_;intro v2 D0 Cz Jp GK;rcases Cz with⟨_,CY⟩ | ⟨A,rfl,HW,C4⟩
   ·simp at CY
   have FA:z+1+4+6+14+8+4<=A:=by
    rcases bv A (z+1+4+6+14+8+4)with d | d
    ·exact absurd rfl (Jp A d 0 _)
    ·exact d
   have G4: ∀q,q<R->At (updC (At (updC H (z+1+4+6+14+4) (some (O.rows 1 [[V.t (ti a.cell)]] false))) DN) (z+1+4+6+14+8+3) (some (O.rows 1 [[V.t (T.int IntKind.i64 (a.to.eval (aK c t) (aK c t)))]] false))) D0 q=H q:=fun q m=>by
    rw[GK q aa (AM q (.inl m)),aq,ac aa,G5 q aa (G9 q (.inl m))]
   have JA:At (updC (At (updC H (z+1+4+6+14+4) (some (O.rows 1 [[V.t (ti a.cell)]] false))) DN) (z+1+4+6+14+8+3) (some (O.rows 1 [[V.t (T.int IntKind.i64 (a.to.eval (aK c t) (aK c t)))]] false))) D0 Q=some (.rows 1 (ai cs++[[V.t (ti a.cell)]]) false):=by
    rw[GK Q aa (AM Q (.inr aa)),aq,ac aa];exact J9
   have CW:(s.set.take (j+1)).filter (a_ p)=(s.set.take j).filter (a_ p)++[a]:=by
    rw[a8 N,iF];simp[Ff]
   have Ax:((s.set.take (j+1)).filter fun a=> !a_ p a)=(s.set.take j).filter fun a=> !a_ p a:=by
    rw[a8 N,iF];simp[Ff]
   simp -dsimp only[go_sem,seval,E2,M];refine⟨aa,al hw,al M,.ms Q 0 (ai cs++[[V.t (ti a.cell)]]).length,.ms A 0 (ai ws++[[V.t (T.int IntKind.i64 (a.to.eval (aK c t) (aK c t)))]]).length,al FK,?_,?_,?_,av⟩
   ·rw[CW,d7,d7,AL,Fy];refine .inr ⟨Q,A,by rw[<- fy];rfl,by rw[<- fy];rfl,aa,av,aa,av,aa,?_,?_⟩
    ·simp -dsimp only[go_sem,seval];rw[JA,<- fy]
    ·simp -dsimp only[go_sem,seval];rw[C4,<- fy]
   ·rw[Ax];exact F7.keep fun q D g=>by simp -dsimp only[go_sem,seval];exact G4 q aa
   ·intro q D g;simp -dsimp only[go_sem,seval];rw[G4 q g];exact Y q D g
  ·have Ff:a_ p a=false:=by rw[Bo];simpa using Gj
   have Ac:(bm c.mem (aK c t) ((s.set.take j).filter fun a=> !a_ p a)).length=c.mem.length:=iG (aK c t) _ c.mem
   have CW:(s.set.take (j+1)).filter (a_ p)=(s.set.take j).filter (a_ p):=by
    rw[a8 N,iF];simp[Ff]
   have Ax:((s.set.take (j+1)).filter fun a=> !a_ p a)=((s.set.take j).filter fun a=> !a_ p a)++[a]:=by
    rw[a8 N,iF];simp[Ff]
   rcases F7 with⟨_,K⟩ | ⟨kM,rfl,m5,m6,m7⟩
   ·exfalso;have d:=bx List.length K;rw[aA,Ac]at d;simp at d;rw[d]at c1;simp at c1;omega
   have B5:=gP (l:=bm c.mem (aK c t) ((s.set.take j).filter fun a=> !a_ p a)) (i:=a.cell.toNat) aa;have AE:=dW (bm c.mem (aK c t) ((s.set.take j).filter fun a=> !a_ p a)) a.cell.toNat (a.to.eval (aK c t) (aK c t))
   have Fy:bm c.mem (aK c t) (((s.set.take j).filter fun a=> !a_ p a)++[a])=(bm c.mem (aK c t) ((s.set.take j).filter fun a=> !a_ p a)).set a.cell.toNat (a.to.eval (aK c t) (aK c t)):=by
    unfold bm;rw[f8];rfl
   rw[<- Fy]at AE;have C7:(ai (bm c.mem (aK c t) ((s.set.take j).filter fun a=> !a_ p a))).length=c.mem.length:=by rw[aA,Ac]
   have D9:(ai (bm c.mem (aK c t) (((s.set.take j).filter fun a=> !a_ p a)++[a]))).length=c.mem.length:=by rw[aA,iG]
   simp -dsimp only[go_sem,seval,E2,M,N,Ak,Z,hy,Gj,C7,c0,c1,m7,B5,AE];refine⟨aa,al hw,al M,L,S,al FK,?_,?_,?_,av⟩
   ·rw[CW];rcases J with d | ⟨e,kv,e0,e0',U,e2,e3,e4,e5,e6,e7⟩
    ·exact .inl d
    ·have X:e≠kM:=aa
     have u2:kv≠kM:=aa
     exact .inr ⟨e,kv,e0,e0',U,av,e3,av,e5,bh X e6,bh u2 e7⟩
   ·rw[Ax];exact .inr ⟨kM,by rw[D9,C7],m5,m6,am⟩
   ·intro q D g;have X:q≠kM:=aa
    simp -dsimp only[go_sem,seval,X];exact Y q D g
 ·have Lu:j=s.set.length:=aa
  subst Lu;rw[bc]at F7 J;have Gz:=xd Bm Z (aK c t);rcases J with⟨_,_,d,_⟩ | ⟨e,kv,rfl,rfl,U,e2,e3,e4,e5,e6,e7⟩
  ·exact absurd d Gz.ne
  have g1:H B=some (.rows 1 (ai c.at_) false):=by rw[Y B a1 aa];exact a3
  have g2:H C=some (.rows 1 vs false):=by rw[Y C aa aa];exact hB
  have Ag:=fA (c:=c) (t:=t) aa;obtain⟨v,hv,EU⟩:=E.at_ t _ Ag;have OM:=E.le (q:=0) (r:=t) aa aa;have OL:=E.le (q:=t+1) (r:=c.buf.length) aa (ax _);have Rt:=E.mono t aa;obtain⟨Bs,_⟩:=EU.val;obtain⟨rows,B1,Bb,BC,Bh⟩:=EU;have t0:(0:Int)<=(t:Int):=aa
  have t1:(t:Int)<(c.buf.length:Int):=aa
  generalize Dm:(ai (List.map Assign.cell (List.filter (a_ p) s.set))).length=F at *
  generalize La:(ai (List.map (fun a=>a.to.eval (aK c t) (aK c t)) (List.filter (a_ p) s.set))).length=I at *
  have B7: ∀q,(q<bd t\/bd (t+1)<=q\/ ∀rs fz,h' q≠some (O.rows 2 rs fz))->aJ v q:=fun q m=>by
   rcases B1 with⟨rfl,_⟩ | ⟨kb,rfl,d1,d2,d3⟩
   ·intro i n K;cases K
   ·refine c7 ?_ _ _;rintro rfl;rcases m with h | h | h
    ·omega
    ·omega
    ·exact h _ _ d3
  have GB:aw (updC H (z+1+3+11) (some (O.rows 2 [[V.ms e 0 F,V.ms kv 0 I]] false))) (z+1+3+12) v 2 rows:=by
   rcases B1 with⟨rfl,d⟩ | ⟨kb,rfl,d1,d2,d3⟩
   ·exact .inl ⟨rfl,d⟩
   ·exact .inr ⟨kb,rfl,aa,by rw[aq,ac aa,Y kb aa aa];exact d3⟩
  have DY:=GB.rowsS;simp -dsimp only[go_sem,seval,Z,M,FK,g2,hv,Bs,t0,t1,DY];have Aa:(rows.all fun r=>decide (r.length=2))=true:=ak BC
  obtain⟨b1,b2,_⟩:=hc.buf t _ Ag;refine bY GB (ax _) (by rw[Bb];omega) aG rfl Aa ?_;intro v2 hp hO Bn A8;rcases hO with⟨_,CY⟩ | ⟨A,rfl,HW,C4⟩
  ·simp at CY
  have FA:z+1+3+12<=A:=by
   rcases bv A (z+1+3+12)with d | d
   ·exact absurd rfl (Bn A d 0 _)
   ·exact d
  have Ev: ∀q,q<z->aJ v q->At (updC H (z+1+3+11) (some (O.rows 2 [[V.ms e 0 F,V.ms kv 0 I]] false))) hp q=H q:=fun q D g=>by
   rw[A8 q aa g,aq,ac aa]
  have gB:=Ev C aa (B7 C (.inl aa));rw[g2]at gB;have gA:=Ev B aa (B7 B (.inl aa));rw[g1]at gA;have M9:B≠C:=aa
  have Hm:C≠B:=aa
  have B5:=gP (l:=c.at_) (i:=t) aa;have AE:=dW c.at_ t s.to;have Ad:(t:Int)<(c.at_.length:Int):=aa
  have k6: ¬s.kind=6:=aa
  simp -dsimp only[go_sem,seval,Z,M,FK,gB,hv,t0,t1,M9,gA,B5,Ad,AE,aA];have hC:eg p c t s=⟨bm c.mem (aK c t) (s.set.filter fun a=> !a_ p a),c.at_.set t s.to,c.buf.set t (aF c t++[mH p (aK c t) s.set])⟩:=by simp only[eg,ah Z,ac k6]
  have CJ: ∀(o o':Option O) q,q≠B->q≠C->updC (updC (At (updC H (z+1+3+11) (some (O.rows 2 [[V.ms e 0 F,V.ms kv 0 I]] false))) hp) C o) B o' q=At (updC H (z+1+3+11) (some (O.rows 2 [[V.ms e 0 F,V.ms kv 0 I]] false))) hp q:=fun o o' q D g=>by
   rw[aq,ac D,aq,ac g]
  have AQ: ∀(o o':Option O) q,x1<=q->q<R->q≠B->q≠C->aJ v q->updC (updC (At (updC H (z+1+3+11) (some (O.rows 2 [[V.ms e 0 F,V.ms kv 0 I]] false))) hp) C o) B o' q=h' q:=fun o o' q q0 D g q3 q4=>by
   rw[CJ o o' q g q3,Ev q aa q4,Y q q0 D]
  have fM: ∀o o',toT (updC (updC (At (updC H (z+1+3+11) (some (O.rows 2 [[V.ms e 0 F,V.ms kv 0 I]] false))) hp) C o) B o') 1000 vM=some (ints (bm c.mem (aK c t) (s.set.filter fun a=> !a_ p a))):=fun o o'=>
   (F7.keep fun q D g=>by rw[CJ o o' q aa aa,Ev q aa (B7 q (.inl aa))]).tree 999
  have f3:List.take c.at_.length (ai (c.at_.set t s.to))=ai (c.at_.set t s.to):=ec (by rw[aA,cJ]);have f5: ∀v,(vs.set t [v]).length=c.buf.length:=fun v=>by rw[cJ];exact E.len
  have f6: ∀v,List.take c.buf.length (vs.set t [v])=vs.set t [v]:=fun v=>ec (f5 v).symm
  have f7: ∀o o':Option O,(vs.set t [V.ms A 0 (rows++[[V.ms e 0 F,V.ms kv 0 I]]).length]).mapM (fun row=>row.mapM (toT (updC (updC (At (updC H (z+1+3+11) (some (O.rows 2 [[V.ms e 0 F,V.ms kv 0 I]] false))) hp) C o) B o') 999))=some ((c.buf.set t (aF c t++[mH p (aK c t) s.set])).map fun b=>[.sl (b.map Entry.enc)]):=by
   intro o o';refine nU _ _ (by rw[f5,cJ]) fun j b W=> ?_
   rw[cu]at W
   by_cases hj:t=j
   ·subst hj;rw[ah rfl,ah aa]at W;simp only[zA]at W;subst W;refine⟨_,by rw[cu,ah rfl,ah (by have:=E.len;omega)],?_⟩;refine ic.tree (lo:=bd t) (hi:=A+1) ⟨rows++[[V.ms e 0 F,V.ms kv 0 I]],.inr ⟨A,rfl,aa,aa,by rw[CJ o o' A aa aa];exact C4⟩,by rw[zM,zM,Bb];rfl,?_,fun q e0 m=> ?_⟩ 997
    ·intro r P;rcases cA.1 P with P | P
     ·exact BC r P
     ·rw[bD]at P;rw[P];rfl
    ·rcases bv q (aF c t).length with d | d
     ·rw[bR d]at m;obtain⟨r,P,hE⟩:=Bh q e0 m;refine⟨r,by rw[bR aa];exact P,hE.keep (ax _) aa fun w w1 w2 w3=> ?_⟩;exact AQ o o' w aa aa aa aa (B7 w (.inr (.inr w3)))
     ·have Cc:q=(aF c t).length:=by
       have:=(zH.1 m).1;rw[zM,fR]at this;omega
      subst Cc;rw[eF (ax _),dJ]at m;simp only[ds,zA]at m;subst m;refine⟨[V.ms e 0 F,V.ms kv 0 I],by rw[eF aa,Bb,dJ];rfl,?_⟩
      have X: ∀q,R<=q->q<z->updC (updC (At (updC H (z+1+3+11) (some (O.rows 2 [[V.ms e 0 F,V.ms kv 0 I]] false))) hp) C o) B o' q=H q:=fun q D g=>by
       rw[CJ o o' q aa aa,Ev q g (B7 q (.inr (.inl aa)))]
      rw[aA]at Dm La;refine⟨e,kv,by rw[<- Dm,<- La];rfl,aa,aa,aa,aa,by rw[X e U e2];exact e6,by rw[X kv e3 e4];exact e7⟩
   ·rw[ac hj]at W;obtain⟨u,hu,Hn⟩:=E.at_ j b W;have AN:=(zH.1 W).1;refine⟨u,by rw[cu,ac hj];exact hu,?_⟩;refine(Hn.keep (ax _) fun q D g=> ?_).tree 997;have X:=E.le (q:=0) (r:=j) aa aa;have u2:=E.le (q:=j+1) (r:=c.buf.length) aa (ax _);refine AQ o o' q aa aa aa aa (B7 q ?_);rcases bv j t with d | d
    ·have:=E.le (q:=j+1) (r:=t) aa aa;exact .inl aa
    ·have:=E.le (q:=t+1) (r:=j) aa aa;exact .inr (.inl aa)
  rw[hC];simp -dsimp only[go_sem,seval,Hm,fM,f3,f5,f6,f7,aA,cJ,g7,ax]
theorem kax (p:Prog) (d:aM p=true) (k:Int) (c:Config) (a:IsB p c) (t:Nat) (x:Thread) (g:p.threads[t]? =some x) (i:Nat) (s:Step) (f:x.steps[i]? =some s) (y:Choice) (h:y=⟨t,i,0⟩):
 Den Γ G 192 [stV p k c,(.agg [.t (ti (y).thread),.t (ti (y).step),.t (ti (y).cell)]),.t (ints (aK c t))]=some (.agg [.t (ints (eg p c t s).mem),.t (ints (eg p c t s).at_),.t (.sl ((eg p c t s).buf.map (fun b=>[.sl (b.map Entry.enc)])))]):=by
 by_cases e:s.kind=3
 ·exact kav p d k c a t x g i s f y h e
 ·exact kaw p d k c a t x g i s f y h e
def stT (p:Prog) (k:Int) (c:Config):List T:=[ints c.mem,ints c.at_,.sl (c.buf.map fun b=>[.sl (b.map Entry.enc)]),.sl (p.cells.map Cell.enc),.sl (p.modules.map Contract.enc),.sl (p.locks.map Lock.enc),.sl (p.threads.map Thread.enc),ti k]
theorem Sr (p:Prog) (k:Int) (c:Config) (t:Nat):Den Γ G 190 [stV p k c,vi t]=some (.t (.fn 200 [] [.ip (stT p k c),.ip [ti t]])):=by
 unfold stV stT
 exact aB (q:=am)
 done
theorem NP (p:Prog) (X:aM p=true) (k:Int) (c:Config) (M:IsB p c) (t:Nat) (ht:t<p.threads.length) (E:Nat) (Inv:Nat->ae->Nat->Prop) (Stop:ae->Nat->Prop)
 (d: ∀i H n m,Inv i H n->n<=m->Inv i H m) (J: ∀H n m,Stop H n->n<=m->Stop H m)
 (K: ∀i e H n,(aF c t)[i]? =some e->Inv i H n->if dk k (aF c t) i e then ∃cont h' a,DenY Γ G E [vi i,.agg [.t (ints e.cells),.t (ints e.values)]] H n=some (vb cont,h',a)/\(if cont then Inv (i+1) h' a else Stop h' a)else Inv (i+1) H n)
 (H:ae) (n:Nat) (U:Inv 0 H n):
 ∃r h' a,DenR Γ G 200 [.yl E,.t (.ip (stT p k c)),.t (.ip [ti t])] H n=some (r,h',a)/\(Inv (aF c t).length h' a\/Stop h' a):=by
 obtain⟨⟨m1,m2,m3,m4⟩,_⟩:=cR (cS X).1;have l3:=M.lb;have I:=fA (c:=c) (t:=t) aa;obtain⟨b1,b2,_⟩:=M.buf t _ I;unfold stT
 refine bO (q:=?_)
 simp -dsimp only[go_sem,seval,I];refine aS 1099511595104 (aF c t).length (fun i f h z=>(f 15).v=vi i/\Inv i h z) rfl ⟨am,d _ _ _ _ U av⟩ ?_;rintro i f u B z bs hi ⟨b,C⟩;have v:=ay i aa;simp -dsimp only[go_sem,seval,b];refine aO b ?_ ?_<;>intro h<;>try exact⟨⟩<;>try exact h.elim
 ·obtain⟨e,j,S⟩:=au ‹i<(aF c t).length›;have R:=b2 e S;have Z:=g6 R;have q:=K i e B z j C
  have L:dk k (aF c t) i e=true-> ∀m,z<=m-> ∃r h' a,DenY Γ G E [vi i,.agg [.t (ints e.cells),.t (ints e.values)]] B m=some (r,h',a)/\ ∃cont:Bool,r=vb cont/\(if cont then Inv (i+1) h' a else Stop h' a):=fun D m Y=>by
   have:=K i e B m j (d _ _ _ _ C Y);rw[ah D]at this;obtain⟨cont,h',a,V,W⟩:=this;exact⟨_,h',a,V,cont,rfl,W⟩
  have F:((((aF c t).map Entry.enc)).all fun x=>decide (x.length=2))=true:=by simp[Entry.enc]
  have y:=Yl ((aF c t).take i) e (by rw[bJ];omega) aa (fun o D=>by
   have:=g6 (b2 o (lG D));omega)
  rw[wg]at y;have N:(0:Int)<=(i:Int):=aa
  have P:(i:Int)<=((aF c t).length:Int):=aa
  have Q:((i:Int)-0).toNat=i:=aa
  by_cases A:i=0
  ·subst A;simp -dsimp only[go_sem,seval,b,j,Entry.enc];refine be (L (by simp[dk]) _ aa) ?_;rintro r h' a ⟨cont,rfl,l⟩;cases cont
   ·simp -dsimp only[go_sem,seval,b];exact .inr (J _ _ _ l aa)
   ·simp -dsimp only[go_sem,seval,b];exact⟨aa,al v,d _ _ _ _ l av⟩
  ·have w:(i:Int)>0:=aa
   by_cases g:k=2
   ·cases s:jj ((aF c t).take i) e
    ·simp -dsimp only[go_sem,seval,b,j,Entry.enc,w,g,y,s,N,P,Q,F];refine be (L (by simp[dk,g,s]) _ aa) ?_;rintro r h' a ⟨cont,rfl,l⟩;cases cont
     ·simp -dsimp only[go_sem,seval,b];exact .inr (J _ _ _ l aa)
     ·simp -dsimp only[go_sem,seval,b];exact⟨aa,al v,d _ _ _ _ l av⟩
    ·simp -dsimp only[go_sem,seval,b,j,Entry.enc,w,g,y,s,N,P,Q,F];rw[ac (by simp[dk,g,s,A])]at q;exact⟨aa,al v,d _ _ _ _ q av⟩
   ·simp -dsimp only[go_sem,seval,b,j,Entry.enc,w,g];rw[ac (by simp[dk,g,A])]at q;exact⟨aa,al v,d _ _ _ _ q av⟩
 ·have T:i=(aF c t).length:=aa
  subst T;exact .inl (d _ _ _ _ C av)
theorem N4 (p:Prog) (r:aM p=true) (e:Entry) (a:Proper p e):Den Γ G 205 [(zP p),.agg [.t (ints e.cells),.t (ints e.values)]]=some (vb true):=by
 obtain⟨⟨m1,m2,m3,m4⟩,_⟩:=cR (cS r).1;have X:=g6 a;have Y:=a.len
 have S: ¬(e.cells.length:Int)=0:=by
  have:e.cells.length≠0:=fun h=>a.ne (fq h)
  omega
 have T: ¬(e.cells.length:Int)>(p.cells.length:Int):=aa
 have U:(e.values.length:Int)=(e.cells.length:Int):=aa
 refine aB (q:=?_)
 simp -dsimp only[go_sem,seval,S,T,U];refine aZ 1237940039285380266309189872 e.cells.length (fun i f=>(f 33).v=vi i) rfl rfl am ?_;rintro i f u Z bb hi c;have O:=ay i aa;simp -dsimp only[go_sem,seval,c];refine aO c ?_ ?_<;>intro h<;>try exact⟨⟩<;>try exact h.elim
 ·obtain⟨n,d,V⟩:=au ‹i<e.cells.length›;obtain⟨v,k,_⟩:=au (show i<e.values.length from aa);obtain⟨J,y,g,N,L,v0,v1⟩:=a.cell i n v d k;have W:=(zH.1 g).1;obtain⟨w1,w2,_⟩:=qk r (zL g);have t:=sg (w:=y.w) aa;have A: ¬y.w<0:=aa
  have E: ¬n<0:=aa
  have F: ¬n>=(p.cells.length:Int):=aa
  have H: ¬v<0:=aa
  have I: ¬v>=2^y.w.toNat:=aa
  have P:(0:Int)<=(i:Int):=aa
  have Q:(i:Int)<=(e.cells.length:Int):=aa
  have R:((i:Int)-0).toNat=i:=aa
  have l:=xj (e.cells.take i) n (by rw[bJ];omega)
  have D:(e.cells.take i).contains n=false:=by
   rw[Bool.eq_false_iff];intro K;have M:n∈e.cells.take i:=ak K
   obtain⟨j,b⟩:=eD M;rw[zO]at b;split at b
   ·rename_i z;have o:=(zH.1 b)
    have q:=(zH.1 d)
    exact qr.1 (s6.1 a.nd) j i o.1 q.1 z (by rw[o.2,q.2])
   ·simp at b
  rw[D]at l;have s:((e.cells.map fun n=>[ti n]).all fun x=>decide (x.length=1))=true:=af
  have C:(e.cells.map fun n=>[ti n]).take i=(e.cells.take i).map fun n=>[ti n]:=by rw[wg]
  have B:((y.ghost==decide ((i:Int)>0)) != true)=false:=by
   rw[L]
   by_cases m:0<i
   ·have:(i:Int)>0:=aa
    simp[m]
   ·have : ¬(i:Int)>0:=aa
    simp[m]
  simp -dsimp only[go_sem,seval,c,d,E,F,P,Q,R,s,C,l,J,g,N,B,k,H,t,A,I];exact⟨aa,al O⟩
theorem Ze (p:Prog) (s:aM p=true) (c:Config) (k:IsB p c):Den Γ G 196 [(.agg [.t (.sl ((p).cells.map (Cell.enc))),.t (.sl ((p).modules.map (Contract.enc))),.t (.sl ((p).locks.map (Lock.enc))),.t (.sl ((p).threads.map (Thread.enc)))]),(.agg [.t (ints (c).mem),.t (ints (c).at_),.t (.sl ((c).buf.map (fun b=>[.sl (b.map Entry.enc)])))])]=some (vb true):=by
 obtain⟨⟨m1,m2,m3,m4⟩,_⟩:=cR (cS s).1;have l1:=k.lm;have l2:=k.la;have l3:=k.lb;have S:(c.mem.length:Int)=(p.cells.length:Int):=aa
 have T:(c.at_.length:Int)=(p.threads.length:Int):=aa
 have U:(c.buf.length:Int)=(p.threads.length:Int):=aa
 refine aB (q:=?_)
 simp -dsimp only[go_sem,seval,S,T,U];refine aZ 576459652791795824 c.mem.length (fun i f=>(f 40).v=vi i) rfl rfl am ?_;rintro i f u W bb hi q;have n:=ay i aa;simp -dsimp only[go_sem,seval,q];refine aO q ?_ ?_<;>intro h<;>try exact⟨⟩<;>try exact h.elim
 ·obtain⟨v,I,_⟩:=au (show i<c.mem.length from aa);obtain⟨x,l,H⟩:=au (show i<p.cells.length from aa);obtain⟨w1,w2,_⟩:=qk s H;have N:=sg (w:=x.w) aa;have P: ¬x.w<0:=aa
  obtain⟨v0,v1⟩:=k.mem i v x I l;have C: ¬v<0:=aa
  have Q: ¬v>=2^x.w.toNat:=aa
  simp -dsimp only[go_sem,seval,q,I,l,N,P,C,Q];exact⟨aa,al n⟩
 ·refine aZ 2658455991569831741195928102133304208 c.at_.length (fun i f=>(f 62).v=vi i) rfl rfl am ?_;clear q n;rintro t f u W bb hi d;have n:=ay t aa;simp -dsimp only[go_sem,seval,d];refine aO d ?_ ?_<;>intro h<;>try exact⟨⟩<;>try exact h.elim
  ·obtain⟨a,r,_⟩:=au (show t<c.at_.length from aa);obtain⟨x,l,H⟩:=au (show t<p.threads.length from aa);obtain⟨Z,a2,C⟩:=k.at_ t a x r l;have y:=fA (c:=c) (t:=t) aa;obtain⟨b1,b2,R⟩:=k.buf t _ y;have J: ¬a< -1:=aa
   have K: ¬a>=x.points:=aa
   have L: ¬((aF c t).length:Int)>3:=aa
   by_cases o:a= -1
   ·have O:aF c t=[]:=R (by rw[r,o]);have M:=C o;have X: ¬((aF c t).length:Int)>0:=by rw[O];simp
    subst o;simp -dsimp only[go_sem,seval,d,r,l,y,J,K,L,M,X];refine aZ 1326631847355648459089541812115736592 (aF c t).length (fun j m=>(m 111).v=vi j) rfl rfl am ?_;rintro j m Y F D V g;have z:=ay j aa;simp -dsimp only[go_sem,seval,g];refine dI g d ?_ ?_<;>intro h<;>try exact⟨⟩<;>try exact h.elim
    ·obtain⟨e,E,A⟩:=au ‹j<(aF c t).length›;have B:=N4 p s e (b2 e A);simp -dsimp only[go_sem,seval,g,d,E,Entry.enc,B];exact⟨aa,al z⟩
    ·exact⟨aa,bh n d⟩
   ·simp -dsimp only[go_sem,seval,d,r,l,y,J,K,L,o];refine aZ 1326631847355648459089541812115736592 (aF c t).length (fun j m=>(m 111).v=vi j) rfl rfl am ?_;rintro j m Y F D V g;have z:=ay j aa;simp -dsimp only[go_sem,seval,g];refine dI g d ?_ ?_<;>intro h<;>try exact⟨⟩<;>try exact h.elim
    ·obtain⟨e,E,A⟩:=au ‹j<(aF c t).length›;have B:=N4 p s e (b2 e A);simp -dsimp only[go_sem,seval,g,d,E,Entry.enc,B];exact⟨aa,al z⟩
    ·exact⟨aa,bh n d⟩
theorem Yq (p:Prog) (b:p.sane):Den Γ G 195 [(zP p)]=some (vb (aM p)):=by
 refine aB (q:=?_)
 have a:=tz p b;refine aC a ?_;rfl
theorem Ss (p:Prog) (h:p.sane) (e:aM p=true) (c:Config) (f:IsB p c) (k:Int) (g:k=1\/k=2):Den Γ G 187 [(zP p),vi k,(.agg [.t (ints (c).mem),.t (ints (c).at_),.t (.sl ((c).buf.map (fun b=>[.sl (b.map Entry.enc)])))])]=some (.tup [stV p k c,vb true]):=by
 unfold stV
 refine aB (q:=?_)
 have a:=Yq p h;rw[e]at a;have d:=Ze p e c f;rcases g with rfl | rfl
 ·exact bh a d
 ·exact bh a d
def uK (c:Config):Bool:=c.buf.all fun b=>b.isEmpty
end Rg
end
