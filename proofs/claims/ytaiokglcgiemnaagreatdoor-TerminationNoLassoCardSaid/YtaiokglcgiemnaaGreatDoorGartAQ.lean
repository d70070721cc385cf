/- Part of the proof of laws of relyguardlaw36. No condition. -/
import Derived.Test.YtaiokglcgiemnaaGreatDoorGartAP
import Derived.Test.YtaiokglcgiemnaaGreatDoorGartAK
set_option linter.unusedSimpArgs false
set_option linter.unusedVariables false
set_option linter.defProp false
section
namespace Rg
open Go
theorem Xz (p:Prog) (I:aN p=true) (k:Int) (c:Config) (M:IsK p k c) (t:Nat) (x:Thread) (R:p.threads[t]? =some x) (i:Nat) (s:Step) (hs:x.steps[i]? =some s):
 Den Γ G 371 [(zP p),vi k,(.agg [.t (ints (c).mem),.t (ints (c).at_),.t (.sl ((c).buf.map (fun b=>[.sl (b.map Entry.enc)])))]),vi t,(zS s)]=some (vb (df p c t s)):=by
 have D:=M.b;have l1:=D.lm;have l2:=D.la;have l3:=D.lb;have L:=kX I R hs;have W:t<p.threads.length:=(zH.1 R).1;obtain⟨a,e,_⟩:=au (show t<c.at_.length from aa);have P:atI c.at_ t=a:=iO (al e);have f:=xr s.guard (aM c t) (aM c t);have g:=Kx p I c D t W;have EL:=L.kind;have h:=fC (c:=c) (t:=t) aa
 refine aD (q:=?_)
 by_cases d:a=s.fr
 ·by_cases B:s.guard.eval (aM c t) (aM c t)=1
  ·have z:df p c t s=(if s.kind=3 then(if s.release then decide ((aF c t).length=0)else decide ((aF c t).length<3))
    else if s.kind=4\/s.kind=5 then decide ((aF c t).length=0)
    else if s.kind=6 then decide ((aF c t).length=0)&&decide (atI c.at_ s.target= -1)
    else if s.kind=7 then decide ((aF c t).length=0)&&(decide (atI c.at_ s.target=kF p s.target-1)&&decide ((aF c s.target.toNat).length=0))
    else true):=by
    simp[df,P,d,B]
   rw[B]at f;rw[z];have w:((aF c t).length:Int)=0<->(aF c t).length=0:=aa
   have e3:((aF c t).length:Int)<3<->(aF c t).length<3:=aa
   by_cases j:s.kind=6\/s.kind=7
   ·obtain⟨o,_⟩:=L.tgt j;simp only[inR,aQ]at o;obtain⟨b,n,_⟩:=au (show s.target.toNat<c.at_.length from aa);obtain⟨y,r,_⟩:=au (show s.target.toNat<p.threads.length from aa);have Ml:=qb I r;have J:IntKind.i64.wrap (y.points-1)=y.points-1:=bu aa;have v:=iO n;have H:kF p s.target=y.points:=by simp[kF,r]
    have E:=fC (c:=c) (t:=s.target.toNat) aa;have Q:((aF c s.target.toNat).length:Int)=0<->(aF c s.target.toNat).length=0:=aa
    have K:=ZW p c s.target y b o.1 n r aa
    by_cases A:(aF c t).length=0
    ·rcases j with j | j
     ·simp -dsimp only[go_sem,seval,g,e,d,f,h,A,j,o.1,n,v,io,im,il,dU,iq,aU,aX]
     ·by_cases N:b=y.points-1
      ·simp -dsimp only[go_sem,seval,g,e,d,f,h,A,j,o.1,n,r,J,v,H,E,N,Q,K,io,im,il,dU,iq,aU,aX]
      ·simp -dsimp only[go_sem,seval,g,e,d,f,h,A,j,o.1,n,r,J,v,H,E,N,Q,K,ik,io,im,il,dU,iq,aU,aX]
    ·rcases j with j | j
     ·simp -dsimp only[go_sem,seval,g,e,d,f,h,A,j,o.1,n,v,w,ik,io,im,il,dU,iq,aU,aX]
     ·simp -dsimp only[go_sem,seval,g,e,d,f,h,A,j,o.1,n,r,J,v,H,E,w,ik,io,im,il,dU,iq,aU,aX]
   ·have k6: ¬s.kind=6:=aa
    have k7: ¬s.kind=7:=aa
    by_cases q:s.kind=3
    ·by_cases m:k=0
     ·have Z:=pH (M.q m) t;have O:(aF c t).length=0:=by rw[Z];rfl
      cases l:s.release
      ·simp -dsimp only[go_sem,seval,g,e,d,f,h,q,l,m,O,io,im,il,dU,iq,aU,aX]
      ·simp -dsimp only[go_sem,seval,g,e,d,f,h,q,l,m,O,io,im,il,dU,iq,aU,aX]
     ·by_cases C:(aF c t).length<3
      ·have u:((aF c t).length:Int)<3:=aa
       cases l:s.release
       ·simp -dsimp only[go_sem,seval,g,e,d,f,h,q,l,m,C,u,io,im,il,dU,iq,aU,aX]
       ·simp -dsimp only[go_sem,seval,g,e,d,f,h,q,l,m,C,u,w,io,im,il,dU,iq,aU,aX]
      ·have u: ¬((aF c t).length:Int)<3:=aa
       have V: ¬(aF c t).length=0:=aa
       cases l:s.release
       ·simp -dsimp only[go_sem,seval,g,e,d,f,h,q,l,m,C,u,io,im,il,dU,iq,aU,aX]
       ·simp -dsimp only[go_sem,seval,g,e,d,f,h,q,l,m,C,u,V,io,im,il,dU,iq,aU,aX]
    ·by_cases X:s.kind=4
     ·simp -dsimp only[go_sem,seval,g,e,d,f,h,X,w,io,im,il,dU,iq,aU,aX]
     ·by_cases Y:s.kind=5
      ·simp -dsimp only[go_sem,seval,g,e,d,f,h,Y,w,io,im,il,dU,iq,aU,aX]
      ·by_cases U:s.kind=1
       ·simp -dsimp only[go_sem,seval,g,e,d,f,h,U,io,im,il,dU,iq,aU,aX]
       ·have S:s.kind=2:=aa
        simp -dsimp only[go_sem,seval,g,e,d,f,h,S,io,im,il,dU,iq,aU,aX]
  ·have z:df p c t s=false:=by simp[df,B]
   rw[z];exact sG g e d f B
 ·have z:df p c t s=false:=by simp[df,P,d]
  rw[z];exact ds g e d
end Rg
end
section
-- FULL
namespace Rg
open Go
def stV (p:Prog) (k:Int) (c:Config):V:=.agg [.t (ints c.mem),.t (ints c.at_),.t (.sl (c.buf.map fun b=>[.sl (b.map Entry.enc)])),.t (.sl (p.cells.map Cell.enc)),.t (.sl (p.modules.map Contract.enc)),.t (.sl (p.locks.map Lock.enc)),.t (.sl (p.threads.map Thread.enc)),vi k]
theorem I9 (p:Prog) (M:aN p=true) (k:Int) (c:Config) (C:IsB p c) (t:Nat) (x:Thread) (e:p.threads[t]? =some x) (i:Nat) (s:Step) (g:x.steps[i]? =some s):
 Den Γ G 189 [stV p k c,vi t,vi i,.t (ints (aM c t))]=some (vb (df p c t s)):=by
 have U:=C.lm;have V:=C.la;have W:=C.lb;have N:=kX M e g;have R:t<p.threads.length:=(zH.1 e).1;obtain⟨a,f,_⟩:=au (show t<c.at_.length from aa);have J:atI c.at_ t=a:=iO (al f);have h:=pf s.guard (aM c t) (aM c t);have l:=fC (c:=c) (t:=t) aa;unfold stV
 refine aD (q:=?_)
 by_cases d:a=s.fr
 ·by_cases w:s.guard.eval (aM c t) (aM c t)=1
  ·have r:df p c t s=(if s.kind=3 then(if s.release then decide ((aF c t).length=0)else decide ((aF c t).length<3))
    else if s.kind=4\/s.kind=5 then decide ((aF c t).length=0)
    else if s.kind=6 then decide ((aF c t).length=0)&&decide (atI c.at_ s.target= -1)
    else if s.kind=7 then decide ((aF c t).length=0)&&(decide (atI c.at_ s.target=kF p s.target-1)&&decide ((aF c s.target.toNat).length=0))
    else true):=by
    simp[df,J,d,w]
   rw[w]at h;rw[r];have q:((aF c t).length:Int)=0<->(aF c t).length=0:=aa
   have O:((aF c t).length:Int)<3<->(aF c t).length<3:=aa
   by_cases j:s.kind=6\/s.kind=7
   ·obtain⟨n,_⟩:=N.tgt j;simp only[inR,aQ]at n;obtain⟨b,m,_⟩:=au (show s.target.toNat<c.at_.length from aa);obtain⟨y,v,_⟩:=au (show s.target.toNat<p.threads.length from aa);have S:=qb M v;have D:IntKind.i64.wrap (y.points-1)=y.points-1:=bu aa;have o:=iO m;have B:kF p s.target=y.points:=by simp[kF,v]
    have A:=fC (c:=c) (t:=s.target.toNat) aa;have L:((aF c s.target.toNat).length:Int)=0<->(aF c s.target.toNat).length=0:=aa
    by_cases u:(aF c t).length=0
    ·rcases j with j | j
     ·simp -dsimp [go_sem,e,g,f,d,h,l,u,j,n.1,m,o]
     ·by_cases H:b=y.points-1
      ·simp -dsimp [go_sem,e,g,f,d,h,l,u,j,n.1,m,v,D,o,B,A,H,L]
      ·simp -dsimp [go_sem,e,g,f,d,h,l,u,j,n.1,m,v,D,o,B,A,H,L]
    ·rcases j with j | j
     ·simp -dsimp [go_sem,e,g,f,d,h,l,u,j,n.1,m,o,q]
     ·simp -dsimp [go_sem,e,g,f,d,h,l,u,j,n.1,m,v,D,o,B,A,q]
   ·have P: ¬s.kind=6:=aa
    have Q: ¬s.kind=7:=aa
    by_cases z:s.kind=3
    ·cases E:s.release
     ·simp -dsimp [go_sem,e,g,f,d,h,l,z,E,O]
     ·simp -dsimp [go_sem,e,g,f,d,h,l,z,E,q]
    ·by_cases I:s.kind=4
     ·simp -dsimp [go_sem,e,g,f,d,h,l,I,q]
     ·by_cases K:s.kind=5
      ·simp -dsimp [go_sem,e,g,f,d,h,l,K,q]
      ·simp -dsimp [go_sem,e,g,f,d,h,l,P,Q,z,I,K]
  ·have r:df p c t s=false:=by simp[df,w]
   rw[r];exact F6 e g f d h w
 ·have r:df p c t s=false:=by simp[df,J,d]
  rw[r];exact zV e g f d
def ie (h:ae) (lo hi:Nat) (v:V) (rows:List (List V)):Prop:=
 (v= .t (.sl [])/\rows=[])\/ ∃k,v= .ms k 0 rows.length/\lo<=k/\k<hi/\h k=some (.rows 1 rows false)
theorem ie.keep {h h':ae} {lo hi:Nat} {v:V} {rows:List (List V)} (o:ie h lo hi v rows) (e: ∀k,lo<=k->k<hi->h' k=h k):ie h' lo hi v rows:=by
 rcases o with o | ⟨k,c,a,b,d⟩
 ·exact .inl o
 ·exact .inr ⟨k,c,a,b,by rw[e k a b];exact d⟩
theorem ie.val {h:ae} {lo hi:Nat} {v:V} {rows:List (List V)} (o:ie h lo hi v rows):Rg.valOf v=some v/\V.cells v=some [v]:=by
 rcases o with⟨rfl,_⟩ | ⟨k,rfl,_⟩<;>exact⟨rfl,rfl⟩
theorem ie.tree {h:ae} {lo hi:Nat} {v:V} {l:List Int} (o:ie h lo hi v (ai l)) (d:Nat):toT h (d+1) v=some (ints l):=by
 rcases o with⟨rfl,b⟩ | ⟨k,rfl,_,_,c⟩
 ·have:l=[]:=by
   have:=bz List.length b;rw[aC]at this;exact fu this
  subst this;rfl
 ·have a:List.take (ai l).length (ai l)=ai l:=ec rfl;simp only[toT,c,rd,gy,ay,aU,ij,a,zC,zD,gY]
def m9 (h:ae) (lo hi:Nat) (r:List V) (e:Entry):Prop:=
 ∃a kv,r=[.ms a 0 e.cells.length,.ms kv 0 e.values.length]/\lo<=a/\a<hi/\lo<=kv/\kv<hi/\h a=some (.rows 1 (ai e.cells) false)/\h kv=some (.rows 1 (ai e.values) false)
theorem m9.keep {h h':ae} {lo hi a b:Nat} {r:List V} {e:Entry} (o:m9 h lo hi r e) (q:a<=lo) (s:hi<=b) (f: ∀k,lo<=k->k<hi->(∀rs p,h k≠some (.rows 2 rs p))->h' k=h k):m9 h' a b r e:=by
 obtain⟨g,kv,n,i,j,l,m,c,d⟩:=o;exact⟨g,kv,n,aa,aa,aa,aa,by rw[f g i j (by rw[c];simp)];exact c,by rw[f kv l m (by rw[d];simp)];exact d⟩
theorem m9.tree {h:ae} {lo hi:Nat} {r:List V} {e:Entry} (o:m9 h lo hi r e) (d:Nat):r.mapM (toT h (d+1))=some (Entry.enc e):=by
 obtain⟨a,kv,rfl,b,c,f,g,i,j⟩:=o;have k:=ie.tree (h:=h) (lo:=lo) (hi:=hi) (v:=.ms a 0 e.cells.length) (l:=e.cells) (.inr ⟨a,by rw[aC],b,c,i⟩) d;have m:=ie.tree (h:=h) (lo:=lo) (hi:=hi) (v:=.ms kv 0 e.values.length) (l:=e.values) (.inr ⟨kv,by rw[aC],f,g,j⟩) d;rw[cQ,k,cQ,m,tm];rfl
def h_ (h:ae) (lo hi:Nat) (v:V) (b:List Entry):Prop:=
 ∃rows,((v= .t .nils/\rows=[])\/ ∃k,v= .ms k 0 rows.length/\lo<=k/\k<hi/\h k=some (.rows 2 rows false))/\rows.length=b.length/\(∀r∈rows,r.length=2)/\
  ∀(j:Nat) (e:Entry),b[j]? =some e-> ∃r,rows[j]? =some r/\m9 h lo hi r e
theorem h_.keep {h h':ae} {lo hi c:Nat} {v:V} {b:List Entry} (o:h_ h lo hi v b) (m:hi<=c) (f: ∀k,lo<=k->k<hi->h' k=h k):h_ h' lo c v b:=by
 obtain⟨rows,a,n,p,q⟩:=o;refine⟨rows,?_,n,p,fun j e t=> ?_⟩
 ·rcases a with a | ⟨k,g,d,i,l⟩
  ·exact .inl a
  ·exact .inr ⟨k,g,d,aa,by rw[f k d i];exact l⟩
 ·obtain⟨r,u,s⟩:=q j e t;exact⟨r,u,s.keep (ay _) m fun k w x _=>f k w x⟩
theorem yo {h:ae} {d:Nat}: ∀(rows:List (List V)) (b:List Entry),rows.length=b.length->(∀(j:Nat) (e:Entry),b[j]? =some e-> ∃r,rows[j]? =some r/\r.mapM (toT h d)=some (Entry.enc e))->
 rows.mapM (fun row=>row.mapM (toT h d))=some (b.map Entry.enc)
 | [],[],_,_=>rfl
 | [],_::_,hl,_=>by simp at hl
 | _::_,[],hl,_=>by simp at hl
 | r::rows,e::b,hl,hj=>by
   have g:=yo rows b (al hl) fun j e c=>hj (j+1) e c
   obtain⟨i,a,f⟩:=hj 0 e rfl;simp only[dv,zA]at a;subst a;rw[cQ,f,g];rfl
theorem h_.tree {h:ae} {lo hi:Nat} {v:V} {b:List Entry} (o:h_ h lo hi v b) (d:Nat):toT h (d+2) v=some (.sl (b.map Entry.enc)):=by
 obtain⟨rows,i,c,s,l⟩:=o;rcases i with⟨rfl,rfl⟩ | ⟨k,rfl,p,q,g⟩
 ·have:b=[]:=fu (al c.symm);subst this;rfl
 ·have f:List.take rows.length rows=rows:=ec rfl
  have a:=yo (h:=h) (d:=d+1) rows b c fun j e n=>by
   obtain⟨r,a,m⟩:=l j e n;exact⟨r,a,m.tree d⟩
  simp only[toT,g,rd,gy,ay,aU,ij,f,zC,zD,a]
theorem h_.val {h:ae} {lo hi:Nat} {v:V} {b:List Entry} (o:h_ h lo hi v b):Rg.valOf v=some v/\V.cells v=some [v]:=by
 obtain⟨rows,⟨rfl,_⟩ | ⟨k,rfl,_⟩,_⟩:=o<;>exact⟨rfl,rfl⟩
structure BufsV (h:Nat->Option O) (bd:Nat->Nat) (vs:List (List V)) (bs:List (List Entry)):Prop where
 len:vs.length=bs.length
 mono: ∀q,q<bs.length->bd q<=bd (q+1)
 at_: ∀(q:Nat) (b:List Entry),bs[q]? =some b-> ∃v,vs[q]? =some [v]/\h_ h (bd q) (bd (q+1)) v b
theorem BufsV.le {h:ae} {a:Nat->Nat} {vs:List (List V)} {bs:List (List Entry)} (o:BufsV h a vs bs) {q r:Nat} (c:q<=r) (d:r<=bs.length):a q<=a r:=by
 induction r with
 | zero=>have:q=0:=by omega
         subst this;exact ay _
 | succ r b=>
   rcases bw q (r+1)with h | h
   ·exact cU (b aa aa) (o.mono r aa)
   ·have:q=r+1:=aa
    subst this;exact ay _
theorem BufsV.snoc {h h':ae} {a:Nat->Nat} {vs:List (List V)} {bs:List (List Entry)} (o:BufsV h a vs bs) {x:Nat} {v:V} {b:List Entry} (l:a bs.length<=x)
 (g: ∀k,a 0<=k->k<a bs.length->h' k=h k) (j:h_ h' (a bs.length) x v b):BufsV h' (fun q=>if q<=bs.length then a q else x) (vs++[[v]]) (bs++[b]):=by
 refine⟨by simp[o.len],fun q e=> ?_,fun q b' d=> ?_⟩
 ·rw[zM,gp]at e;rcases bw q bs.length with c | c
  ·rw[ah aa,ah aa];exact o.mono q c
  ·have:q=bs.length:=aa
   subst this;rw[ah (ay _),ac aa];exact l
 ·rcases bw q bs.length with c | c
  ·rw[bU c]at d;obtain⟨u,i,f⟩:=o.at_ q b' d;refine⟨u,by rw[bU (by rw[o.len];exact c)];exact i,?_⟩;rw[ah aa,ah aa];refine f.keep (ay _) fun k m n=>g k ?_ ?_
   ·have:=o.le (pr q) aa;omega
   ·have:=o.le (show q+1<=bs.length from aa) (ay _);omega
  ·have e:q=bs.length:=by
    have:=(zH.1 d).1;rw[zM,gp]at this;omega
   subst e;rw[eJ (ay _),dI]at d;simp only[dv,zA]at d;subst d;refine⟨v,by rw[eJ (by rw[o.len];exact ay _),o.len,dI];rfl,?_⟩;rw[ah (ay _),ac aa];exact j
def VS (h:ae) (x:Nat) (g f:V) (b:Nat) (c:Config):Prop:=
 ∃d e a vs,ie h 0 d g (ai c.mem)/\ie h d e f (ai c.at_)/\d<=e/\e<=b/\b<a 0/\h b=some (.rows 1 vs false)/\BufsV h a vs c.buf/\a c.buf.length<=x
theorem wD (p:Prog) (hf:aN p=true) (c:Config) (hc:IsB p c) (nx:Nat):
 ∃r h' n',DenR Γ G 202 [(.agg [.t (ints (c).mem),.t (ints (c).at_),.t (.sl ((c).buf.map (fun b=>[.sl (b.map Entry.enc)])))])] (fun _=>none) nx=some (r,h',n')/\ ∃R Q kB,r= .agg [R,Q,.ms kB 0 c.buf.length]/\VS h' n' R Q kB c:=by
 obtain⟨⟨m1,m2,m3,m4⟩,_⟩:=cS (cT hf).1;have l1:=hc.lm;have l2:=hc.la;have l3:=hc.lb;have e3:(c.buf.length:Int)<=4294967296:=aa
 refine bO (q:=aA ?_);refine sE aa ?_;rintro R DN KZ DC H6 ⟨AX,Dr⟩;refine aw AX ?_;refine sE aa ?_;rintro Q D0 KY Cl Cv ⟨DT,CG⟩;unfold V.cells at Dr CG;refine de AX Dr DT CG e3 @iN ?_
 generalize Rh:At (At (fun _=>none) DN) D0=H0 at *
 have n1:c.buf.length=c.buf.length:=rfl;refine aS 9007199250546864 c.buf.length (fun i f h x=>(f 22).v=vi i/\ ∃N vs,h (nx+2+9)=some (.rows 1 (vs++List.replicate (c.buf.length-i) [.t .nils]) false)/\BufsV h N vs (c.buf.take i)/\N 0=nx+2+10/\N i<=x/\(∀k,k<nx+2+9->h k=H0 k)) rfl ?_ ?_
 ·refine⟨am,fun _=>nx+2+10,[],by simp -dsimp only[go_sem,seval,ff,tp],⟨rfl,fun q w=>ay _,fun q b P=>by simp at P⟩,rfl,av,?_⟩;intro k g;have:k≠nx+2+9:=aa
  exact ak this
 rintro i f u Ho x bs hi ⟨D,N,vs,hB,I,Co,He,AG⟩;have hw:=aB i aa;refine aw D ?_;refine aR D ?_ ?_<;>intro h
 ·obtain⟨b,P,EW⟩:=au ‹i<c.buf.length›;obtain⟨b1,b2,_⟩:=hc.buf i b P;refine aJ D P ?_
  have Ae:List.replicate (c.buf.length-i) [V.t T.nils]=[V.t T.nils]::List.replicate (c.buf.length-i-1) [V.t T.nils]:=by
   rw[<- oE];congr 1;omega
  have E6:vs.length=i:=by rw[I.len,bJ];omega
  have Do:nx+2+9<x:=by have:=I.le (q:=0) (r:=i) aa (by rw[bJ];omega);omega
  refine aS 4503599090499712 b.length (fun j f' h' d=>(f' 29).v=vi j/\ ∃v,h' (nx+2+9)=some (.rows 1 (vs++[v]::List.replicate (c.buf.length-i-1) [.t .nils]) false)/\h_ h' x d v (b.take j)/\x<=d/\(∀k,k<x->k≠nx+2+9->h' k=Ho k)) rfl ?_ ?_
  ·refine⟨am,.t .nils,bg hB Ae,⟨[],.inl ⟨rfl,rfl⟩,af,af,af⟩,av,fun k _ _=>rfl⟩
  rintro j f' u' s d bs' hj ⟨Z,v,EX,Y,PA,DD⟩;have Aw:=aB j aa;refine aw Z ?_;refine dH Z D ?_ ?_<;>intro h
  ·obtain⟨e,he,Cn⟩:=au ‹j<b.length›;have L:=b2 e Cn;have BL:=gX L
   have B5:(vs++[v]::List.replicate (c.buf.length-i-1) [V.t T.nils])[i]? =some [v]:=by
    rw[eJ aa,E6,dI];rfl
   obtain⟨Bs,Fc⟩:=Y.val;have C8:(i:Int)<(c.buf.length:Int):=aa
   have Dq:(0:Int)<=(i:Int):=aa
   refine ra Z D he @Entry.enc.eq_1 EX B5 C8 Dq Bs ?_;refine sE aa ?_;rintro l J Ny NQ Kv ⟨Bu,Bi⟩;refine aw Bu ?_;refine sE (by have:=L.len;omega) ?_;rintro m K HQ L7 LD ⟨Di,CL⟩;unfold V.cells at Bi CL;obtain⟨rows,U,C,W,Bh⟩:=Y
   have hG: ∀k,k<d->updC (At (At s J) K) (d+1+4+15) (some (O.rows 2 [[l,m]] false)) k=s k:=fun k g=>by
    rw[aq,ac aa,L7 k aa,NQ k aa]
   have I1:ax (updC (At (At s J) K) (d+1+4+15) (some (O.rows 2 [[l,m]] false))) (d+1+4+16) v 2 rows:=by
    rcases U with h | ⟨k,a,h2,B,A⟩
    ·exact .inl h
    ·exact .inr ⟨k,a,aa,by rw[hG k B];exact A⟩
   have AD:=I1.rowsS;refine de Bs Bu Bi Di CL AD ?_;have Aa:(rows.all fun r=>decide (r.length=2))=true:=al W
   refine ce I1 (ay _) (by have:=I.len;rw[C,bJ];omega) aG rfl Aa ?_;intro v2 hp hO Bp Aq;rcases hO with⟨_,CY⟩ | ⟨t,rfl,AF,C4⟩
   ·simp at CY
   have FA:d+1+4+16<=t:=by
    rcases bw t (d+1+4+16)with a | a
    ·exact absurd rfl (Bp t a 0 _)
    ·exact a
   have AM: ∀k,(k<x\/d<=k\/ ∀rs fz,s k≠some (O.rows 2 rs fz))->aK v k:=by
    intro k g;rcases U with⟨rfl,_⟩ | ⟨k',rfl,h2,B,A⟩
    ·intro i n z;cases z
    ·refine c8 ?_ _ _;rintro rfl;rcases g with g | g | g
     ·omega
     ·omega
     ·exact g _ _ A
   have A8: ∀k,k<d->(k<x\/ ∀rs fz,s k≠some (O.rows 2 rs fz))->At (updC (At (At s J) K) (d+1+4+15) (some (O.rows 2 [[l,m]] false))) hp k=s k:=by
    intro k g Ah;rw[Aq k aa (AM k (by rcases Ah with h | h;exact .inl h;exact .inr (.inr h))),hG k g]
   have Ij:=A8 (nx+2+9) aa (.inl aa);rw[EX]at Ij
   have E8:(vs++[v]::List.replicate (c.buf.length-i-1) [V.t T.nils]).set i [V.ms t 0 (rows++[[l,m]]).length]=vs++[V.ms t 0 (rows++[[l,m]]).length]::List.replicate (c.buf.length-i-1) [V.t T.nils]:=by
    rw[v6 _ _ aa,E6,dI];rfl
   refine dG Z D Ij B5 C8 Dq E8 ?_;have M: ∀(o:Option O) k,k≠nx+2+9->updC (At (updC (At (At s J) K) (d+1+4+15) (some (O.rows 2 [[l,m]] false))) hp) (nx+2+9) o k=At (updC (At (At s J) K) (d+1+4+15) (some (O.rows 2 [[l,m]] false))) hp k:=fun o k g=>by rw[aq,ac g]
   have Hb: ∀(o:Option O) H,t<H->h_ (updC (At (updC (At (At s J) K) (d+1+4+15) (some (O.rows 2 [[l,m]] false))) hp) (nx+2+9) o) x H (.ms t 0 (rows++[[l,m]]).length) (b.take (j+1)):=by
    intro o H IQ;refine⟨rows++[[l,m]],.inr ⟨t,rfl,aa,IQ,by rw[M _ _ aa];exact C4⟩,by rw[zM,C,bJ,bJ];simp;omega,?_,?_⟩
    ·intro r y;rcases cz.1 y with y | y
     ·exact W r y
     ·rw[bB]at y;rw[y];rfl
    ·intro q e0 w;rw[a_ he]at w;have S:(b.take j).length=j:=by rw[bJ];omega
     rcases bw q j with a | a
     ·rw[bU aa]at w;obtain⟨r,y,hE⟩:=Bh q e0 w;refine⟨r,by rw[bU (by rw[C];omega)];exact y,hE.keep (ay _) aa fun k a1 a2 a3=> ?_⟩;rw[M _ _ aa,A8 k a2 (.inr a3)]
     ·have Cc:q=j:=by
       have:=(zH.1 w).1;rw[zM,S,gp]at this;omega
      subst Cc;rw[eJ aa,S,dI]at w;simp only[dv,zA]at w;subst w;refine⟨[l,m],by rw[eJ (by rw[C,S];exact ay _),C,S,dI];rfl,?_⟩;have NZ:ai e.cells≠[]:=fun z=>L.ne (fu (by rw[<- aC,z];rfl))
      have Ak:ai e.values≠[]:=fun z=>L.ne (fu (by rw[<- L.len,<- aC,z];rfl))
      rcases Ny with⟨_,z⟩ | ⟨E,rfl,DO,J8⟩
      ·exact absurd z NZ
      rcases HQ with⟨_,z⟩ | ⟨kv,rfl,Eh,J2⟩
      ·exact absurd z Ak
      have qc:E=d+1+4+10:=by
       rcases Nat.decEq E (d+1+4+10)with a | a
       ·exact absurd rfl (Kv E a 0 _)
       ·exact a
      have qv:kv=d+1+4+13:=by
       rcases Nat.decEq kv (d+1+4+13)with a | a
       ·exact absurd rfl (LD kv a 0 _)
       ·exact a
      refine⟨E,kv,by rw[aC,aC],aa,aa,aa,aa,?_,?_⟩
      ·rw[M _ _ aa,Aq E aa (AM E (.inr (.inl aa))),aq,ac aa,L7 E aa];exact J8
      ·rw[M _ _ aa,Aq kv aa (AM kv (.inr (.inl aa))),aq,ac aa];exact J2
   refine⟨aa,ak Aw,.ms t 0 (rows++[[l,m]]).length,am,?_,av,?_⟩
   ·refine aA ?_;exact Hb _ _ aa
   intro k g Ls;simp -dsimp only[go_sem,seval,M _ k Ls];rw[A8 k aa (.inl g)];exact DD k g Ls
  ·have:j=b.length:=aa
   subst this;rw[be]at Y;have Dv:c.buf.take (i+1)=c.buf.take i++[b]:=a_ P;have X:(c.buf.take i).length=i:=by rw[bJ];omega
   have C6:=I.snoc (h':=s) (x:=d) (v:=v) (b:=b) (by rw[X];omega) (fun k k1 t=>by rw[X]at t;exact DD k aa aa) (by
    rw[X];obtain⟨rows,U,C,W,Bh⟩:=Y;refine⟨rows,?_,C,W,fun q e0 w=> ?_⟩
    ·rcases U with h | ⟨k,a,h2,B,A⟩
     ·exact .inl h
     ·exact .inr ⟨k,a,aa,B,A⟩
    ·obtain⟨r,y,hE⟩:=Bh q e0 w
     exact⟨r,y,hE.keep He (ay _) fun _ _ _ _=>rfl⟩)
   rw[X,<- Dv]at C6;refine⟨aa,bg hw D,_,vs++[[v]],?_,C6,by rw[ah (pr _)];exact Co,by rw[ac aa];refine aA ?_;omega,?_⟩
   ·refine aw EX ?_;rw[zQ];rfl
   ·intro k g;refine aw (DD k aa aa) ?_;exact AG k g
 ·have Cq:i=c.buf.length:=aa
  subst Cq;rw[dI,s7,bW]at hB;rw[be]at I
  have hM:ie Ho 0 (nx+5) R (ai c.mem):=by
   rcases KZ with a | ⟨k,a,h2,B⟩
   ·exact .inl a
   ·exact .inr ⟨k,a,aa,aa,by rw[AG k aa,Cl k aa];exact B⟩
  have hA:ie Ho (nx+5) (nx+8) Q (ai c.at_):=by
   rcases KY with a | ⟨k,a,h2,B⟩
   ·exact .inl a
   ·have g:k=nx+2+5:=by
     rcases Nat.decEq k (nx+2+5)with A | A
     ·subst a;exact absurd rfl (Cv k A 0 _)
     ·exact A
    exact .inr ⟨k,a,aa,aa,by rw[AG k aa];exact B⟩
  refine⟨R,Q,nx+2+9,rfl,nx+5,nx+8,N,vs,hM,hA,aa,aa,aa,hB,I,av⟩
theorem Yo (m:List Int) (e:Entry) (Q:e.values.length=e.cells.length) (hs:e.cells.length<2^40) (N: ∀n∈e.cells,0<=n/\n.toNat<m.length) (H:ae) (nx k b kv:Nat) (P:H k=some (.rows 1 (ai m) false))
 (o:H b=some (.rows 1 (ai e.cells) false)) (E:H kv=some (.rows 1 (ai e.values) false)) (L:b≠k) (M:kv≠k):
 ∃r h' w,DenR Γ G 199 [.ms k 0 m.length,.agg [.ms b 0 e.cells.length,.ms kv 0 e.values.length]] H nx=some (r,h',w)/\(r= .tup []/\h' k=some (.rows 1 (ai (d5 m e)) false)/\(∀j,j≠k->h' j=H j)/\nx<=w):=by
 refine bO (q:=aw o ?_);refine aS 8388144 e.cells.length (fun i f h x=>(f 9).v=vi i/\h k=some (.rows 1 (ai (dZ m e i)) false)/\(∀j,j≠k->h j=H j)/\nx<=x) rfl ⟨am,by simp -dsimp only[go_sem,seval,P,dZ,fy,o6],fun j _=>rfl,av⟩ ?_;rintro i f u Y x bs hi ⟨d,g,a,hx⟩;have R:=aB i aa;have s:=a b L;have q:=a kv M;rw[o]at s;rw[E]at q;refine aw d ?_;refine aR d ?_ ?_<;>intro h
 ·obtain⟨c,p,D⟩:=au ‹i<e.cells.length›;obtain⟨v,t,_⟩:=au (show i<e.values.length from aa);obtain⟨J,Z⟩:=N c D;have y:=MP (m:=m) p t;have X:=PB m e i;have B:=gz (l:=dZ m e i) (i:=c.toNat) aa;have z:=dV (dZ m e i) c.toNat v;have K:c<(m.length:Int):=aa
  have i0:(0:Int)<=(i:Int):=aa
  have V:i<e.cells.length:=aa
  have W:i<e.values.length:=aa
  have S:(i:Int)<(e.cells.length:Int):=aa
  have U:(i:Int)<(e.values.length:Int):=aa
  have A:(ai e.cells)[i]? =some [vi c]:=by simp[ai,p]
  have C:(ai e.values)[i]? =some [vi v]:=by simp[ai,t]
  simp -dsimp only[go_sem,seval,d,s,q,i0,S,U,V,W,A,C,g,J,K,B];refine⟨aa,ak R,?_,?_,av⟩
  ·rw[y];exact ak z
  ·intro j I;exact bg I a
 ·have:i=e.cells.length:=aa
  subst this;rw[PD Q]at g;refine⟨rfl,g,a,av⟩
theorem XQ (A:List (List V)) (K: ∀r∈A,r.length=2) (Y:A.length<2^20) (i:Nat) (hi:i<A.length) (H:ae) (nx k:Nat) (a:H k=some (.rows 2 A false)) (U:k<nx):
 ∃r h' N,DenR Γ G 203 [.ms k 0 A.length,vi i,vi ((i+1:Nat):Int)] H nx=some (r,h',N)/\ ∃d,r= .ms d 0 (A.length-1)/\h' d=some (.rows 2 (A.eraseIdx i++[[.t .nils,.t .nils]]) false)/\(∀j,j<nx->j≠k->h' j=H j)/\(d=k\/nx<=d):=by
 have t:(0:Int)<=(i:Int):=aa
 have z:(i:Int)<=((i+1:Nat):Int):=aa
 have B:((i+1:Nat):Int)<=(A.length:Int):=aa
 have C:(0:Int)<=((i+1:Nat):Int):=aa
 have D:(i:Int)<=(A.length:Int):=aa
 have E: ¬(i:Int)=((i+1:Nat):Int):=aa
 have I:(A.length:Int)<=(A.length:Int):=iN _;have J: ¬((i+1:Nat):Int)=0:=aa
 have P:((i:Int)-0).toNat=i:=aa
 have Q:((A.length:Int)-((i+1:Nat):Int)).toNat=A.length-(i+1):=aa
 have R:i<=A.length:=aa
 have S:rowsS H (.ms k (i+1) (A.length-(i+1)))=some (A.drop (i+1)):=by
  simp only[rowsS,a,rd];rw[ah aa,c6 af]
 have x:(A.take i).length=i:=by rw[bJ];omega
 have o: ∀l:List (List V),(∀r∈l,r∈A)->(l.all fun r=>decide (r.length=2))=true:=fun l M=>zN.2 fun r b=>al (K r (M r b))
 refine bO (q:=?_)
 simp -dsimp only[go_sem,seval,a,t,z,B,C,D,E,I,J,p',sY,aX,P,Q,R,S];unfold aY;rw[ah ⟨⟨by rw[x,pn];omega,aG⟩,o _ fun r b=>List.mem_of_mem_drop b,o _ fun r b=>lB b⟩];have p:(A.length:Int)-1=((A.length-1:Nat):Int):=aa
 by_cases W:i+1=A.length
 ·have c:A.drop (i+1)=[]:=oU aa;rw[c];simp only[sU,aU,jC,bE];have w:((A.length:Int)-(i:Int)).toNat=1:=aa
  have f: ¬(A.length:Int)<=(i:Int):=aa
  have g:qx H 2 (i:Int) (A.length:Int) (.ms k 0 i)=some (.ms k i 1):=by
   simp only[qx,a];rw[ah ⟨trivial,aa,aa,aa⟩];simp only[kW,gy,w]
  have m:A.take i++[[V.t T.nils,V.t T.nils]]++A.drop (i+1)=A.eraseIdx i++[[.t .nils,.t .nils]]:=by
   rw[G_,c];simp
  have n:i+1<=A.length:=hi;simp -dsimp only[go_sem,seval,a,t,w,f,g,p',sY,aX,List.replicate_one,m,n];refine⟨k,by rw[show A.length-1=i by omega];rfl,by simp[cD,bE,aq],fun j _ u=>by simp[cD,bE,aq,u],.inl rfl⟩
 ·have c:(A.drop (i+1)).isEmpty=false:=by
   cases y:A.drop (i+1)with
   | nil=>have:=bz List.length y;rw[pn]at this;simp at this;omega
   | cons _ _=>rfl
  rw[c];simp only[zG,aX,a,kx,aU,jC];have v:(A.take i).length+(A.drop (i+1)).length=A.length-1:=by rw[x,pn];omega
  have f: ¬(A.length:Int)<=((A.length-1:Nat):Int):=aa
  have L:fq (A.take i) (A.drop (i+1)) A=A.eraseIdx i++A.drop (A.length-1):=by
   unfold fq;rw[v,ac aa,G_]
  have e:(A.eraseIdx i++A.drop (A.length-1)).length=A.length:=by
   rw[zM,pA hi,pn];omega
  rw[v,L]
  have g: ∀(h:ae) q,qx (updC h q (some (O.rows 2 (A.eraseIdx i++A.drop (A.length-1)) false))) 2 ((A.length-1:Nat):Int) (A.length:Int) (.ms q 0 (A.length-1))=some (.ms q (A.length-1) 1):=by
   intro h q;simp only[qx,aq,aU];rw[ah ⟨trivial,aa,aa,by rw[e];omega⟩];simp only[kW,gy]
   congr 1;congr 1;omega
  have X:(A.eraseIdx i).length=A.length-1:=pA hi
  have m:(A.eraseIdx i++A.drop (A.length-1)).take (A.length-1)++[[V.t T.nils,V.t T.nils]]++(A.eraseIdx i++A.drop (A.length-1)).drop (A.length-1+1)=A.eraseIdx i++[[.t .nils,.t .nils]]:=by
   rw[tf aa,c6 aa,oU (by rw[e];omega),bW]
  have n:A.length-1+1<=(A.eraseIdx i++A.drop (A.length-1)).length:=by rw[e];omega
  simp -dsimp only[go_sem,seval,f,g,p',sY,aX,List.replicate_one,m,n];refine⟨_,rfl,by simp[cD,bE,aq],fun j u p=> ?_,.inr aa⟩;have s:j≠nx+1+6+3+3+6:=aa
  rw[cD,bE,cD,cD,bE,aq,ac s,aq,ac s,aq,ac p]
theorem nX {h:ae} {d:Nat}: ∀(vs:List (List V)) (bs:List (List Entry)),vs.length=bs.length->(∀(j:Nat) (b:List Entry),bs[j]? =some b-> ∃v,vs[j]? =some [v]/\toT h d v=some (.sl (b.map Entry.enc)))->
 vs.mapM (fun row=>row.mapM (toT h d))=some (bs.map fun b=>[.sl (b.map Entry.enc)])
 | [],[],_,_=>rfl
 | [],_::_,hl,_=>by simp at hl
 | _::_,[],hl,_=>by simp at hl
 | r::vs,b::bs,hl,hj=>by
   have g:=nX vs bs (al hl) fun j e c=>hj (j+1) e c
   obtain⟨v,a,f⟩:=hj 0 b rfl;simp only[dv,zA]at a;subst a;rw[cQ,cQ,f,tm,g];rfl
theorem XU (p:Prog) (hf:aN p=true) (k:Int) (c:Config) (x:IsB p c) (t:Nat) (ht:t<p.threads.length) (i:Nat) (e:Entry) (C:(aF c t)[i]? =some e):
 Den Γ G 191 [stV p k c,vi t,vi i]=some (.agg [.t (ints (c7 c t i).mem),.t (ints (c7 c t i).at_),.t (.sl ((c7 c t i).buf.map (fun b=>[.sl (b.map Entry.enc)])))]):=by
 obtain⟨⟨m1,m2,m3,m4⟩,_⟩:=cS (cT hf).1;have l1:=x.lm;have l2:=x.la;have l3:=x.lb;have Ag:=fC (c:=c) (t:=t) aa;obtain⟨b1,b2,_⟩:=x.buf t _ Ag;have AV:=(zH.1 C).1;have w:=b2 e (zL C);have BL:=gX w;unfold stV
 refine aD (q:=aA ?_);refine bf (wD p hf c x _) ?_;rintro r h' n' ⟨vM,vA,a,rfl,x1,x2,bd,vs,hM,U,CK,AT,AF,hB,f,H8⟩;obtain⟨K,B⟩:=U.val;have RQ:=U;obtain⟨v,E,rows,B1,Bb,BC,Bh⟩:=f.at_ t _ Ag;have OM:=f.le (q:=0) (r:=t) aa aa;have OL:=f.le (q:=t+1) (r:=c.buf.length) aa (ay _);obtain⟨r,y,kc,kv,rfl,a1,a2,a3,a4,a5,a6⟩:=Bh i e C;rcases B1 with⟨_,S⟩ | ⟨H,rfl,b3,b4,M⟩
 ·exfalso;rw[S]at y;simp at y
 rcases hM with⟨_,S⟩ | ⟨kM,rfl,m5,m6,m7⟩
 ·exfalso;have g:=bz List.length S;rw[aC]at g;have:=lG w (tS w);simp at g;rw[g]at l1;simp at l1;omega
 unfold V.cells at B;have i0:(0:Int)<=(i:Int):=aa
 have i1:(i:Int)<(rows.length:Int):=aa
 have Z:(0:Int)<=(t:Int):=aa
 have t1:(t:Int)<(c.buf.length:Int):=aa
 have hw:=aB i aa;refine mP K B hB E Z t1 i0 i1 M y ?_;rw[aC];refine bf (Yo c.mem e w.len aa (fun n hn=>by have:=lG w hn;omega) _ _ kM kc kv (ak m7) (ak a5) (ak a6) aa aa) ?_;rintro r2 h2 n2 ⟨rfl,g1,R,g3⟩;have L:=R a aa;rw[hB]at L;have l:=R H aa;rw[M]at l;refine mP K B L E Z t1 i0 i1 l hw ?_;refine bf (XQ rows BC aa i aa h2 _ H l aa) ?_;rintro r3 m n3 ⟨X,rfl,d1,N,d3⟩;have Mb:=N a aa aa;rw[L]at Mb;have EL:X≠a:=aa
 have Ke:vs[t]? =some [.ms H 0 rows.length]:=E;refine de K B Mb E Z t1 ?_;have hC:c7 c t i=⟨d5 c.mem e,c.at_,c.buf.set t ((aF c t).eraseIdx i)⟩:=by simp only[c7,C]
 have J: ∀(o:Option O) q,q<n'->q≠a->q≠kM->q≠H->updC m a o q=h' q:=fun o q q1 Y q3 q4=>by
  rw[aq,ac Y,N q aa q4,R q q3]
 have f0: ¬kM=a:=aa
 have f1:m kM=some (.rows 1 (ai (d5 c.mem e)) false):=by rw[N kM aa aa];exact g1
 have f2:(ai (d5 c.mem e)).length=c.mem.length:=by rw[aC,xK]
 have f3:List.take c.mem.length (ai (d5 c.mem e))=ai (d5 c.mem e):=ec f2.symm
 have f4: ∀o:Option O,toT (updC m a o) 1000 vA=some (ints c.at_):=fun o=>
  (U.keep fun q q1 Y=>J o q aa aa aa aa).tree 999
 have Q: ∀v,(vs.set t [v]).length=c.buf.length:=fun v=>by rw[cL];exact f.len
 have f6: ∀v,List.take c.buf.length (vs.set t [v])=vs.set t [v]:=fun v=>ec (Q v).symm
 have f7: ∀o:Option O,(vs.set t [V.ms X 0 (rows.length-1)]).mapM (fun row=>row.mapM (toT (updC m a o) 999))=some ((c.buf.set t ((aF c t).eraseIdx i)).map fun b=>[.sl (b.map Entry.enc)]):=by
  intro o;refine nX _ _ (by rw[Q,cL]) fun j b s=> ?_
  rw[cx]at s
  by_cases W:t=j
  ·subst W;rw[ah rfl,ah aa]at s;simp only[zA]at s;subst s;refine⟨_,by rw[cx,ah rfl,ah (by have:=f.len;omega)],?_⟩;have hd:updC m a o X=some (.rows 2 (rows.eraseIdx i++[[.t .nils,.t .nils]]) false):=by rw[aq,ac EL];exact d1
   have e1:(rows.eraseIdx i).length=rows.length-1:=pA aa;have e2:rows.length-1<=(rows.eraseIdx i++[[V.t T.nils,V.t T.nils]]).length:=by rw[zM,e1];omega
   have e3:List.take (rows.length-1) (rows.eraseIdx i++[[V.t T.nils,V.t T.nils]])=rows.eraseIdx i:=by
    rw[tf aa,c6 aa]
   have e4:=yo (h:=updC m a o) (d:=998) (rows.eraseIdx i) ((aF c t).eraseIdx i) (by rw[e1,pA AV,Bb]) fun q P D=>by
    rw[Hq]at D⊢
    have A: ∀I,(aF c t)[I]? =some P-> ∃r:List V,rows[I]? =some r/\r.mapM (toT (updC m a o) 998)=some (Entry.enc P):=fun I Eu=>by
     obtain⟨r,y,hE⟩:=Bh I P Eu;exact⟨r,y,(hE.keep (ay _) (ay _) fun z z1 z2 z3=>J o z aa aa aa (by rintro rfl;exact z3 _ _ M)).tree 997⟩
    split at D
    ·rename_i g;rw[ah g];exact A _ D
    ·rename_i g;rw[ac g];exact A _ D
   simp only[toT,hd,rd,gy,e2,aU,ij,e3,zC,zD,e4]
  ·rw[ac W]at s;obtain⟨u,hu,Hn⟩:=f.at_ j b s;have AN:=(zH.1 s).1;refine⟨u,by rw[cx,ac W];exact hu,?_⟩;refine(Hn.keep (ay _) fun q q1 Y=> ?_).tree 997;have u1:=f.le (q:=0) (r:=j) aa aa;have u2:=f.le (q:=j+1) (r:=c.buf.length) aa (ay _);refine J o q aa aa aa ?_;rintro rfl;rcases bw j t with g | g
   ·have:=f.le (q:=j+1) (r:=t) aa aa;omega
   ·have:=f.le (q:=t+1) (r:=j) aa aa;omega
 rw[hC];exact VG f0 f1 f2 f3 f4 Q f6 f7 @gY @ay
theorem xV {p:Prog} {set:List Assign} (h:SetOk p set):set.length<=p.cells.length:=by
 have d:=us p.cells.length (set.map Assign.cell) (by
  rw[s9,qt];intro i j hi c g b;simp only[cP]at hi c;simp only[vJ]at b;have:=h.dif i j _ _ (zI hi) (zI c) b
  omega) (fun x f=>by
  obtain⟨a,e,rfl⟩:=cy.1 f;have:=(h.rng a e).1;simp only[inR,aQ]at this
  exact this)
 simpa using d
theorem kal (p:Prog) (W:aN p=true) (k:Int) (c:Config) (D:IsB p c) (t:Nat) (x:Thread) (X:p.threads[t]? =some x) (i:Nat) (s:Step) (hs:x.steps[i]? =some s) (y:Choice) (hy:y=⟨t,i,0⟩) (w:s.kind≠3):
 Den Γ G 192 [stV p k c,(.agg [.t (ti (y).thread),.t (ti (y).step),.t (ti (y).cell)]),.t (ints (aM c t))]=some (.agg [.t (ints (eo p c t s).mem),.t (ints (eo p c t s).at_),.t (.sl ((eo p c t s).buf.map (fun b=>[.sl (b.map Entry.enc)])))]):=by
 subst hy;obtain⟨⟨m1,m2,m3,m4⟩,_⟩:=cS (cT W).1;have l1:=D.lm;have l2:=D.la;have l3:=D.lb;have L:=kX W X hs;have ht:t<p.threads.length:=(zH.1 X).1;have E8:=xV L.set
 have BI: ∀a∈s.set,0<=a.cell/\a.cell<c.mem.length:=fun a C=>by
  have:=(L.rng.2 a C).1;simp only[inR,aQ]at this;omega
 unfold stV
 refine aD (q:=aA ?_);refine bf (wD p W c D _) ?_;rintro r h' n' ⟨vM,vA,I,rfl,x1,x2,bd,vs,hM,hA,CK,AT,AF,hB,J,H8⟩;obtain⟨A,g⟩:=hM.val;rcases hA with⟨_,S⟩ | ⟨e,rfl,a1,a2,a3⟩
 ·exfalso;have d:=bz List.length S;rw[aC]at d;simp at d;rw[d]at l2;simp at l2;omega
 unfold V.cells at g;refine bN A g X hs ?_
 refine aS 18889465931476433377792 s.set.length (fun j f h z=>(f 31).v=vi j/\ie h 0 x1 vM (ai (bp c.mem (aM c t) (s.set.take j)))/\(∀q,x1<=q->h q=h' q)/\n'<=z) rfl
  ⟨am,hM,fun _ _=>rfl,av⟩ ?_
 rintro j f u H z bs hj ⟨M,N,v,hz⟩;have hw:=aB j aa;refine aw M ?_;refine aR M ?_ ?_<;>intro h
 ·obtain⟨a,C,Cp⟩:=au ‹j<s.set.length›;obtain⟨c0,P⟩:=BI a Cp;have Ak:=pf a.to (aM c t) (aM c t);have Y:(bp c.mem (aM c t) (s.set.take j)).length=c.mem.length:=iE (aM c t) _ c.mem;rcases N with⟨_,S⟩ | ⟨kM,rfl,m5,m6,m7⟩
  ·exfalso;have d:=bz List.length S;rw[aC,Y]at d;simp at d;rw[d]at P;simp at P;omega
  have K:=gz (l:=bp c.mem (aM c t) (s.set.take j)) (i:=a.cell.toNat) aa;have n:=dV (bp c.mem (aM c t) (s.set.take j)) a.cell.toNat (a.to.eval (aM c t) (aM c t));rw[<- wG C]at n;have Z:(ai (bp c.mem (aM c t) (s.set.take j))).length=c.mem.length:=by rw[aC,Y]
  have D9:(ai (bp c.mem (aM c t) (s.set.take (j+1)))).length=c.mem.length:=by rw[aC,iE]
  refine mP M C Ak w Z c0 P m7 K n ?_;refine⟨aa,ak hw,.inr ⟨kM,by rw[D9,Z],m5,m6,am⟩,?_,av⟩;intro q E;have PZ:q≠kM:=aa
  refine aw PZ ?_;exact v q E
 ·have:j=s.set.length:=aa
  subst this;rw[be]at N;have g1:H e=some (.rows 1 (ai c.at_) false):=by rw[v e a1];exact a3
  have g2:H I=some (.rows 1 vs false):=by rw[v I aa];exact hB
  have K:=gz (l:=c.at_) (i:=t) aa;have n:=dV c.at_ t s.to;have Ad:(t:Int)<(c.at_.length:Int):=aa
  have t0:(0:Int)<=(t:Int):=aa
  have M9:e≠I:=aa
  have Hm:I≠e:=aa
  have fM: ∀o,toT (updC H e o) 1000 vM=some (ints (bp c.mem (aM c t) s.set)):=fun o=>
   (N.keep fun q q1 q2=>by rw[aq,ac aa]).tree 999
  have B:vs.length=c.buf.length:=J.len;have f6:List.take c.buf.length vs=vs:=ec B.symm
  have f7: ∀o:Option O,vs.mapM (fun row=>row.mapM (toT (updC H e o) 999))=some (c.buf.map fun b=>[.sl (b.map Entry.enc)]):=fun o=>
   nX _ _ B fun q b E=>by
    obtain⟨u,hu,OD⟩:=J.at_ q b E;have Ed:=(zH.1 E).1;have u1:=J.le (q:=0) (r:=q) aa aa;exact⟨u,hu,(OD.keep (ay _) fun z z1 z2=>by rw[aq,ac aa,v z aa]).tree 997⟩
  refine ra w A g g1 K Ad t0 n @aC ?_
  by_cases m:s.kind=6
  ·obtain⟨hr,_⟩:=L.tgt (.inl m);simp only[inR,aQ]at hr;have q1:s.target<(c.at_.length:Int):=aa
   have q2:=hr.1;have GQ:=gz (l:=c.at_.set t s.to) (i:=s.target.toNat) (by simp;omega);have Gs:=dV (c.at_.set t s.to) s.target.toNat 0;have Q:(ai ((c.at_.set t s.to).set s.target.toNat 0)).length=c.at_.length:=by rw[aC];simp
   have R:List.take c.at_.length (ai ((c.at_.set t s.to).set s.target.toNat 0))=ai ((c.at_.set t s.to).set s.target.toNat 0):=ec Q.symm;have U:eo p c t s=⟨bp c.mem (aM c t) s.set,(c.at_.set t s.to).set s.target.toNat 0,c.buf⟩:=by simp only[eo,ac w,ah m]
   rw[U];simp -dsimp only[go_sem,seval,m,A,g,q1,q2,GQ,Gs,aC,cL,Hm,g2,uo,fM,R,B,f6,f7,gY,ay]
  ·have Q:(ai (c.at_.set t s.to)).length=c.at_.length:=by rw[aC];simp
   have R:List.take c.at_.length (ai (c.at_.set t s.to))=ai (c.at_.set t s.to):=ec Q.symm;have U:eo p c t s=⟨bp c.mem (aM c t) s.set,c.at_.set t s.to,c.buf⟩:=by simp only[eo,ac w,ac m]
   rw[U];simp -dsimp only[go_sem,seval,m,A,g,aC,cL,Hm,g2,fM,R,B,f6,f7,gY,ay]
def HH (h:ae) (lo z:Nat) (b c:V) (cs ws:List Int):Prop:=
 (b= .t .nils/\c= .t .nils/\cs=[]/\ws=[])\/ ∃a kv,b= .ms a 0 (ai cs).length/\c= .ms kv 0 (ai ws).length/\lo<=a/\a<z/\lo<=kv/\kv<z/\a≠kv/\h a=some (.rows 1 (ai cs) false)/\h kv=some (.rows 1 (ai ws) false)
theorem kak (p:Prog) (hf:aN p=true) (k:Int) (c:Config) (hc:IsB p c) (t:Nat) (x:Thread) (hx:p.threads[t]? =some x) (i:Nat) (s:Step) (hs:x.steps[i]? =some s) (y:Choice) (hy:y=⟨t,i,0⟩) (B4:s.kind=3):
 Den Γ G 192 [stV p k c,(.agg [.t (ti (y).thread),.t (ti (y).step),.t (ti (y).cell)]),.t (ints (aM c t))]=some (.agg [.t (ints (eo p c t s).mem),.t (ints (eo p c t s).at_),.t (.sl ((eo p c t s).buf.map (fun b=>[.sl (b.map Entry.enc)])))]):=by
 subst hy;obtain⟨⟨m1,m2,m3,m4⟩,_⟩:=cS (cT hf).1;have l1:=hc.lm;have l2:=hc.la;have l3:=hc.lb;have Bm:=kX hf hx hs;have ht:t<p.threads.length:=(zH.1 hx).1;have E8:=xV Bm.set
 have BI: ∀a∈s.set,0<=a.cell/\a.cell<c.mem.length:=fun a P=>by
  have:=(Bm.rng.2 a P).1;simp only[inR,aQ]at this;omega
 unfold stV
 refine aD (q:=aA ?_);refine bf (wD p hf c hc _) ?_;rintro r h' S ⟨vM,vA,C,rfl,x1,x2,bd,vs,hM,hA,CK,AT,AF,hB,E,H8⟩;obtain⟨Bu,Bi⟩:=hM.val;rcases hA with⟨_,L⟩ | ⟨B,rfl,a1,a2,a3⟩
 ·exfalso;have d:=bz List.length L;rw[aC]at d;simp at d;rw[d]at l2;simp at l2;omega
 unfold V.cells at Bi;have Om:=E.le (q:=0) (r:=c.buf.length) aa (ay _);refine bN Bu Bi hx hs ?_
 refine aS 18889465931476433377792 s.set.length (fun j f h z=>(f 31).v=vi j/\(f 9).v= .lb/\ ∃M U,(f 9).box=some [M,U]/\HH h S z M U (((s.set.take j).filter (ba p)).map Assign.cell) (((s.set.take j).filter (ba p)).map fun a=>a.to.eval (aM c t) (aM c t))/\
  ie h 0 x1 vM (ai (bp c.mem (aM c t) ((s.set.take j).filter fun a=> !ba p a)))/\(∀q,x1<=q->q<S->h q=h' q)/\S<=z) rfl
  ⟨am,am,.t .nils,.t .nils,am,.inl ⟨rfl,rfl,rfl,rfl⟩,hM,fun _ _ _=>rfl,av⟩ ?_
 rintro j f u H z bs hj ⟨E2,N,M,U,FK,K,F7,Z,hz⟩;have hw:=aB j aa;refine aw E2 ?_;refine aR E2 ?_ ?_<;>intro h
 ·obtain⟨a,P,Cp⟩:=au ‹j<s.set.length›;obtain⟨c0,c1⟩:=BI a Cp;obtain⟨y,hy,_⟩:=Bm.wid a Cp;have Ak:=pf a.to (aM c t) (aM c t);have Bo:ba p a=decide (y.thread= -1):=by rw[ba,fo hy]
  by_cases Gj:y.thread= -1
  ·have Ff:ba p a=true:=by rw[Bo];simpa using Gj
   have Fc:Rg.valOf M=some M:=by rcases K with⟨rfl,_⟩ | ⟨_,_,rfl,_⟩<;>rfl
   have Bs:Rg.valOf U=some U:=by rcases K with⟨_,rfl,_⟩ | ⟨_,_,_,rfl,_⟩<;>rfl
   generalize AL:((s.set.take j).filter (ba p)).map Assign.cell=cs at *
   generalize Fy:(((s.set.take j).filter (ba p)).map fun a=>a.to.eval (aM c t) (aM c t))=ws at *
   have By:cs.length<=32:=by
    rw[<- AL,cP];have:=ku (ba p) (s.set.take j);rw[bJ]at this;omega
   have Er:ws.length<=32:=by
    rw[<- Fy,cP];have:=ku (ba p) (s.set.take j);rw[bJ]at this;omega
   have G9: ∀q,(q<S\/z<=q)->aK M q:=fun q m=>by
    rcases K with⟨rfl,_⟩ | ⟨e,kv,rfl,_,W,e2,_⟩
    ·intro i n L;cases L
    ·exact c8 aa _ _
   have AM: ∀q,(q<S\/z<=q)->aK U q:=fun q m=>by
    rcases K with⟨_,rfl,_⟩ | ⟨e,kv,_,rfl,_,_,W,e2,_⟩
    ·intro i n L;cases L
    ·exact c8 aa _ _
   have KX:ax (updC H (z+1+4+6+14+4) (some (O.rows 1 [[V.t (ti a.cell)]] false))) (z+1+4+6+14+5) M 1 (ai cs):=by
    rcases K with⟨rfl,_,rfl,_⟩ | ⟨e,kv,rfl,_,W,e2,e3,e4,e5,e6,e7⟩
    ·exact .inl ⟨rfl,rfl⟩
    ·exact .inr ⟨e,rfl,aa,by rw[aq,ac aa];exact e6⟩
   have Iy:=KX.rowsS;refine nK E2 N FK P Ak B4 c0 hy Gj Fc Iy ?_;refine ce KX (ay _) (by rw[aC];omega) aG rfl (eC _) ?_;intro v1 DN O0 Jq J3;rcases O0 with⟨_,CY⟩ | ⟨R,rfl,NK,J9⟩
   ·simp at CY
   have NJ:z+1+4+6+14+5<=R:=by
    rcases bw R (z+1+4+6+14+5)with d | d
    ·exact absurd rfl (Jq R d 0 _)
    ·exact d
   have G5: ∀q,q<z->aK M q->At (updC H (z+1+4+6+14+4) (some (O.rows 1 [[V.t (ti a.cell)]] false))) DN q=H q:=fun q D g=>by
    rw[J3 q aa g,aq,ac aa]
   have GB:ax (updC (At (updC H (z+1+4+6+14+4) (some (O.rows 1 [[V.t (ti a.cell)]] false))) DN) (z+1+4+6+14+8+3) (some (O.rows 1 [[V.t (T.int IntKind.i64 (a.to.eval (aM c t) (aM c t)))]] false))) (z+1+4+6+14+8+4) U 1 (ai ws):=by
    rcases K with⟨_,rfl,_,rfl⟩ | ⟨e,kv,rfl,rfl,W,e2,e3,e4,e5,e6,e7⟩
    ·exact .inl ⟨rfl,rfl⟩
    ·exact .inr ⟨kv,rfl,aa,by rw[aq,ac aa,G5 kv e4 (c8 aa _ _)];exact e7⟩
   have DY:=GB.rowsS;refine bT E2 N FK Bs DY ?_;refine ce GB (ay _) (by rw[aC];omega) aG rfl (eC _) ?_;intro v2 D0 Cz Jp GK;rcases Cz with⟨_,CY⟩ | ⟨A,rfl,HW,C4⟩
   ·simp at CY
   have FA:z+1+4+6+14+8+4<=A:=by
    rcases bw A (z+1+4+6+14+8+4)with d | d
    ·exact absurd rfl (Jp A d 0 _)
    ·exact d
   have G4: ∀q,q<S->At (updC (At (updC H (z+1+4+6+14+4) (some (O.rows 1 [[V.t (ti a.cell)]] false))) DN) (z+1+4+6+14+8+3) (some (O.rows 1 [[V.t (T.int IntKind.i64 (a.to.eval (aM c t) (aM c t)))]] false))) D0 q=H q:=fun q m=>by
    rw[GK q aa (AM q (.inl m)),aq,ac aa,G5 q aa (G9 q (.inl m))]
   have JA:At (updC (At (updC H (z+1+4+6+14+4) (some (O.rows 1 [[V.t (ti a.cell)]] false))) DN) (z+1+4+6+14+8+3) (some (O.rows 1 [[V.t (T.int IntKind.i64 (a.to.eval (aM c t) (aM c t)))]] false))) D0 R=some (.rows 1 (ai cs++[[V.t (ti a.cell)]]) false):=by
    rw[GK R aa (AM R (.inr aa)),aq,ac aa];exact J9
   have CW:(s.set.take (j+1)).filter (ba p)=(s.set.take j).filter (ba p)++[a]:=by
    rw[a_ P,iC];simp[Ff]
   have Ax:((s.set.take (j+1)).filter fun a=> !ba p a)=(s.set.take j).filter fun a=> !ba p a:=by
    rw[a_ P,iC];simp[Ff]
   refine aJ E2 N ?_;refine⟨aa,ak hw,ak N,.ms R 0 (ai cs++[[V.t (ti a.cell)]]).length,.ms A 0 (ai ws++[[V.t (T.int IntKind.i64 (a.to.eval (aM c t) (aM c t)))]]).length,ak FK,?_,?_,?_,av⟩
   ·rw[CW,d6,d6,AL,Fy];refine .inr ⟨R,A,by rw[<- fB];rfl,by rw[<- fB];rfl,aa,av,aa,av,aa,?_,?_⟩
    ·refine aA ?_;rw[JA,<- fB]
    ·refine aA ?_;rw[C4,<- fB]
   ·rw[Ax];exact F7.keep fun q D g=>by simp -dsimp only[go_sem,seval];exact G4 q aa
   ·intro q D g;refine aA ?_;rw[G4 q g];exact Z q D g
  ·have Ff:ba p a=false:=by rw[Bo];simpa using Gj
   have Ac:(bp c.mem (aM c t) ((s.set.take j).filter fun a=> !ba p a)).length=c.mem.length:=iE (aM c t) _ c.mem
   have CW:(s.set.take (j+1)).filter (ba p)=(s.set.take j).filter (ba p):=by
    rw[a_ P,iC];simp[Ff]
   have Ax:((s.set.take (j+1)).filter fun a=> !ba p a)=((s.set.take j).filter fun a=> !ba p a)++[a]:=by
    rw[a_ P,iC];simp[Ff]
   rcases F7 with⟨_,L⟩ | ⟨kM,rfl,m5,m6,m7⟩
   ·exfalso;have d:=bz List.length L;rw[aC,Ac]at d;simp at d;rw[d]at c1;simp at c1;omega
   have B5:=gz (l:=bp c.mem (aM c t) ((s.set.take j).filter fun a=> !ba p a)) (i:=a.cell.toNat) aa;have AE:=dV (bp c.mem (aM c t) ((s.set.take j).filter fun a=> !ba p a)) a.cell.toNat (a.to.eval (aM c t) (aM c t))
   have Fy:bp c.mem (aM c t) (((s.set.take j).filter fun a=> !ba p a)++[a])=(bp c.mem (aM c t) ((s.set.take j).filter fun a=> !ba p a)).set a.cell.toNat (a.to.eval (aM c t) (aM c t)):=by
    unfold bp;rw[iD];rfl
   rw[<- Fy]at AE;have C7:(ai (bp c.mem (aM c t) ((s.set.take j).filter fun a=> !ba p a))).length=c.mem.length:=by rw[aC,Ac]
   have D9:(ai (bp c.mem (aM c t) (((s.set.take j).filter fun a=> !ba p a)++[a]))).length=c.mem.length:=by rw[aC,iE]
   simp -dsimp only[go_sem,seval,E2,N,P,Ak,B4,hy,Gj,C7,c0,c1,m7,B5,AE];refine⟨aa,ak hw,ak N,M,U,ak FK,?_,?_,?_,av⟩
   ·rw[CW];rcases K with d | ⟨e,kv,e0,e0',W,e2,e3,e4,e5,e6,e7⟩
    ·exact .inl d
    ·have Y:e≠kM:=aa
     have u2:kv≠kM:=aa
     exact .inr ⟨e,kv,e0,e0',W,av,e3,av,e5,bg Y e6,bg u2 e7⟩
   ·rw[Ax];exact .inr ⟨kM,by rw[D9,C7],m5,m6,am⟩
   ·intro q D g;have Y:q≠kM:=aa
    refine aw Y ?_;exact Z q D g
 ·have Lu:j=s.set.length:=aa
  subst Lu;rw[be]at F7 K;have Gz:=w_ Bm B4 (aM c t);rcases K with⟨_,_,d,_⟩ | ⟨e,kv,rfl,rfl,W,e2,e3,e4,e5,e6,e7⟩
  ·exact absurd d Gz.ne
  have g1:H B=some (.rows 1 (ai c.at_) false):=by rw[Z B a1 aa];exact a3
  have g2:H C=some (.rows 1 vs false):=by rw[Z C aa aa];exact hB
  have Ag:=fC (c:=c) (t:=t) aa;obtain⟨v,hv,EU⟩:=E.at_ t _ Ag;have OM:=E.le (q:=0) (r:=t) aa aa;have OL:=E.le (q:=t+1) (r:=c.buf.length) aa (ay _);have Rt:=E.mono t aa;obtain⟨Bs,_⟩:=EU.val;obtain⟨rows,B1,Bb,BC,Bh⟩:=EU;have t0:(0:Int)<=(t:Int):=aa
  have t1:(t:Int)<(c.buf.length:Int):=aa
  generalize Dm:(ai (List.map Assign.cell (List.filter (ba p) s.set))).length=I at *
  generalize La:(ai (List.map (fun a=>a.to.eval (aM c t) (aM c t)) (List.filter (ba p) s.set))).length=J at *
  have B7: ∀q,(q<bd t\/bd (t+1)<=q\/ ∀rs fz,h' q≠some (O.rows 2 rs fz))->aK v q:=fun q m=>by
   rcases B1 with⟨rfl,_⟩ | ⟨kb,rfl,d1,d2,d3⟩
   ·intro i n L;cases L
   ·refine c8 ?_ _ _;rintro rfl;rcases m with h | h | h
    ·omega
    ·omega
    ·exact h _ _ d3
  have GB:ax (updC H (z+1+3+11) (some (O.rows 2 [[V.ms e 0 I,V.ms kv 0 J]] false))) (z+1+3+12) v 2 rows:=by
   rcases B1 with⟨rfl,d⟩ | ⟨kb,rfl,d1,d2,d3⟩
   ·exact .inl ⟨rfl,d⟩
   ·exact .inr ⟨kb,rfl,aa,by rw[aq,ac aa,Z kb aa aa];exact d3⟩
  have DY:=GB.rowsS;refine ra B4 N FK g2 hv Bs t0 t1 DY ?_;have Aa:(rows.all fun r=>decide (r.length=2))=true:=al BC
  obtain⟨b1,b2,_⟩:=hc.buf t _ Ag;refine ce GB (ay _) (by rw[Bb];omega) aG rfl Aa ?_;intro v2 hp hO Bn A8;rcases hO with⟨_,CY⟩ | ⟨A,rfl,HW,C4⟩
  ·simp at CY
  have FA:z+1+3+12<=A:=by
   rcases bw A (z+1+3+12)with d | d
   ·exact absurd rfl (Bn A d 0 _)
   ·exact d
  have Ev: ∀q,q<z->aK v q->At (updC H (z+1+3+11) (some (O.rows 2 [[V.ms e 0 I,V.ms kv 0 J]] false))) hp q=H q:=fun q D g=>by
   rw[A8 q aa g,aq,ac aa]
  have gB:=Ev C aa (B7 C (.inl aa));rw[g2]at gB;have gA:=Ev B aa (B7 B (.inl aa));rw[g1]at gA;have M9:B≠C:=aa
  have Hm:C≠B:=aa
  have B5:=gz (l:=c.at_) (i:=t) aa;have AE:=dV c.at_ t s.to;have Ad:(t:Int)<(c.at_.length:Int):=aa
  have k6: ¬s.kind=6:=aa
  simp -dsimp only[go_sem,seval,B4,N,FK,gB,hv,t0,t1,M9,gA,B5,Ad,AE,aC];have hC:eo p c t s=⟨bp c.mem (aM c t) (s.set.filter fun a=> !ba p a),c.at_.set t s.to,c.buf.set t (aF c t++[mF p (aM c t) s.set])⟩:=by simp only[eo,ah B4,ac k6]
  have CJ: ∀(o o':Option O) q,q≠B->q≠C->updC (updC (At (updC H (z+1+3+11) (some (O.rows 2 [[V.ms e 0 I,V.ms kv 0 J]] false))) hp) C o) B o' q=At (updC H (z+1+3+11) (some (O.rows 2 [[V.ms e 0 I,V.ms kv 0 J]] false))) hp q:=fun o o' q D g=>by
   rw[aq,ac D,aq,ac g]
  have AQ: ∀(o o':Option O) q,x1<=q->q<S->q≠B->q≠C->aK v q->updC (updC (At (updC H (z+1+3+11) (some (O.rows 2 [[V.ms e 0 I,V.ms kv 0 J]] false))) hp) C o) B o' q=h' q:=fun o o' q q0 D g q3 q4=>by
   rw[CJ o o' q g q3,Ev q aa q4,Z q q0 D]
  have fM: ∀o o',toT (updC (updC (At (updC H (z+1+3+11) (some (O.rows 2 [[V.ms e 0 I,V.ms kv 0 J]] false))) hp) C o) B o') 1000 vM=some (ints (bp c.mem (aM c t) (s.set.filter fun a=> !ba p a))):=fun o o'=>
   (F7.keep fun q D g=>by rw[CJ o o' q aa aa,Ev q aa (B7 q (.inl aa))]).tree 999
  have f3:List.take c.at_.length (ai (c.at_.set t s.to))=ai (c.at_.set t s.to):=ec (by rw[aC,cL]);have f5: ∀v,(vs.set t [v]).length=c.buf.length:=fun v=>by rw[cL];exact E.len
  have f6: ∀v,List.take c.buf.length (vs.set t [v])=vs.set t [v]:=fun v=>ec (f5 v).symm
  have f7: ∀o o':Option O,(vs.set t [V.ms A 0 (rows++[[V.ms e 0 I,V.ms kv 0 J]]).length]).mapM (fun row=>row.mapM (toT (updC (updC (At (updC H (z+1+3+11) (some (O.rows 2 [[V.ms e 0 I,V.ms kv 0 J]] false))) hp) C o) B o') 999))=some ((c.buf.set t (aF c t++[mF p (aM c t) s.set])).map fun b=>[.sl (b.map Entry.enc)]):=by
   intro o o';refine nX _ _ (by rw[f5,cL]) fun j b X=> ?_
   rw[cx]at X
   by_cases hj:t=j
   ·subst hj;rw[ah rfl,ah aa]at X;simp only[zA]at X;subst X;refine⟨_,by rw[cx,ah rfl,ah (by have:=E.len;omega)],?_⟩;refine h_.tree (lo:=bd t) (hi:=A+1) ⟨rows++[[V.ms e 0 I,V.ms kv 0 J]],.inr ⟨A,rfl,aa,aa,by rw[CJ o o' A aa aa];exact C4⟩,by rw[zM,zM,Bb];rfl,?_,fun q e0 m=> ?_⟩ 997
    ·intro r Q;rcases cz.1 Q with Q | Q
     ·exact BC r Q
     ·rw[bB]at Q;rw[Q];rfl
    ·rcases bw q (aF c t).length with d | d
     ·rw[bU d]at m;obtain⟨r,Q,hE⟩:=Bh q e0 m;refine⟨r,by rw[bU aa];exact Q,hE.keep (ay _) aa fun w w1 w2 w3=> ?_⟩;exact AQ o o' w aa aa aa aa (B7 w (.inr (.inr w3)))
     ·have Cc:q=(aF c t).length:=by
       have:=(zH.1 m).1;rw[zM,gp]at this;omega
      subst Cc;rw[eJ (ay _),dI]at m;simp only[dv,zA]at m;subst m;refine⟨[V.ms e 0 I,V.ms kv 0 J],by rw[eJ aa,Bb,dI];rfl,?_⟩
      have Y: ∀q,S<=q->q<z->updC (updC (At (updC H (z+1+3+11) (some (O.rows 2 [[V.ms e 0 I,V.ms kv 0 J]] false))) hp) C o) B o' q=H q:=fun q D g=>by
       rw[CJ o o' q aa aa,Ev q g (B7 q (.inr (.inl aa)))]
      rw[aC]at Dm La;refine⟨e,kv,by rw[<- Dm,<- La];rfl,aa,aa,aa,aa,by rw[Y e W e2];exact e6,by rw[Y kv e3 e4];exact e7⟩
   ·rw[ac hj]at X;obtain⟨u,hu,Hn⟩:=E.at_ j b X;have AN:=(zH.1 X).1;refine⟨u,by rw[cx,ac hj];exact hu,?_⟩;refine(Hn.keep (ay _) fun q D g=> ?_).tree 997;have Y:=E.le (q:=0) (r:=j) aa aa;have u2:=E.le (q:=j+1) (r:=c.buf.length) aa (ay _);refine AQ o o' q aa aa aa aa (B7 q ?_);rcases bw j t with d | d
    ·have:=E.le (q:=j+1) (r:=t) aa aa;exact .inl aa
    ·have:=E.le (q:=t+1) (r:=j) aa aa;exact .inr (.inl aa)
  rw[hC];simp -dsimp only[go_sem,seval,Hm,fM,f3,f5,f6,f7,aC,cL,gY,ay]
theorem kam (p:Prog) (d:aN p=true) (k:Int) (c:Config) (a:IsB p c) (t:Nat) (x:Thread) (g:p.threads[t]? =some x) (i:Nat) (s:Step) (f:x.steps[i]? =some s) (y:Choice) (h:y=⟨t,i,0⟩):
 Den Γ G 192 [stV p k c,(.agg [.t (ti (y).thread),.t (ti (y).step),.t (ti (y).cell)]),.t (ints (aM c t))]=some (.agg [.t (ints (eo p c t s).mem),.t (ints (eo p c t s).at_),.t (.sl ((eo p c t s).buf.map (fun b=>[.sl (b.map Entry.enc)])))]):=by
 by_cases e:s.kind=3
 ·exact kak p d k c a t x g i s f y h e
 ·exact kal p d k c a t x g i s f y h e
def stT (p:Prog) (k:Int) (c:Config):List T:=[ints c.mem,ints c.at_,.sl (c.buf.map fun b=>[.sl (b.map Entry.enc)]),.sl (p.cells.map Cell.enc),.sl (p.modules.map Contract.enc),.sl (p.locks.map Lock.enc),.sl (p.threads.map Thread.enc),ti k]
theorem Sb (p:Prog) (k:Int) (c:Config) (t:Nat):Den Γ G 190 [stV p k c,vi t]=some (.t (.fn 200 [] [.ip (stT p k c),.ip [ti t]])):=by
 unfold stV stT
 exact aD (q:=am)
 done
theorem Nd (p:Prog) (Z:aN p=true) (k:Int) (c:Config) (N:IsB p c) (t:Nat) (ht:t<p.threads.length) (E:Nat) (Inv:Nat->ae->Nat->Prop) (Stop:ae->Nat->Prop)
 (d: ∀i H n m,Inv i H n->n<=m->Inv i H m) (K: ∀H n m,Stop H n->n<=m->Stop H m)
 (L: ∀i e H n,(aF c t)[i]? =some e->Inv i H n->if dm k (aF c t) i e then ∃cont h' a,DenY Γ G E [vi i,.agg [.t (ints e.cells),.t (ints e.values)]] H n=some (vb cont,h',a)/\(if cont then Inv (i+1) h' a else Stop h' a)else Inv (i+1) H n)
 (H:ae) (n:Nat) (W:Inv 0 H n):
 ∃r h' a,DenR Γ G 200 [.yl E,.t (.ip (stT p k c)),.t (.ip [ti t])] H n=some (r,h',a)/\(Inv (aF c t).length h' a\/Stop h' a):=by
 obtain⟨⟨m1,m2,m3,m4⟩,_⟩:=cS (cT Z).1;have l3:=N.lb;have J:=fC (c:=c) (t:=t) aa;obtain⟨b1,b2,_⟩:=N.buf t _ J;unfold stT
 refine bO (q:=aw J ?_);refine aS 1099511595104 (aF c t).length (fun i f h z=>(f 15).v=vi i/\Inv i h z) rfl ⟨am,d _ _ _ _ W av⟩ ?_;rintro i f u B z bs hi ⟨b,C⟩;have v:=aB i aa;refine aw b ?_;refine aR b ?_ ?_<;>intro h
 ·obtain⟨e,j,U⟩:=au ‹i<(aF c t).length›;have S:=b2 e U;have BL:=gX S;have q:=L i e B z j C
  have M:dm k (aF c t) i e=true-> ∀m,z<=m-> ∃r h' a,DenY Γ G E [vi i,.agg [.t (ints e.cells),.t (ints e.values)]] B m=some (r,h',a)/\ ∃cont:Bool,r=vb cont/\(if cont then Inv (i+1) h' a else Stop h' a):=fun D m hm=>by
   have:=L i e B m j (d _ _ _ _ C hm);rw[ah D]at this;obtain⟨cont,h',a,X,Y⟩:=this;exact⟨_,h',a,X,cont,rfl,Y⟩
  have I:((((aF c t).map Entry.enc)).all fun x=>decide (x.length=2))=true:=by simp[Entry.enc]
  have y:=Yb ((aF c t).take i) e (by rw[bJ];omega) aa (fun o D=>by
   have:=gX (b2 o (lB D));omega)
  rw[wa]at y;have P:(0:Int)<=(i:Int):=aa
  have Q:(i:Int)<=((aF c t).length:Int):=aa
  have R:((i:Int)-0).toNat=i:=aa
  by_cases A:i=0
  ·subst A;refine a7 b j @Entry.enc.eq_1 ?_;refine bf (M (by simp[dm]) _ aa) ?_;rintro r h' a ⟨cont,rfl,l⟩;cases cont
   ·refine aw b ?_;exact .inr (K _ _ _ l aa)
   ·refine aw b ?_;exact⟨aa,ak v,d _ _ _ _ l av⟩
  ·have w:(i:Int)>0:=aa
   by_cases g:k=2
   ·cases s:jh ((aF c t).take i) e
    ·refine nK b j @Entry.enc.eq_1 w g y s P Q R I ?_;refine bf (M (by simp[dm,g,s]) _ aa) ?_;rintro r h' a ⟨cont,rfl,l⟩;cases cont
     ·refine aw b ?_;exact .inr (K _ _ _ l aa)
     ·refine aw b ?_;exact⟨aa,ak v,d _ _ _ _ l av⟩
    ·refine nK b j @Entry.enc.eq_1 w g y s P Q R I ?_;rw[ac (by simp[dm,g,s,A])]at q;exact⟨aa,ak v,d _ _ _ _ q av⟩
   ·refine bT b j @Entry.enc.eq_1 w g ?_;rw[ac (by simp[dm,g,A])]at q;exact⟨aa,ak v,d _ _ _ _ q av⟩
 ·have V:i=(aF c t).length:=aa
  subst V;exact .inl (d _ _ _ _ C av)
theorem Ng (p:Prog) (r:aN p=true) (e:Entry) (a:Proper p e):Den Γ G 205 [(zP p),.agg [.t (ints e.cells),.t (ints e.values)]]=some (vb true):=by
 obtain⟨⟨m1,m2,m3,m4⟩,_⟩:=cS (cT r).1;have Z:=gX a;have hv:=a.len
 have U: ¬(e.cells.length:Int)=0:=by
  have:e.cells.length≠0:=fun h=>a.ne (fu h)
  omega
 have V: ¬(e.cells.length:Int)>(p.cells.length:Int):=aa
 have W:(e.values.length:Int)=(e.cells.length:Int):=aa
 refine aD (q:=a7 U V W ?_);refine a8 1237940039285380266309189872 e.cells.length (fun i f=>(f 33).v=vi i) rfl rfl am ?_;rintro i f u kk bb hi c;have P:=aB i aa;refine aw c ?_;refine aR c ?_ ?_<;>intro h<;>try exact⟨⟩
 ·obtain⟨n,d,X⟩:=au ‹i<e.cells.length›;obtain⟨v,k,_⟩:=au (show i<e.values.length from aa);obtain⟨K,y,g,O,M,v0,v1⟩:=a.cell i n v d k;have Y:=(zH.1 g).1;obtain⟨w1,w2,_⟩:=qm r (zL g);have t:=so (w:=y.w) aa;have A: ¬y.w<0:=aa
  have E: ¬n<0:=aa
  have H: ¬n>=(p.cells.length:Int):=aa
  have I: ¬v<0:=aa
  have J: ¬v>=2^y.w.toNat:=aa
  have Q:(0:Int)<=(i:Int):=aa
  have R:(i:Int)<=(e.cells.length:Int):=aa
  have S:((i:Int)-0).toNat=i:=aa
  have l:=xg (e.cells.take i) n (by rw[bJ];omega)
  have D:(e.cells.take i).contains n=false:=by
   rw[Bool.eq_false_iff];intro L;have N:n∈e.cells.take i:=al L
   obtain⟨j,b⟩:=eH N;rw[zO]at b;split at b
   ·rename_i z;have o:=(zH.1 b)
    have q:=(zH.1 d)
    exact qt.1 (s9.1 a.nd) j i o.1 q.1 z (by rw[o.2,q.2])
   ·simp at b
  rw[D]at l;have s:((e.cells.map fun n=>[ti n]).all fun x=>decide (x.length=1))=true:=af
  have C:(e.cells.map fun n=>[ti n]).take i=(e.cells.take i).map fun n=>[ti n]:=by rw[wa]
  have B:((y.ghost==decide ((i:Int)>0)) != true)=false:=by
   rw[M]
   by_cases m:0<i
   ·have:(i:Int)>0:=aa
    simp[m]
   ·have : ¬(i:Int)>0:=aa
    simp[m]
  simp -dsimp only[go_sem,seval,c,d,E,H,Q,R,S,s,C,l,K,g,O,B,k,I,t,A,J];exact⟨aa,ak P⟩
theorem Y5 (p:Prog) (s:aN p=true) (c:Config) (k:IsB p c):Den Γ G 196 [(.agg [.t (.sl ((p).cells.map (Cell.enc))),.t (.sl ((p).modules.map (Contract.enc))),.t (.sl ((p).locks.map (Lock.enc))),.t (.sl ((p).threads.map (Thread.enc)))]),(.agg [.t (ints (c).mem),.t (ints (c).at_),.t (.sl ((c).buf.map (fun b=>[.sl (b.map Entry.enc)])))])]=some (vb true):=by
 obtain⟨⟨m1,m2,m3,m4⟩,_⟩:=cS (cT s).1;have l1:=k.lm;have l2:=k.la;have l3:=k.lb;have U:(c.mem.length:Int)=(p.cells.length:Int):=aa
 have V:(c.at_.length:Int)=(p.threads.length:Int):=aa
 have W:(c.buf.length:Int)=(p.threads.length:Int):=aa
 refine aD (q:=a7 U V W ?_);refine a8 576459652791795824 c.mem.length (fun i f=>(f 40).v=vi i) rfl rfl am ?_;rintro i f u Y bb hi q;have n:=aB i aa;refine aw q ?_;refine aR q ?_ ?_<;>intro h
 ·obtain⟨v,J,_⟩:=au (show i<c.mem.length from aa);obtain⟨x,l,I⟩:=au (show i<p.cells.length from aa);obtain⟨w1,w2,_⟩:=qm s I;have O:=so (w:=x.w) aa;have Q: ¬x.w<0:=aa
  obtain⟨v0,v1⟩:=k.mem i v x J l;have C: ¬v<0:=aa
  have R: ¬v>=2^x.w.toNat:=aa
  refine dG q J l O Q C R ?_;exact⟨aa,ak n⟩
 ·refine a8 2658455991569831741195928102133304208 c.at_.length (fun i f=>(f 62).v=vi i) rfl rfl am ?_;clear q n;rintro t f u Y bb hi d;have n:=aB t aa;refine aw d ?_;refine aR d ?_ ?_<;>intro h<;>try exact⟨⟩
  ·obtain⟨a,r,_⟩:=au (show t<c.at_.length from aa);obtain⟨x,l,I⟩:=au (show t<p.threads.length from aa);obtain⟨a1,a2,C⟩:=k.at_ t a x r l;have y:=fC (c:=c) (t:=t) aa;obtain⟨b1,b2,S⟩:=k.buf t _ y;have K: ¬a< -1:=aa
   have L: ¬a>=x.points:=aa
   have M: ¬((aF c t).length:Int)>3:=aa
   by_cases o:a= -1
   ·have P:aF c t=[]:=S (by rw[r,o]);have N:=C o;have Z: ¬((aF c t).length:Int)>0:=by rw[P];simp
    subst o;refine ra d r l y K L M N Z ?_;refine a8 1326631847355648459089541812115736592 (aF c t).length (fun j m=>(m 111).v=vi j) rfl rfl am ?_;rintro j m u' H D X g;have z:=aB j aa;refine aw g ?_;refine dH g d ?_ ?_<;>intro h
    ·obtain⟨e,E,A⟩:=au ‹j<(aF c t).length›;have B:=Ng p s e (b2 e A);refine bT g d E @Entry.enc.eq_1 B ?_;exact⟨aa,ak z⟩
    ·exact⟨aa,bg n d⟩
   ·refine qY d r l y K L M o ?_;refine a8 1326631847355648459089541812115736592 (aF c t).length (fun j m=>(m 111).v=vi j) rfl rfl am ?_;rintro j m u' H D X g;have z:=aB j aa;refine aw g ?_;refine dH g d ?_ ?_<;>intro h
    ·obtain⟨e,E,A⟩:=au ‹j<(aF c t).length›;have B:=Ng p s e (b2 e A);refine bT g d E @Entry.enc.eq_1 B ?_;exact⟨aa,ak z⟩
    ·exact⟨aa,bg n d⟩
theorem Yg (p:Prog) (b:p.sane):Den Γ G 195 [(zP p)]=some (vb (aN p)):=by
 refine aD (q:=?_)
 have a:=tD p b;refine aw a ?_;rfl
theorem Sc (p:Prog) (h:p.sane) (e:aN p=true) (c:Config) (f:IsB p c) (k:Int) (g:k=1\/k=2):Den Γ G 187 [(zP p),vi k,(.agg [.t (ints (c).mem),.t (ints (c).at_),.t (.sl ((c).buf.map (fun b=>[.sl (b.map Entry.enc)])))])]=some (.tup [stV p k c,vb true]):=by
 unfold stV
 refine aD (q:=?_)
 have a:=Yg p h;rw[e]at a;have d:=Y5 p e c f;rcases g with rfl | rfl
 ·exact bg a d
 ·exact bg a d
def uN (c:Config):Bool:=c.buf.all fun b=>b.isEmpty
noncomputable def envC:(Nat->Slot)->Nat->V:=(Classical.choice (⟨⟨fun sl t=>(sl t).v,rfl⟩⟩:Nonempty {g:(Nat->Slot)->Nat->V// g=fun sl t=>(sl t).v})).1
theorem SP:envC=fun sl t=>(sl t).v:=(Classical.choice (⟨⟨fun sl t=>(sl t).v,rfl⟩⟩:Nonempty {g:(Nat->Slot)->Nat->V// g=fun sl t=>(sl t).v})).2
@[go_sem ↓]theorem zBO (sl:Nat->Slot) (t:Nat):envC sl t=(sl t).v:=by rw[SP]
@[go_sem ↓]theorem zzA (f:Nat->V) (i j:Nat) (v:V):updC f i v j=pk (j==i) v (f j) ⟨0⟩:=by rw[cq,qD];rfl
def rN (env:Nat->V) (a:List Nat) (vs:List V):Nat->Slot:=fun t=>⟨pU env a vs t,none,none⟩
noncomputable def rndS:(Nat->V)->List Nat->List V->Nat->Slot:=(Classical.choice (⟨⟨rN,rfl⟩⟩:Nonempty {g:(Nat->V)->List Nat->List V->Nat->Slot// g=rN})).1
theorem yT:rndS=rN:=(Classical.choice (⟨⟨rN,rfl⟩⟩:Nonempty {g:(Nat->V)->List Nat->List V->Nat->Slot// g=rN})).2
@[go_sem ↓]theorem zzE (env:Nat->V) (t:Nat):(rndS env [] [] t).v=env t:=by rw[yT];rfl
@[go_sem ↓]theorem zyg (env:Nat->V) (p:Nat) (a:List Nat) (v:V) (vs:List V) (t:Nat):(rndS env (p::a) (v::vs) t).v=(rndS (updC env p v) a vs t).v:=by rw[yT,cq];rfl
section
variable {Γ:Nat->Option F} {G:Nat->List T}
def wR (o:Option (V×ae×Nat)) (k:Nat) (K:Ex->ae->Nat->Prop) (_:WK K):Prop:=
 ∃r h' a,o=some (r,h',a)/\ ∃env d c b e,h' k=some (.loop env d c b)/\b.ends=some e/\K e (updC h' k (some .dead)) a
@[go_sem ↓]theorem zAZ (x:Opd) (p:List Nat) (k:C) (Q:Ex->M->Prop) (sl:Nat->Slot) (u:Nat->Bool) (h:ae) (n b:Nat) (w:W3 (.rangeF x p k) Q ⟨sl,u,h,n,b⟩):
 wC Γ G (.rangeF x p k) Q ⟨sl,u,h,n,b⟩ w=fnK (aE G sl x) (fun g a c=>wR (DenR Γ G g (a++[V.yl n]++c) (updC h n (some (.loop (envC sl) p k .ready))) (n+1)) n (fun e h' i=>Q e ⟨sl,u,h',i,b⟩) ⟨0⟩) ⟨0⟩:=by
 unfold wC;rw[fp,cq,SP];simp only[wpC,bQ]
 cases aE G sl x with
 | none=>rfl
 | some v=>
   simp only[zD,fnK]
   cases cG v with
   | none=>rfl
   | some q=>
     obtain⟨g,a,c⟩:=q;simp only[wR,cq];apply propext;constructor
     ·rintro⟨r,h',i,j,_,env',f,d,s,e,o,m,l⟩;exact⟨r,h',i,jy.2 j,env',f,d,s,e,o,m,l⟩
     ·rintro⟨r,h',i,j,env',f,d,s,e,o,m,l⟩;exact⟨r,h',i,jy.1 j,zm (jy.1 j),env',f,d,s,e,o,m,l⟩
theorem yS {o:Option (V×ae×Nat)} {k:Nat} {K:Ex->ae->Nat->Prop} {w:WK K} {P:Ex->ae->Nat->Prop}
 (h: ∃r h' a,o=some (r,h',a)/\ ∃env d c b e,h' k=some (.loop env d c b)/\b.ends=some e/\P e h' a) (j: ∀e h' a,P e h' a->K e (updC h' k (some .dead)) a):wR o k K w:=by
 obtain⟨r,h',a,f,env,d,c,b,e,g,i,hp⟩:=h;exact⟨r,h',a,f,env,d,c,b,e,g,i,j e h' a hp⟩
def FiY (P:Ex->ae->Nat->Prop) (e:Ex) (m:M):Prop:=P e m.heap m.nxt
@[go_sem ↓]theorem zCV (P:Ex->ae->Nat->Prop) (e:Ex) (sl:Nat->Slot) (u:Nat->Bool) (h:ae) (n b:Nat):FiY P e ⟨sl,u,h,n,b⟩=SpN (P e h n) ⟨0⟩:=rfl
def rV (o:Option O) (K:(Nat->V)->List Nat->C->Prop) (_:WK K):Prop:=match o with
 | some (.loop env ps bd .enter)=>K env ps bd
 | _=>False
@[go_sem]theorem zy1 (env:Nat->V) (b:List Nat) (a:C) (K:(Nat->V)->List Nat->C->Prop) (w:WK K):rV (some (.loop env b a .enter)) K w=K env b a:=rfl
variable (Γ G) in
def FiA (k:Nat) (cb:C) (Q:Ex->M->Prop):Ex->M->Prop
 | .normal,m=>rV (m.heap k) (fun env b a=>wC Γ G cb Q ⟨m.sl,m.used,updC m.heap k (some (.loop env b a .busy)),m.nxt,m.bas⟩ ⟨0⟩) ⟨0⟩
 | _,_=>False
@[go_sem ↓]theorem zCW (k:Nat) (cb:C) (Q:Ex->M->Prop) (sl:Nat->Slot) (u:Nat->Bool) (h:ae) (n b:Nat):
 FiA Γ G k cb Q .normal ⟨sl,u,h,n,b⟩=rV (h k) (fun env c a=>wC Γ G cb Q ⟨sl,u,updC h k (some (.loop env c a .busy)),n,b⟩ ⟨0⟩) ⟨0⟩:=rfl
theorem sx {k:Nat} {vs:List V} {h:ae} {n:Nat} {env:Nat->V} {d:List Nat} {g cb:C} {P:Ex->ae->Nat->Prop} (y:h k=some (.loop env d (.round g cb) .ready)) (z:vs.length=d.length)
 (x: ∀e h' i,P e h' i-> ∃env' b a,h' k=some (.loop env' b a .busy))
 (m:wC Γ G g (qOf Γ G [] (FiA Γ G k cb (qOf Γ G [] (FiY P)))) ⟨rndS env d vs,fun _=>false,updC h k (some (.loop env d (.round g cb) .enter)),n,n⟩ ⟨0⟩):
 ∃e h' i,P e h' i/\ ∃env' b a,h' k=some (.loop env' b a .busy)/\DenY Γ G k vs h n=some (.t (.bool (decide (e=Ex.normal))),updC h' k (some (.loop env' b a e.toL)),i):=by
 unfold wC at m;rw[fp,eP,yT,cq]at m;obtain⟨u,c,v,l⟩:=jO m
 cases u with
 | exit id=>exact l.elim
 | ret=>exact l.elim
 | normal=>
   have f:rV (c.heap k) (fun env d t=>wC Γ G cb (i_ Γ G [] (FiY P)) ⟨c.sl,c.used,updC c.heap k (some (.loop env d t .busy)),c.nxt,c.bas⟩ ⟨0⟩) ⟨0⟩:=by
    exact l
   unfold rV at f;split at f
   ·rename_i env1 p j s;unfold wC at f;rw[fp,cq]at f;obtain⟨e,o,w,r⟩:=jO f;obtain⟨env',b,a,q⟩:=x _ _ _ r;refine⟨e,o.heap,o.nxt,r,env',b,a,q,xB.2 ⟨env,d,g,cb,c.st,env1,p,j,env',b,a,e,o.st,y,z,v,s,w,q,rfl,by rw[cq];rfl,rfl⟩⟩
   ·exact f.elim
end
def lN (h:ae) (n a:Nat) (l:List Choice):Prop:= ∃v,h a=some (.rows 1 [[v]] false)/\ax h n v 3 (bj l)
theorem kcR {c d f n t i:Nat} {h:ae} {env:Nat->V} {l:List Choice} {e:Entry} (I:h c=some (.loop env [64,65] qN .ready)) (Y:env 9= .mp d 0 0) (DL:env 10= .mp f 0 0)
 (D:h f=some (.rows 1 [[vi t]] false)) (hL:lN h n d l) (EK:c<n) (QW:d<n) (QR:f<n) (P8:c≠d) (P7:c≠f) (QY:d≠f) (Az:e.cells≠[]) (FZ:l.length<2^20):
 ∃h' o,DenY Γ G c [vi i,.agg [.t (ints e.cells),.t (ints e.values)]] h n=some (vb true,h',o)/\h' c=some (.loop env [64,65] qN .ready)/\h' f=some (.rows 1 [[vi t]] false)/\lN h' o d (l++[⟨t,-1,ct e⟩])/\n<=o/\
  (∀j,j<n->j≠c->j≠d->(∀W rs s,h j≠some (.rows W rs s))->h' j=h j):=by
 have:=sx (Γ:=Γ) (G:=G) (vs:=[vi i,.agg [.t (ints e.cells),.t (ints e.values)]]) (n:=n) (P:=fun C h' o=>C= .normal/\h' c=some (.loop env [64,65] qN .busy)/\h' f=some (.rows 1 [[vi t]] false)/\lN h' o d (l++[⟨t,-1,ct e⟩])/\n<=o/\
  (∀j,j<n->j≠c->j≠d->(∀W rs s,h j≠some (.rows W rs s))->h' j=h j)) I rfl (fun C h' o hP=>⟨_,_,_,hP.2.1⟩) (by
  obtain⟨v,K,J⟩:=hL;have n1:c≠n+0:=aa
  have n2:d≠n+0:=aa
  have n3:f≠n+0:=aa
  have S:d≠c:=aa
  have n5:f≠c:=aa
  have CM:e.cells[0]? =some (ct e):=by
   cases hc:e.cells with
   | nil=>exact absurd hc Az
   | cons a r=>simp[ct,hc]
  have n6:n+0≠c:=aa
  have n7:n+0≠d:=aa
  have n8:n+0≠f:=aa
  have Bs:=J.valOf
  have X: ∀(H:ae) q,n<=q->(∀j,j<n->j≠c->H j=h j)->ax H q v 3 (bj l):=fun H q hq hH=>by
   rcases J with g | ⟨kv,g,B,m⟩
   ·exact .inl g
   ·refine .inr ⟨kv,g,aa,?_⟩;rw[hH kv B (by rintro rfl;rw[I]at m;simp at m)];exact m
  simp -dsimp only[go_sem,seval,Y,DL,D,K,n1,n2,n3,S,n5,n6,n7,n8,CM,Bs]
  have AD: ∀(o1 o2 o3 o4 o5:Option O) (a b:Nat),rowsS (updC (updC (updC (updC (updC h c o1) (n+0) o2) (n+0) o3) c o4) (n+a+b) o5) v=some (bj l):=fun o1 o2 o3 o4 o5 a b=>
   (X _ (n+a+b) aa fun j E u=>by
     have k:j≠n+0:=aa
     have y:j≠n+a+b:=aa
     rw[aq,ac y,aq,ac u,aq,ac k,aq,ac k,aq,ac u]).rowsS
  simp -dsimp only[go_sem,seval,AD]
  refine ce (x:=n+2+8) (X _ _ aa fun j E u=>by
   have k:j≠n+0:=aa
   have y:j≠n+2+7:=aa
   rw[aq,ac y,aq,ac u,aq,ac k,aq,ac k,aq,ac u]) (ay _) (by rw[je];omega) aG rfl (pd _) ?_
  intro v2 hp Z Bn z
  have A: ∀j,(∀rs s,h j≠some (.rows 3 rs s))->j<n->aK v j:=fun j E Kq=>by
   rcases J with⟨rfl,_⟩ | ⟨kv,rfl,B,m⟩
   ·intro i n h0;cases h0
   ·refine c8 ?_ _ _;rintro rfl;exact E _ _ m
  have O2:=Z;rcases Z with⟨_,CY⟩ | ⟨p,rfl,HW,C4⟩
  ·simp at CY
  have FA:n+2+8<=p:=by
   rcases bw p (n+2+8)with g | g
   ·exact absurd rfl (Bn p g 0 _)
   ·exact g
  have y0:=z c aa (A c (by rw[I];simp) EK);have y1:=z d aa (A d (by rw[K];simp) QW);have y2:=z f aa (A f (by rw[D];simp) QR);have n9:d≠n+2+7:=aa
  have Q:c≠n+2+7:=aa
  have R:f≠n+2+7:=aa
  simp only[aq,n1,n2,n3,S,n5,n9,Q,R,aX,aU,K,D]at y0 y1 y2;simp -dsimp only[go_sem,seval,Y,y1];refine⟨rfl,?_,?_,⟨.ms p 0 (bj l++[[vi t,vi (-1),vi (ct e)]]).length,?_,.inr ⟨p,?_,?_,?_⟩⟩,?_,?_⟩
  ·simp -dsimp only[go_sem,seval,S.symm,y0];rfl
  ·simp -dsimp only[go_sem,seval,QY.symm,y2]
  ·simp -dsimp only[go_sem,seval]
  ·rw[mw]
  ·simp -dsimp only[go_sem,seval];omega
  ·have k:p≠d:=aa
   simp -dsimp only[go_sem,seval,k];rw[C4,mw]
  ·simp -dsimp only[go_sem,seval];omega
  ·intro j L w M N;have k:j≠n+0:=aa
   have y:j≠n+2+7:=aa
   simp -dsimp only[go_sem,seval,M]
   rw[z j aa (A j (fun rs s=>N _ _ _) L),aq,ac y,aq,ac w,aq,ac k,aq,ac k,aq,ac w])
 obtain⟨C,h',o,⟨rfl,q1,q2,q3,q4,q5⟩,env',ps',bd',U,q7⟩:=this;rw[q1]at U;simp only[zA,O.loop.injEq]at U;obtain⟨rfl,rfl,rfl,_⟩:=U;refine⟨_,o,q7,by rw[aq,ah rfl];rfl,by rw[aq,ac P7.symm];exact q2,?_,q4,fun j L w M N=>by rw[aq,ac w];exact q5 j L w M N⟩;obtain⟨v,v1,v2⟩:=q3;refine⟨v,by rw[aq,ac P8.symm];exact v1,?_⟩;rcases v2 with g | ⟨p,g,B,m⟩
 ·exact .inl g
 ·exact .inr ⟨p,g,B,by rw[aq,ac (by rintro rfl;rw[q1]at m;simp at m)];exact m⟩
end Rg
end
