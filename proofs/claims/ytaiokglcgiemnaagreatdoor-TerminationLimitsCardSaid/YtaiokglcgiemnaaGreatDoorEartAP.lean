/- Part of the proof of laws of relyguardlaw36. No condition. -/
import Derived.Test.YtaiokglcgiemnaaGreatDoorEartAO
import Derived.Test.YtaiokglcgiemnaaGreatDoorEartAN
import Derived.Lib.ItoaLen
import Derived.Test.YtaiokglcgiemnaaGreatDoorEartAL
set_option linter.unusedSimpArgs false
set_option linter.unusedVariables false
set_option linter.defProp false
section
namespace Rg
open Go
theorem Ll {p:Prog} {c:Config} {t:Nat} {x:Thread} {n:Nat} {y:Choice}:y∈fC p c t x n<-> ∃i s,i<n/\x.steps[i]? =some s/\dg p c t s=true/\y=⟨t,i,0⟩:=by
 unfold fC;rw[pU];constructor
 ·rintro⟨⟨s,i⟩,a,h⟩;rw[j8]at a;simp only at a;rw[zO]at a;split at a
  ·rename_i hi;split at h
   ·rename_i b;simp only[zA]at h;exact⟨i,s,hi,a,b,h.symm⟩
   ·simp at h
  ·simp at a
 ·rintro⟨i,s,hi,d,b,rfl⟩;refine⟨(s,i),?_,by simp[b]⟩;rw[j8];simp only;rw[zO,ah hi];exact d
theorem MJ {k:Int} {t:Nat} {b:List Entry} {n:Nat} {y:Choice}:y∈iK k t b n<-> ∃i e,i<n/\b[i]? =some e/\di k b i e=true/\y=⟨t,-1,cg e⟩:=by
 unfold iK;rw[pU];constructor
 ·rintro⟨⟨e,i⟩,a,h⟩;rw[j8]at a;simp only at a;rw[zO]at a;split at a
  ·rename_i hi;split at h
   ·rename_i c;simp only[zA]at h;exact⟨i,e,hi,a,c,h.symm⟩
   ·simp at h
  ·simp at a
 ·rintro⟨i,e,hi,d,c,rfl⟩;refine⟨(e,i),?_,by simp[c]⟩;rw[j8];simp only;rw[zO,ah hi];exact d
theorem G' {p:Prog} {k:Int} {c:Config} {y:Choice}:y∈lD p k c<->
 (∃(t:Nat) (x:Thread) (i:Nat) (s:Step),p.threads[t]? =some x/\x.steps[i]? =some s/\dg p c t s=true/\y=⟨t,i,0⟩)\/
 (∃(t i:Nat) (e:Entry),t<p.threads.length/\(aF c t)[i]? =some e/\di k (aF c t) i e=true/\y=⟨t,-1,cg e⟩):=by
 unfold lD eF;rw[de];constructor
 ·rintro⟨⟨x,t⟩,d,h⟩;rw[j8,bg]at d;rcases cx.1 h with h | h
  ·obtain⟨i,s,_,a,b,rfl⟩:=Ll.1 h;exact .inl ⟨t,x,i,s,d,a,b,rfl⟩
  ·obtain⟨i,e,_,a,b,rfl⟩:=MJ.1 h;exact .inr ⟨t,i,e,(zH.1 d).1,a,b,rfl⟩
 ·rintro(⟨t,x,i,s,j,a,b,rfl⟩ | ⟨t,i,e,g,hi,f,rfl⟩)
  ·refine⟨(x,t),?_,ib _ (Ll.2 ⟨i,s,(zH.1 a).1,a,b,rfl⟩)⟩;rw[j8,bg];exact j
  ·refine⟨(p.threads[t],t),?_,sY _ (MJ.2 ⟨i,e,(zH.1 hi).1,hi,f,rfl⟩)⟩;rw[j8,bg];exact zI g
theorem tN {p:Prog} {e:Entry} (h:Proper p e):cg e∈e.cells:=by
 have:=h.ne;unfold cg
 cases b:e.cells with
 | nil=>exact absurd b this
 | cons a r=>simp
theorem zg {p:Prog} {k:Int} {b:List Entry} (c: ∀e∈b,Proper p e) {i j:Nat} {e f:Entry} (hi:b[i]? =some e) (m:b[j]? =some f) (a:di k b j f=true) (d:i<j):cg e≠cg f:=by
 intro l;unfold di at a;simp only[eZ,aR,zF,eD]at a;rcases a with h | ⟨_,h⟩
 ·omega
 ·have g:e∈b.take j:=by
   have:(b.take j)[i]? =some e:=by rw[zO,ah d];exact hi
   exact zL this
  have:jc (b.take j) f=true:=by
   rw[jc,lf];refine⟨e,g,?_⟩;rw[lM,lf];refine⟨cg f,tN (c f (zL m)),?_⟩;rw[<- l];simpa using tN (c e (zL hi))
  rw[this]at h;simp at h
theorem Xi {k:Int} {b:List Entry} {n:Int} {i:Nat} (h:lT k b n=some i): ∃e,b[i]? =some e/\di k b i e=true/\cg e=n:=by
 have:=List.find?_some h
 try simp only at this
 split at this
 ·rename_i e a;simp only[zF,aR]at this;exact⟨e,a,this.1,this.2⟩
 ·simp at this
theorem Pj {p:Prog} {k:Int} {b:List Entry} (c: ∀e∈b,Proper p e) {i:Nat} {e:Entry} (hi:b[i]? =some e) (l:di k b i e=true):lT k b (cg e)=some i:=by
 have m:=(zH.1 hi).1
 cases a:lT k b (cg e)with
 | none=>
   unfold lT at a;rw[pV]at a;have:=a i (dN.2 m);rw[hi]at this
   simp[l]at this
 | some j=>
   obtain⟨f,g,n,d⟩:=Xi a;rcases wb i j with h | h | h
   ·exact absurd d.symm (zg c hi g n h)
   ·rw[h]
   ·exact absurd d (zg c g hi l h)
theorem KO {p:Prog} {k:Int} {c:Config} {t i:Nat} {x:Thread} {s:Step} (a:p.threads[t]? =some x) (e:x.steps[i]? =some s) (d:dg p c t s=true):ef p k c ⟨t,i,0⟩=(eg p c t s,0):=by
 have f:=(zH.1 a).1;have b:kX p ⟨t,i,0⟩=some s:=by simp[kX,a,e]
 rw[ef,ac (by simp only;omega),ac (by simp only;omega),b];simp[d]
theorem I0 {p:Prog} {k:Int} {c:Config} (a:IsB p c) {t i:Nat} {e:Entry} (f:t<p.threads.length) (hi:(aF c t)[i]? =some e) (d:di k (aF c t) i e=true):ef p k c ⟨t,-1,cg e⟩=(c9 c t i,0):=by
 have b:=(a.buf t _ (fx (by rw[a.lb];exact f))).2.1;rw[ef,ac (by simp only;omega),ah rfl];simp only[ng,Pj b hi d]
theorem kaS {p:Prog} (h:aO p=true) {k:Int} {c:Config} (a:IsB p c) {y:Choice} (m:y∈lD p k c): ∃d,ef p k c y=(d,0)/\IsB p d:=by
 rcases G'.1 m with⟨t,x,i,s,g,f,b,rfl⟩ | ⟨t,i,e,l,hi,j,rfl⟩
 ·exact⟨_,KO g f b,O_ h a g f b⟩
 ·exact⟨_,I0 a l hi j,MR a hi⟩
def c_ (p:Prog) (k:Int) (c:Config):List Choice:=if k=0 then fB p c else lD p k c
def dy (p:Prog) (k:Int) (c:Config) (x:Choice):Config×Int:=if k=0 then jW p c x else ef p k c x
structure IsK (p:Prog) (k:Int) (c:Config):Prop where
 b:IsB p c
 q:k=0-> ∀b∈c.buf,b=[]
theorem IsK.c {p:Prog} {c:Config} {k:Int} (h:IsK p k c) (a:k=0):isM p c=true:=mQ.2 (kco h.b (h.q a))
theorem sc {p:Prog} (j:aO p=true) {k:Int} {c:Config} (g:IsK p k c) {y:Choice} (b:y∈c_ p k c): ∃d,dy p k c y=(d,0)/\IsK p k d:=by
 unfold c_ at b;unfold dy;split at b
 ·rename_i a;obtain⟨t,x,i,s,n,m,l,rfl,f,e⟩:=RU j (g.c a) b;rw[ah a];have:=mQ.1 e;exact⟨_,f,SM this,fun _=>this.buf⟩
 ·rename_i a;rw[ac a];obtain⟨d,f,e⟩:=kaS j g.b b;exact⟨d,f,e,fun h=>absurd h a⟩
theorem r7 {p:Prog} (a:aO p=true) (k:Int):IsK p k (ee p):=⟨Yq a,fun _=>(mQ.1 (Ow a)).buf⟩
theorem pz {c:Config} (a: ∀b∈c.buf,b=[]) (t:Nat):aF c t=[]:=by
 unfold aF;rw[zK]
 cases h:c.buf[t]? with
 | none=>rfl
 | some b=>exact a b (zL h)
theorem K4 {c:Config} (a: ∀b∈c.buf,b=[]) (t:Nat):aM c t=c.mem:=by rw[aM,pz a];rfl
theorem HJ {p:Prog} {c:Config} (d: ∀b∈c.buf,b=[]) (t:Nat) (s:Step):dg p c t s=im p c t s:=by
 unfold dg im;rw[K4 d,pz d,pz d]
 congr 1
 by_cases f:s.kind=3
 ·rw[ah f,ac (show ¬s.kind=6 from aa),ac (show ¬s.kind=7 from aa)];split<;>simp
 ·rw[ac f]
  by_cases e:s.kind=4\/s.kind=5
  ·rw[ah e,ac (show ¬s.kind=6 from aa),ac (show ¬s.kind=7 from aa)];simp
  ·rw[ac e]
   by_cases a:s.kind=6
   ·rw[ah a,ah a];simp
   ·rw[ac a,ac a];split<;>simp
theorem Xa {p:Prog} {c:Config} (a: ∀b∈c.buf,b=[]) (k:Int):lD p k c=fB p c:=by
 unfold lD eF fB jb
 congr 1
 funext q
 rw[pz a];have d:iK k q.2 [] ([]:List Entry).length=[]:=rfl;rw[d,bQ];unfold fC jv
 congr 1
 funext r
 rw[HJ a]
theorem Yf {p:Prog} {c:Config} (d:c.buf.length=p.threads.length) (e: ∀b∈c.buf,b=[]):c.buf=p.threads.map fun _=>[]:=by
 refine List.ext_getElem (by simp[d]) fun i a f=> ?_
 rw[vD];exact e _ (ma a)
theorem rm (p:Prog) (c:Config) (t:Nat) (x:Thread) (i:Nat):(fC p c t x i).length<=i:=by
 unfold fC;refine cQ (vR _ _) ?_;simp;omega
theorem xr (k:Int) (t:Nat) (b:List Entry) (i:Nat):(iK k t b i).length<=i:=by
 unfold iK;refine cQ (vR _ _) ?_;simp;omega
theorem wt {p:Prog} {c:Config} {t:Nat} {x:Thread} {i:Nat} {s:Step} (h:x.steps[i]? =some s):
 fC p c t x (i+1)=fC p c t x i++(if dg p c t s then [⟨t,i,0⟩]else []):=by
 unfold fC;rw[q_ h,vY]
 congr 1
 cases a:dg p c t s<;>simp[a]
theorem K8 {k:Int} {t:Nat} {b:List Entry} {i:Nat} {e:Entry} (h:b[i]? =some e):
 iK k t b (i+1)=iK k t b i++(if di k b i e then [⟨t,-1,cg e⟩]else []):=by
 unfold iK;rw[q_ h,vY]
 congr 1
 cases a:di k b i e<;>simp[a]
theorem wY {p:Prog} {k:Int} {c:Config} {i:Nat} {x:Thread} (h:p.threads[i]? =some x):
 eF p k c (i+1)=eF p k c i++(fC p c i x x.steps.length++iK k i (aF c i) (aF c i).length):=by
 unfold eF;rw[q_ h,i7];simp
theorem kcr {p:Prog} {c:Config} (a:IsB p c) (t:Nat):(aF c t).length<=3:=by
 rcases bv t c.buf.length with h | h
 ·exact(a.buf t _ (fx h)).1
 ·simp[aF,List.getD,fO h]
theorem qZ {p:Prog} (d:aO p=true) {k:Int} {c:Config} (b:IsB p c): ∀i:Nat,(eF p k c i).length<=67*i
 | 0=>by simp[eF]
 | i+1=>by
   have l:=qZ d (k:=k) b i;rcases a:p.threads[i]? with _ | x
   ·have:p.threads.length<=i:=ak a
    have e:eF p k c (i+1)=eF p k c i:=by
     unfold eF;rw[c7 aa,c7 aa]
    rw[e];omega
   ·have f:=((cO (cP d).1).2 x (zL a)).2.1;have g:=rm p c i x x.steps.length;have h:=xr k i (aF c i) (aF c i).length;have j:=kcr b i;rw[wY a,zM,zM];omega
theorem tY {p:Prog} (a:aO p=true) {k:Int} {c:Config} (b:IsB p c):(lD p k c).length<=268:=by
 have d:=qZ a (k:=k) b p.threads.length;have e:=(cO (cP a).1).1.2.2.2;unfold lD;omega
theorem G_ {p:Prog} (a:aO p=true) {k:Int} {c:Config} (b:IsB p c):(c_ p k c).length<=268:=by
 unfold c_;split
 ·have d:=tE a c p.threads.length;have e:=(cO (cP a).1).1.2.2.2;unfold fB;omega
 ·exact tY a b
section
end
theorem q9 {p:Prog} {k:Int} {c:Config} (h:IsK p k c):c_ p k c=lD p k c:=by
 unfold c_;split
 ·rename_i a;exact(Xa (h.q a) k).symm
 ·rfl
def mT (p:Prog) (k:Int) (c:Config) (t:Nat) (s:Step):Config:=if k=0 then g8 p c t s else eg p c t s
theorem Z3 {p:Prog} (q:aO p=true) {k:Int} {c:Config} (b:IsK p k c) {y:Choice} (B:y∈c_ p k c):
 (∃(t:Nat) (x:Thread) (i:Nat) (s:Step),p.threads[t]? =some x/\x.steps[i]? =some s/\dg p c t s=true/\y=⟨t,i,0⟩/\dy p k c y=(mT p k c t s,0)/\IsK p k (mT p k c t s))\/
 (k≠0/\ ∃(t i:Nat) (e:Entry),t<p.threads.length/\(aF c t)[i]? =some e/\di k (aF c t) i e=true/\y=⟨t,-1,cg e⟩/\dy p k c y=(c9 c t i,0)/\IsK p k (c9 c t i)):=by
 have n:=B;rw[q9 b]at n;rcases G'.1 n with⟨t,x,i,s,g,f,d,rfl⟩ | ⟨t,i,e,u,hi,r,rfl⟩
 ·refine .inl ⟨t,x,i,s,g,f,d,rfl,?_⟩
  by_cases a:k=0
  ·have A:=b.q a;rw[HJ A]at d;have w:(⟨t,i,0⟩:Choice)∈fB p c:=wm.2 ⟨t,x,i,s,g,f,d,rfl⟩;obtain⟨E,F,C,D,j,l,_,m,z,v⟩:=RU q (b.c a) w;simp only[Choice.mk.injEq,Int.natCast_inj,nr]at m;obtain⟨rfl,rfl⟩:=m;rw[g]at j;cases j;rw[f]at l;cases l;have o:=mQ.1 v;simp only[dy,mT,ah a];exact⟨z,SM o,fun _=>o.buf⟩
  ·simp only[dy,mT,ac a];exact⟨KO g f d,O_ q b.b g f d,fun h=>absurd h a⟩
 ·have a:k≠0:=by
   intro a;rw[pz (b.q a)]at hi;simp at hi
  refine .inr ⟨a,t,i,e,u,hi,r,rfl,?_⟩;simp only[dy,ac a];exact⟨I0 b.b u hi r,MR b.b hi,fun h=>absurd h a⟩
def jY (h:ae) (lo x:Nat) (v:V) (l:List Int) (room:Nat):Prop:= ∃k,v= .ms k 0 l.length/\lo<=k/\k<x/\h k=some (.rows 1 (ai l++List.replicate room [zi]) false)
theorem jY.valOf {h:ae} {lo x:Nat} {v:V} {l:List Int} {room:Nat} (o:jY h lo x v l room):valOf v=some v:=by obtain⟨k,rfl,_,_,_⟩:=o;rfl
theorem jY.rows {h:ae} {lo x:Nat} {v:V} {l:List Int} {room:Nat} (o:jY h lo x v l room):Rg.rowsS h v=some (ai l):=by
 obtain⟨k,rfl,_,_,a⟩:=o;unfold Rg.rowsS;simp only[a,rd,gq,ie];rw[ah (by simp[aB]),s7 (by rw[aB];exact aA _),c7 (by rw[aB];exact aA _)]
theorem jY.resVal {h:ae} {lo x:Nat} {v:V} {l:List Int} {room:Nat} (o:jY h lo x v l room):Rg.resVal v=some v:=by obtain⟨k,rfl,_,_,_⟩:=o;rfl
theorem jY.reify {h:ae} {lo x:Nat} {v:V} {l:List Int} {room:Nat} (o:jY h lo x v l room):Rg.reify h v=some (.t (ints l)):=by
 obtain⟨k,rfl,_,_,c⟩:=o;have a:=mu h 999 (l.map fun n=>[ti n]) (iB _)
 have b:toT h 1000 (.ms k 0 l.length)=some (ints l):=by
  rw[toT,c];simp only[rd,gq,ie];rw[ah (by simp[aB]),s7 (by rw[aB];exact aA _),c7 (by rw[aB];exact aA _)];simp only[zC,zD];rw[show ai l=(l.map fun n=>[ti n]).map (·.map V.t)from rfl,a];rfl
 simp only[Rg.reify,toT1,b,cU]
theorem LU {h:ae} {lo x q room:Nat} {v:V} {l m:List Int} {K:V->List (Nat×O)->Prop} {w:WK K} (d:jY h lo x v l (m.length+room)) (u:x<=q) (s:l.length+m.length<=2^32)
 (c: ∀e hp,jY (At h hp) lo (q+1) e (l++m) room->(∀j,j<lo->At h hp j=h j)->K e hp):eA false (aZ h q 1 8 v (ai l) (ai m)) K w:=by
 unfold aZ;rw[ah ⟨⟨by rw[aB,aB];exact s,aI⟩,eu _,eu _⟩]
 cases m with
 | nil=>
   simp only[ai,be,sN,aU,jx];refine c v [] ?_ (fun j _=>by rw[bE]);rw[bQ];obtain⟨k,rfl,b,r,a⟩:=d
   exact⟨k,rfl,b,aa,by simpa[bE]using a⟩
 | cons y m=>
   obtain⟨k,rfl,b,r,a⟩:=d;have p:(ai (y::m)).isEmpty=false:=rfl;simp only[p,a,zG,aX,ki,aU,jx]
   have g:fh (ai l) (ai (y::m)) (ai l++List.replicate ((y::m).length+room) [zi])=ai (l++y::m)++List.replicate room [zi]:=by
    have i:ai (l++y::m)=ai l++ai (y::m):=by simp[ai]
    rw[i];unfold fh;split
    ·rename_i f;simp only[zM,aB,iw]at f;have:room=0:=aa
     subst this;simp
    ·rw[List.drop_append,oy (by rw[aB,aB];omega),List.drop_replicate,aB,aB];rw[show(y::m).length+room-(l.length+(y::m).length-l.length)=room from aa,eY]
   refine c _ [(k,.dead),(q,.rows 1 (fh (ai l) (ai (y::m)) (ai l++List.replicate ((y::m).length+room) [zi])) false)] ⟨q,?_,aa,aa,?_⟩ (fun j t=> ?_)
   ·rw[aB,aB,zM]
   ·rw[g];have:q≠k:=aa
    simp[cy,bE,aq]
   ·have n:j≠q:=aa
    have o:j≠k:=aa
    simp[cy,bE,aq,n,o]
theorem kay (m:Nat) (g:0<m) (h:m<=2^31) (H:ae) (n:Nat): ∃r h' a,DenR Γ G 368 [.t .nils,vi m] H n=some (r,h',a)/\(jY h' n a r [] m/\ ∀j,j<n->h' j=H j):=by
 have b: ¬((m:Int)<0):=aa
 have c:(0:Int)<m:=aa
 have d:(m:Int)<=4294967296:=aa
 have f:IntKind.i64.wrap ((m:Int)-0)=m:=by rw[Int.sub_zero];exact bq aa
 have e:(1:Int)<=m:=aa
 refine bM (q:=bG b c d e f ?_);refine⟨⟨_,rfl,aa,by simp -dsimp only[go_sem];omega,by simp[cy,bE,aq,ai]⟩,fun j i=> ?_⟩;have:j≠n+1+2+8+2+5:=aa
 simp[cy,bE,aq,this]
theorem Yy (n:Nat) (H:ae): ∃r h' b,DenR Γ G 368 [.t .nils,vi 0] H n=some (r,h',b)/\(r= .t .nils/\h'=H):=by
 have a:IntKind.i64.wrap (0-0)=0:=rfl
 refine bM (q:=ar a ?_);exact⟨rfl,rfl⟩
theorem Xo (a b:List Int) (ha:a.length<2^20) (hb:b.length<2^20) (H:ae) (n k:Nat) (d vb:V) (c:H k=some (.rows 1 [[d],[vb]] false)) (Z:k<n)
 (g:ay H n d 1 (ai a)) (ob:ay H n vb 1 (ai b)): ∃r h' f,DenR Γ G 350 [.ms k 0 2] H n=some (r,h',f)/\ay h' f r 1 (ai (a++b)):=by
 have X:IntKind.i64.wrap (0+(a.length:Int))=a.length:=by rw[Int.zero_add];exact bq aa
 have Y:IntKind.i64.wrap ((a.length:Int)+b.length)=((a.length+b.length:Nat):Int):=by rw[Int.natCast_add];exact bq aa
 have L: ¬((a.length:Int)<0):=aa
 have M: ¬(((a.length+b.length:Nat):Int)<0):=aa
 have x:=g.valOf;have y:=ob.valOf
 have R:lenS H d=some a.length:=by rcases g with⟨rfl,o⟩ | ⟨q,rfl,_,p⟩
                                   ·have:a=[]:=by simpa[ai]using o
                                    subst this;rfl
                                   ·simp[lenS,p,aB]
 have S:lenS H vb=some b.length:=by rcases ob with⟨rfl,o⟩ | ⟨q,rfl,_,p⟩
                                    ·have:b=[]:=by simpa[ai]using o
                                     subst this;rfl
                                    ·simp[lenS,p,aB]
 refine bM (q:=ar c ?_);refine bK ?_;refine bG c x R X L ?_;refine bK ?_;refine bG c y S Y M ?_;refine bK ?_;refine ax ?_
 by_cases N:a.length+b.length=0
 ·rw[N];have K:a=[]:=fo aa;have J:b=[]:=fo aa;subst K J;refine bf (Yy _ _) ?_;rintro r h' f ⟨rfl,rfl⟩;have v:=g.rowsS;have w:=ob.rowsS;have B:ai []=[]:=rfl;refine ar c ?_;refine bK ?_;refine bG c x v B @aZ.eq_1 ?_;refine bK ?_;refine bG c y w B @aZ.eq_1 ?_;refine bK ?_;refine ax ?_;exact .inl ⟨rfl,rfl⟩
 ·refine bf (kay _ aa aa _ _) ?_;rintro r h' f ⟨m,i⟩;have D:=m.valOf;have T:=m.rows;have h:h' k=some (.rows 1 [[d],[vb]] false):=by rw[i k aa];exact c
  have s:ay h' n d 1 (ai a):=g.keep (aA _) fun j C _=>i j aa
  have t:ay h' n vb 1 (ai b):=ob.keep (aA _) fun j C _=>i j aa
  have v:=s.rowsS;refine aG D h ?_;refine bK ?_;refine bG h x D T v ?_;refine LU m aa (by simp;omega) ?_;rintro W hp e A;rw[eY]at e;have E:=e.valOf;have U:=e.rows;have z:At h' hp k=some (.rows 1 [[d],[vb]] false):=by rw[A k aa];exact h
  have u:ay (At h' hp) n vb 1 (ai b):=t.keep (aA _) fun j C _=>A j aa
  have w:=u.rowsS;refine aG E z ?_;refine bK ?_;refine bG z y E U w ?_;refine LU (room:=0) e aa aa ?_;rintro W G6 l NG;have F:=l.valOf;have I:=l.resVal;simp only[Rg.resVal]at I;refine ar F ?_;refine bK ?_;refine aG F I ?_;obtain⟨Q,rfl,h1,h2,P⟩:=l;exact .inr ⟨Q,by rw[aB];rfl,by simp -dsimp only[go_sem];omega,ak P⟩
def jd (p:Prog) (t j:Int):Bool:=aO p&&(decide (0<=t)&&(decide (0<=j)&&match p.threads[t.toNat]? with
 | some x=>decide (j<x.loops.length)
 | none=>false))
theorem X2 {p:Prog} {t j:Int} (h:jd p t j=true):aO p=true/\ ∃(d c:Nat) (x:Thread) (l:Loop),t=d/\j=c/\p.threads[d]? =some x/\x.loops[c]? =some l:=by
 simp only[jd,zF,aR]at h;obtain⟨e,g,i,a⟩:=h;refine⟨e,t.toNat,j.toNat,?_⟩
 cases b:p.threads[t.toNat]? with
 | none=>rw[b]at a;cases a
 | some x=>
   rw[b]at a;have f:j.toNat<x.loops.length:=by simp only[aR]at a;omega
   exact⟨x,x.loops[j.toNat],aa,aa,rfl,zI f⟩
theorem kaw (p:Prog) (k:p.sane) (t j:Int):Den Γ G 348 [(zP p),vi t,vi j]=some (vb (jd p t j)):=by
 have a:=J0 p k
 refine aD (q:=?_)
 cases c:aO p
 ·rw[c]at a;have:jd p t j=false:=by simp[jd,c]
  rw[this];exact al a
 ·rw[c]at a
  by_cases h:0<=t
  ·obtain⟨n,rfl⟩: ∃n:Nat,t=n:=⟨t.toNat,aa⟩
   have b:((n:Int)>=0):=aa
   by_cases i:n<p.threads.length
   ·have e:((n:Int)<(p.threads.length:Int)):=aa
    have d:=zI i
    generalize p.threads[n]=x at d
    have:jd p n j=(decide (0<=j)&&decide (j<x.loops.length)):=by simp[jd,c,d]
    rw[this]
    by_cases f:j>=0
    ·have g:0<=j:=f;exact po a b e f g d
    ·have g: ¬0<=j:=f;exact po a b e f g @ig
   ·have e: ¬((n:Int)<(p.threads.length:Int)):=aa
    have d:p.threads[n]? =none:=fO aa;have:jd p n j=false:=by simp[jd,c,d]
    rw[this];exact dp a b e
  ·have b: ¬(t>=0):=h;have:jd p t j=false:=by simp[jd,h]
   rw[this];exact a_ a b
theorem X3 (p:Prog) (c:p.lite) (t j:Int):Den Γ G 335 [(zP p),vi t,vi j]=some (vb (iV p&&jd p t j)):=by
 have a:=kaz p c.steps
 refine aD (q:=?_)
 cases b:iV p
 ·rw[b]at a;exact a_ a @ig
 ·rw[b]at a;have d:=kaw p (OZ c b) t j;exact dp a d @ep
theorem wp (p:Prog) (k:p.sane) (h:aO p=true) {t j:Nat} {x:Thread} {l:Loop} (a:p.threads[t]? =some x) (i:x.loops[j]? =some l):Den Γ G 349 [(zP p),vi t,vi j]=some (vb true):=by
 have g:=tw p k;have f:(dh p).1=0:=by simpa[aO]using h
 have b:((t:Int)>=0):=aa
 have c:((j:Int)>=0):=aa
 have d:((t:Int)<(p.threads.length:Int)):=by have:=(zH.1 a).1;omega
 have e:((j:Int)<(x.loops.length:Int)):=by have:=(zH.1 i).1;omega
 exact aD (q:=U8 g f b c d e a)
theorem kaT (a b:Entry) (B:a.cells.length<2^20) (C:b.cells.length<2^20):
 Den Γ G 384 [.agg [.t (ints a.cells),.t (ints a.values)],.agg [.t (ints b.cells),.t (ints b.values)]]=some (vb (lM a b)):=by
 refine aD (q:=ax ?_);refine ba 4294967280 a.cells.length (fun i f=>(f 5).v=vi i/\ ∀c∈a.cells.take i,c∉ b.cells) rfl rfl ⟨am,af⟩ ?_;rintro i f u x bs hi ⟨l,o⟩;have z:=aC i aa;refine ar l ?_;refine aQ l ?_ ?_<;>intro h
 ·obtain⟨c,q,s⟩:=aw ‹i<a.cells.length›;refine ba 4294950992 b.cells.length (fun k f=>(f 6).v=vi k/\ ∀d∈b.cells.take k,d≠c) rfl rfl ⟨am,af⟩ ?_;rintro k A E F y D ⟨n,p⟩;have t:=aC k aa;refine ar n ?_;refine dz n l ?_ ?_<;>intro h
  ·obtain⟨d,m,w⟩:=aw ‹k<b.cells.length›
   by_cases j:c=d
   ·have r:lM a b=true:=by
     simp only[lM,lf];exact⟨d,w,by simpa[j]using j▸s⟩
    rw[r];exact sD l n q m j
   ·refine bG l n q m j ?_;refine⟨aa,al t,?_⟩;intro e g;rw[bc m,cx]at g;rcases g with g | g
    ·exact p e g
    ·simp only[bD]at g;subst g;exact bW j
  ·have:k=b.cells.length:=aa
   subst this;rw[bg]at p;refine⟨aa,al z,?_⟩;intro e g;rw[bc q,cx]at g;rcases g with g | g
   ·exact o e g
   ·simp only[bD]at g;subst g;exact fun v=>p e v rfl
 ·have:i=a.cells.length:=aa
  subst this;rw[bg]at o
  have r:lM a b=false:=by
   simp only[lM,List.any_eq_false];intro d m;simp only[rv,aR];exact fun h=>o d h m
  rw[r]
def pg (l:List Int) (v:Int):Int:=match l.findIdx? (fun x=>decide (x=v))with
 | some i=>i
 | none=> -1
theorem kby {l:List Int} {v:Int} {i:Nat} (h:l[i]? =some v) (b: ∀j,j<i->l[j]? ≠some v):pg l v=i:=by
 have hi:=(zH.1 h).1
 have:l.findIdx? (fun x=>decide (x=v))=some i:=by
  rw[rr];refine⟨hi,by simpa using(zH.1 h).2,fun j a=> ?_⟩;have:=b j a;rw[zI aa]at this;simpa using this
 rw[pg,this]
theorem ka4 {l:List Int} {v:Int} (b: ∀j,j<l.length->l[j]? ≠some v):pg l v= -1:=by
 have:l.findIdx? (fun x=>decide (x=v))=none:=by
  rw[sX];intro x c;obtain⟨j,a⟩:=eC c;have:=b j (zH.1 a).1;rw[a]at this;simpa using this
 rw[pg,this]
theorem kbz (l:List Int) (v:Int):decide (pg l v>=0)=l.contains v:=by
 unfold pg
 cases h:l.findIdx? (fun x=>decide (x=v))with
 | some i=>
   have a:v∈l:=by
    rw[rr]at h;obtain⟨b,c,_⟩:=h;exact (ak c:l[i]=v)▸ma b
   simp[a]
 | none=>
   have a:v∉ l:=by
    intro a;rw[sX]at h;have:=h v a;simp at this
   simp[a]
theorem XY (l:List Int) (v:Int) (m:l.length<2^40):Den Γ G 207 [.t (ints l),vi v]=some (vi (pg l v)):=by
 refine aD (q:=ax ?_);refine ba 524080 l.length (fun i f=>(f 8).v=vi i/\ ∀j,j<i->l[j]? ≠some v) rfl rfl ⟨am,fun j g=>aa⟩ ?_;rintro i f u n bb hi ⟨a,b⟩;have k:=aC i aa;refine ar a ?_;refine aQ a ?_ ?_<;>intro h
 ·obtain⟨y,c,_⟩:=aw ‹i<l.length›;refine aG a c ?_;refine aQ a ?_ ?_<;>intro h
  ·rw[kby (by rw[c,h]) b]
  ·refine⟨aa,al k,fun j g=> ?_⟩;rcases bv j i with d | d
   ·exact b j d
   ·have:j=i:=aa
    subst this;rw[c];intro e;cases e;exact absurd rfl h
 ·have:i=l.length:=aa
  subst this;rw[ka4 b]
theorem xe (l:List Int) (v:Int) (c:l.length<2^40):Den Γ G 206 [.t (ints l),vi v]=some (vb (l.contains v)):=by
 refine aD (q:=?_)
 have a:=XY l v c;have b:=kbz l v;exact a_ a b
theorem XK (l:List Entry) (e:Entry) (B:l.length<2^40) (z:e.cells.length<2^40) (v: ∀o∈l,o.cells.length<2^40):
 Den Γ G 201 [.t (.sl (l.map Entry.enc)),.agg [.t (ints e.cells),.t (ints e.values)]]=some (vb (jc l e)):=by
 refine aD (q:=ax ?_);refine ba 268433744 l.length (fun i f=>(f 11).v=vi i/\jc l e=(l.drop i).any fun o=>lM o e) rfl rfl ⟨am,rfl⟩ ?_;rintro i f u C bb hi ⟨a,c⟩;have w:=aC i aa;refine ar a ?_;refine aQ a ?_ ?_<;>intro h
 ·obtain⟨y,g,Eq⟩:=aw ‹i<l.length›;have s:=v y Eq;refine aY a g @Entry.enc.eq_1 ?_;refine ba 133955856 e.cells.length (fun j k=>(k 18).v=vi j/\(e.cells.take j).any (fun n=>y.cells.contains n)=false) rfl rfl ⟨am,af⟩ ?_;rintro j k D x t A ⟨b,d⟩;have p:=aC j aa;refine ar b ?_;refine dz b a ?_ ?_<;>intro h
  ·obtain⟨n,m,r⟩:=aw ‹j<e.cells.length›;have q:=xe y.cells n s;refine bw b a m q ?_;refine dz b a ?_ ?_<;>intro h
   ·rw[c,xC g (by rw[lM,lf];exact⟨n,r,ak h⟩)]
   ·refine⟨aa,al p,?_⟩;rw[bc m,vH,d];simpa using h
  ·have:j=e.cells.length:=aa
   subst this;refine⟨aa,al w,?_⟩;rw[c,xD g (by rw[bg]at d;exact d)]
 ·have:i=l.length:=aa
  subst this;rw[c,y7]
def xi (h:ae) (x:Nat) (v:V) (rows:List (List V)):Prop:=
 (v= .t (.sl [])/\rows=[])\/ ∃k,v= .ms k 0 rows.length/\k<x/\h k=some (.rows 1 rows false)
theorem Yd (l:List Int):ir (ai l)=some l:=by
 induction l with
 | nil=>rfl
 | cons n l a=>
   show(ir (ai l)).map (n:: ·)=_;rw[a];rfl
theorem Wp (l:List Int):bR l=ai l:=by simp[bR,ai]
theorem sB {h:ae} {b:Nat} {l:List Int} {K:V->List (Nat×O)->Prop} {w:WK K} (k:l.length<2^40)
 (d: ∀v hp,xi (At h hp) (b+1) v (ai l)->(∀j,j≠b->At h hp j=h j)->(∀j,j≠b->aK v j)->(Rg.valOf v=some v/\V.cells v=some [v])->K v hp):rU (Γ:=Γ) (G:=G) false h b 198 [.t (ints l)] K w:=by
 refine⟨rfl,rfl,[.t (ints l)],rfl,?_⟩
 cases l with
 | nil=>
   refine⟨.t (.sl []),fun _=>none,0,pF Γ198 rfl rfl rfl,{ val:=.t (.sl []) },rfl,d _ _ (.inl ⟨rfl,rfl⟩) (fun j _=>by rw[bE]) (fun j _ i n h=>by cases h) ⟨rfl,rfl⟩⟩
 | cons a l=>
   have e:ji .cloneI [.t (ints (a::l))] (fun _=>none) 0=some (.ms 0 0 (a::l).length,upd (fun _=>none) 0 (some (.rows 1 (bR (a::l)) false)),1):=by
    show((ir (ai (a::l))).bind fun c=>if c.length<1099511627776 then some (V.ms 0 0 c.length,upd (fun _=>none) 0 (some (O.rows 1 (bR c) false)),0+1)else none)=_;rw[Yd,zD,ah k]
   rw[Wp]at e;have g:(ai (a::l)).all (fun row=>row.all V.isTr)=true:=by simp[ai,V.isTr]
   refine⟨_,_,_,pF Γ198 rfl rfl e,{ val:=.ms b 0 (ai (a::l)).length,hp:=[(b,.rows 1 (ai (a::l)) false)] },?_,d _ _ (.inr ⟨b,rfl,aa,by simp[cy,bE,aq]⟩) (fun j f=>by simp[cy,bE,aq,f]) (fun j f=>cV aa _ _) ⟨rfl,rfl⟩⟩;simp only[iX,cR];rw[ah ⟨trivial,by rw[aB],g⟩,aB]
theorem xi.reify {h:ae} {x:Nat} {v:V} {l:List Int} (o:xi h x v (ai l)):Rg.reify h v=some (.t (ints l)):=by
 rcases o with⟨rfl,a⟩ | ⟨k,rfl,_,b⟩
 ·have:l=[]:=by
   have:=bz List.length a;rw[aB]at this;exact fo this
  subst this;rfl
 ·have:toT h 1000 (.ms k 0 (ai l).length)=some (.sl (l.map fun n=>[ti n])):=jy (h:=h) (x:=k+1) (es:=l.map fun n=>[ti n]) (.inr ⟨k,rfl,aa,b⟩) (iB _);simp only[Rg.reify,toT1,this,cU]
def dV (m:List Int) (e:Entry) (i:Nat):List Int:=((e.cells.zip e.values).take i).foldl (fun m q=>m.set q.1.toNat q.2) m
theorem OK (m:List Int) (e:Entry) (i:Nat):(dV m e i).length=m.length:=tf _ m
theorem LO {m:List Int} {e:Entry} {i:Nat} {c v:Int} (a:e.cells[i]? =some c) (b:e.values[i]? =some v):dV m e (i+1)=(dV m e i).set c.toNat v:=by
 have d:(e.cells.zip e.values)[i]? =some (c,v):=by rw[ow];exact⟨a,b⟩
 unfold dV;rw[bc d,iy];rfl
theorem ON {m:List Int} {e:Entry} (a:e.values.length=e.cells.length):dV m e e.cells.length=dY m e:=by
 unfold dV dY;rw[c7 (by rw[ke];omega)]
theorem XM (m:List Int) (e:Entry) (D:e.values.length=e.cells.length) (J:e.cells.length<2^40) (B: ∀n∈e.cells,0<=n/\n.toNat<m.length) (H:ae) (nx k:Nat) (C:H k=some (.rows 1 (ai m) false)):
 ∃r h' p,DenR Γ G 199 [.ms k 0 m.length,.agg [.t (ints e.cells),.t (ints e.values)]] H nx=some (r,h',p)/\(r= .tup []/\h' k=some (.rows 1 (ai (dY m e)) false)/\(∀j,j≠k->h' j=H j)/\nx<=p):=by
 refine bM (q:=ax ?_);refine aS 8388144 e.cells.length (fun i f h x=>(f 9).v=vi i/\h k=some (.rows 1 (ai (dV m e i)) false)/\(∀j,j≠k->h j=H j)/\nx<=x) rfl ⟨am,by simp -dsimp only[go_sem,seval,C,dV,ft,oE],fun j _=>rfl,av⟩ ?_;rintro i f u h x bs hi ⟨a,b,g,K⟩;have E:=aC i aa;refine ar a ?_;refine aQ a ?_ ?_<;>intro h
 ·obtain⟨c,d,w⟩:=aw ‹i<e.cells.length›;obtain⟨v,o,_⟩:=aw (show i<e.values.length from aa);obtain⟨z,I⟩:=B c w;have q:=LO (m:=m) d o;have F:=OK m e i;have t:=gt (l:=dV m e i) (i:=c.toNat) aa;have s:=dR (dV m e i) c.toNat v;have A:c<(m.length:Int):=aa
  refine dc a d o b z A t ?_;refine⟨aa,al E,?_,?_,av⟩
  ·rw[q];exact al s
  ·intro j y;exact a_ y g
 ·have:i=e.cells.length:=aa
  subst this;rw[ON D]at b;refine⟨rfl,b,g,av⟩
theorem N_ (p:Prog) (H:aO p=true) (c:Config) (l:IsB p c) (t:Nat) (U:t<p.threads.length):Den Γ G 188 [(.agg [.t (ints (c).mem),.t (ints (c).at_),.t (.sl ((c).buf.map (fun b=>[.sl (b.map Entry.enc)])))]),vi t]=some (.t (ints (aM c t))):=by
 obtain⟨⟨W,X,Y,Z⟩,_⟩:=cO (cP H).1;have M:=l.lm;have V:=l.lb;have m:=fx (c:=c) (t:=t) aa;obtain⟨P,b2,_⟩:=l.buf t _ m
 refine aD (q:=ax ?_);refine sB aa ?_;rintro v hp K O N ⟨w,_⟩;refine aG m w ?_;rcases K with⟨rfl,d⟩ | ⟨k,rfl,S,I⟩
 ·have s:c.mem=[]:=by
   have:=bz List.length d;rw[aB]at this;exact fo this
  have q:aF c t=[]:=by
   cases E:aF c t with
   | nil=>rfl
   | cons e r=>
     have hp:=b2 e (by rw[E];exact e_);have:=lA hp (tN hp);have T:p.cells.length=0:=by rw[<- M,s];rfl
     omega
  have D:aM c t=[]:=by rw[aM,q,s];rfl
  refine aS 33423488 (aF c t).length (fun i f h x=>(f 17).v=vi i) rfl am ?_;rintro i f u h x bs hi a;refine ar a ?_;refine aQ a ?_ ?_<;>intro h
  ·have:(aF c t).length=0:=by rw[q];rfl
   omega
  ·rw[D];rfl
 ·rw[aB]at *;refine aS 33423488 (aF c t).length (fun i f h x=>(f 17).v=vi i/\h k=some (.rows 1 (ai (((aF c t).take i).foldl dY c.mem)) false)) rfl ⟨am,by simp -dsimp only[go_sem,seval,I,ft,oE]⟩ ?_;rintro i f u C x bs hi ⟨a,j⟩;have L:=aC i aa;refine ar a ?_;refine aQ a ?_ ?_<;>intro h
  ·obtain⟨e,d,A⟩:=aw ‹i<(aF c t).length›;have g:=b2 e A;have y:(((aF c t).take i).foldl dY c.mem).length=c.mem.length:=qg _ _;refine aY a d @Entry.enc.eq_1 ?_;refine bf (by rw[<- y];exact XM _ e g.len (by have:=gQ g;omega) (fun n J=>by have:=lA g J;omega) _ _ k (al j)) ?_;rintro r h' n' ⟨rfl,F,Q,R⟩;refine ar a ?_;refine⟨aa,al L,?_⟩;rw[bc d,iy];simp -dsimp only[go_sem,seval,F,jl,oE]
  ·have:i=(aF c t).length:=aa
   subst this;rw[bg]at j;have z:C k=some (.rows 1 (ai (aM c t)) false):=j;have o:(ai (aM c t)).length=c.mem.length:=by rw[aB,ZO]
   have B:List.take c.mem.length (ai (aM c t))=ai (aM c t):=d7 o.symm;exact sD z o B @aA @gS
abbrev num (z:Int):List UInt8:=Go.Lib.itoa z
@[go_sem]theorem kcD (a:List UInt8):(bs a).size=a.length:=by simp[bs,ByteArray.size]
@[go_sem]theorem kcE (a:List UInt8):(bs a).data.toList=a:=by simp[bs]
theorem kcM {a b:List UInt8}:bs a=bs b<->a=b:=by
 constructor
 ·intro h;simpa[bs]using h
 ·rintro rfl;rfl
theorem kbX (z:Int) (h: -9223372036854775808<=z/\z<=9223372036854775807):(num z).length<=21:=Go.Lib.itoa_length_le z h.1 h.2
theorem kaV (z:Int) (h: -9223372036854775808<=z/\z<=9223372036854775807):Den Γ G 240 [vi z]=some (.t (.str (bs (num z)))):=by
 refine Sk Γ240 rfl rfl ?_;show(if _ then _ else _)=_;rw[ah h];rfl
def kcB (op:Int):List UInt8:=
 if op=4 then [110,111,116]else if op=5 then [97,110,100]else if op=6 then [111,114]else if op=7 then [120,111,114]else if op=8 then [97,100,100]
 else if op=9 then [115,117,98]else if op=10 then [109,117,108]else if op=11 then [101,113]else if op=12 then [108,116]else if op=13 then [108,101]else [105,116,101]
def kck (op:Int):List UInt8:=if op=2 then [99]else if op=3 then [111]else []
def SH:List (List UInt8)->List UInt8
 | []=>[]
 | [x]=>x
 | x::r=>x++44::SH r
namespace Expr
mutual
def txt:Expr->List UInt8
 | .mk op w n a=>if op=1\/op=2\/op=3 then kck op++num n++[58]++num w else kcB op++[40]++SH (Gq a)++[41]
def Gq:List Expr->List (List UInt8)
 | []=>[]
 | e::r=>txt e::Gq r
end
end Expr
theorem kJ {α:Type} {f:Nat->α->Int}: ∀{l:List α} {i:Nat},(a7 f i l).1=0<-> ∀(j:Nat) (x:α),l[j]? =some x->f (i+j) x=0
 | [],i=>by simp[a7]
 | y::r,i=>by
   rw[a7];constructor
   ·intro h j x b;split at h
    ·rename_i a
     cases j with
     | zero=>simp at b;subst b;exact a
     | succ j=>
       have:=(kJ (l:=r) (i:=i+1)).1 h j x (ak b);rwa[show i+1+j=i+(j+1)by omega]at this
    ·rename_i a;exact absurd h a
   ·intro h;have a:f i y=0:=h 0 y rfl;rw[ah a];refine(kJ (l:=r) (i:=i+1)).2 fun j x b=> ?_
    have:=h (j+1) x (ak b);rwa[show i+(j+1)=i+1+j by omega]at this
theorem uE {p:Prog}: ∀{l:List Thread} {i:Nat},(eQ p i l).1=0<-> ∀(j:Nat) (x:Thread),l[j]? =some x->(bI p (i+j) x).1=0
 | [],i=>by simp[eQ]
 | y::r,i=>by
   rw[eQ];constructor
   ·intro h j x b;split at h
    ·rename_i a
     cases j with
     | zero=>simp at b;subst b;exact a
     | succ j=>
       have:=(uE (l:=r) (i:=i+1)).1 h j x (ak b);rwa[show i+1+j=i+(j+1)by omega]at this
    ·rename_i a;exact absurd h a
   ·intro h;have a:(bI p i y).1=0:=h 0 y rfl;rw[ah a];refine(uE (l:=r) (i:=i+1)).2 fun j x b=> ?_
    have:=h (j+1) x (ak b);rwa[show i+(j+1)=i+1+j by omega]at this
abbrev Prog.ok (p:Prog):Prop:=(dh p).1=0
structure Rules (p:Prog):Prop where
 lim:(cI p).1=0
 cells: ∀(i:Nat) (c:Cell),p.cells[i]? =some c->fW p i c=0
 modules: ∀(i:Nat) (m:Contract),p.modules[i]? =some m->gX p i m=0
 locks: ∀(i:Nat) (l:Lock),p.locks[i]? =some l->iq p i l=0
 threads: ∀(i:Nat) (x:Thread),p.threads[i]? =some x->(bI p i x).1=0
theorem uN {p:Prog}:p.ok<->Rules p:=by
 unfold Prog.ok dh;constructor
 ·intro h;split at h
  ·rename_i a;exact absurd h a
  ·rename_i a;split at h
   ·rename_i b;exact absurd h b
   ·rename_i b;split at h
    ·rename_i c;exact absurd h c
    ·rename_i c;split at h
     ·rename_i d;exact absurd h d
     ·rename_i d;simp only[sJ]at a b c d;exact⟨a,by simpa[dT,kJ]using b,by simpa[fl,kJ]using c,by simpa[fD,kJ]using d,by simpa[uE]using h⟩
 ·rintro⟨a,b,c,d,i⟩;have e:dT p=0:=by unfold dT;rw[kJ];simpa using b
  have f:fl p=0:=by unfold fl;rw[kJ];simpa using c
  have g:fD p=0:=by unfold fD;rw[kJ];simpa using d
  rw[ac (ak a),ac (ak e),ac (ak f),ac (ak g),uE];simpa using i
theorem Jy {p:Prog} {i:Nat} {c:Cell}:fW p i c=0<->fY p c=false/\(p.cells.take i).any (fun d=>d.name.toList==c.name.toList)=false:=by
 unfold fW;cases fY p c<;>cases(p.cells.take i).any (fun d=>d.name.toList==c.name.toList)<;>simp
theorem JG {p:Prog} {t n:Int} {l:Loop}:dE p t n l=0<->(inR l.head n=true/\fS l.body=true/\l.body.all (fun k=>inR k n&&decide (k≠l.head))=true)/\l.variant.valid p.cells false=true/\cY p l.variant true t=true:=by
 unfold dE;cases inR l.head n<;>cases fS l.body<;>cases l.body.all (fun k=>inR k n&&decide (k≠l.head))<;>cases l.variant.valid p.cells false<;>cases cY p l.variant true t<;>simp
theorem HH {p:Prog} {i:Nat} {x:Thread}:(bI p i x).1=0<->ec x.name=true/\(p.threads.take i).any (fun d=>d.name.toList==x.name.toList)=false/\(1<=x.points/\(x.asserts.length:Int)=x.points/\(x.modules.length:Int)=x.points)/\
 x.modules.all (fun m=>inR m p.modules.length)=true/\x.asserts.all (fun e=>cB p e false i)=true/\(∀(j:Nat) (s:Step),x.steps[j]? =some s->cC p i x.points s=0)/\(∀(j:Nat) (l:Loop),x.loops[j]? =some l->dE p i x.points l=0):=by
 unfold bI;have g:(a7 (fun _ s=>cC p i x.points s) 0 x.steps).1=0<-> ∀(j:Nat) (s:Step),x.steps[j]? =some s->cC p i x.points s=0:=by rw[kJ]
 have f:(a7 (fun _ l=>dE p i x.points l) 0 x.loops).1=0<-> ∀(j:Nat) (l:Loop),x.loops[j]? =some l->dE p i x.points l=0:=by rw[kJ]
 rw[<- g,<- f];cases ec x.name
 ·simp
 ·cases(p.threads.take i).any (fun d=>d.name.toList==x.name.toList)
  ·by_cases c:x.points<1\/ ¬(x.asserts.length:Int)=x.points\/ ¬(x.modules.length:Int)=x.points
   ·simp only[jn,zG,aX,ah c];constructor
    ·intro h;cases h
    ·rintro⟨_,_,h,_⟩;omega
   ·have a:1<=x.points/\(x.asserts.length:Int)=x.points/\(x.modules.length:Int)=x.points:=aa
    simp only[jn,zG,aX,ac c];cases x.modules.all (fun m=>inR m p.modules.length)
    ·simp
    ·cases x.asserts.all (fun e=>cB p e false i)
     ·simp
     ·by_cases b:(a7 (fun _ s=>cC p i x.points s) 0 x.steps).1=0
      ·simp[b,a]
      ·simp[b,a]
  ·simp
theorem KB {p:Prog}:(cI p).1=0<->(p.cells.length<=32/\p.modules.length<=6/\p.locks.length<=4/\p.threads.length<=4)/\ ∀x∈p.threads,x.points<=48/\x.steps.length<=64/\x.loops.length<=8:=by
 unfold cI;split
 ·rename_i h;constructor
  ·intro h;cases h
  ·rintro⟨h',_⟩;omega
 ·rename_i h;rw[kJ];constructor
  ·intro b;refine⟨aa,fun x c=> ?_⟩;obtain⟨j,d,rfl⟩:=sT.1 c;have:=b j _ (zI d);cases a:eq p.threads[j]
   ·simp only[eq,jm,ek]at a;omega
   ·simp[a]at this
  ·rintro⟨_,b⟩ j x c;have:=b x (zL c)
   have a:eq x=false:=by
    simp only[eq,jm,ek];omega
   simp[a]
end Rg
end
section
set_option maxRecDepth 100000
namespace Rg
open Go
def Expr.text (e:Expr):List UInt8:=if e.formed then e.txt else []
end Rg
end
section
set_option maxRecDepth 100000
namespace Rg
open Go
end Rg
end
section
set_option maxRecDepth 100000
namespace Rg
open Go
def U2 (ws:List (List UInt8)):List UInt8:=Go.Lib.join ws [32]++[10]
theorem Zw (ws:List (List UInt8)):(Go.Lib.join ws [32]).length<=(ws.map List.length).sum+ws.length:=by
 cases ws with
 | nil=>simp[Go.Lib.join_nil]
 | cons x r=>
   rw[Go.Lib.join_length];have:Go.Lib.lens (x::r)=((x::r).map List.length).sum:=rfl;rw[this];simp only[d6,i6];omega
def eR (ws:List (List UInt8)):List (List V):=ws.map fun x=>[.t (.str (bs x))]
theorem xW (ws:List (List UInt8)):(eR ws).length=ws.length:=by simp[eR]
theorem xX (a b:List (List UInt8)):eR (a++b)=eR a++eR b:=by simp[eR]
theorem xY (ws:List (List UInt8)):((eR ws).all fun r=>decide (r.length=1))=true:=by simp[eR]
theorem XB (h:ae) (d:Nat) (ws:List (List UInt8)):(eR ws).mapM (fun row=>row.mapM (toT h d))=some (ws.map fun x=>[.str (bs x)]):=by
 have e:eR ws=(ws.map fun x=>[T.str (bs x)]).map (·.map V.t):=by simp[eR]
 rw[e,mu h d _ (by
  intro e b t a;obtain⟨x,_,rfl⟩:=df.1 b
  simp at a;subst a;rfl)]
theorem XT (ws:List (List UInt8)):mP (ws.map fun x=>[T.str (bs x)])=some (ws.map bs):=by
 induction ws with
 | nil=>rfl
 | cons x r a=>simp only[aT,mP,a,cU]
theorem kav (ws:List (List UInt8)) (h:(Go.Lib.join ws [32]).length<=140737488355328) (a:ws.length<=140737488355328):
 Den Γ G 259 [.t (.sl (ws.map fun x=>[.str (bs x)])),.t (.str (bs [32]))]=some (.t (.str (bs (Go.Lib.join ws [32])))):=by
 refine Sk (e:=.joinS) Γ259 rfl rfl ?_
 have e:ot (ws.map bs) (bs [32])=bs (Go.Lib.join ws [32]):=by
  unfold ot;rw[me];have:(fun x:ByteArray=>x.data.toList)∘bs=id:=by funext x;exact kcE x
  rw[this,List.map_id];rfl
 show(mP _).bind _=_;rw[XT];simp only[zD,e];rw[ah ⟨ak a,by rw[kcD];exact h⟩]
def inI (z:Int):Prop:= -9223372036854775808<=z/\z<=9223372036854775807
end Rg
end
section
set_option maxRecDepth 100000
namespace Rg
open Go
def UE (l:Loop):List (List UInt8):=[[108,111,111,112],num l.head,l.variant.text]
def loopX (l:Loop):List UInt8:=U2 (UE l++l.body.map num)
end Rg
end
section
set_option maxRecDepth 100000
namespace Rg
open Go
end Rg
end
section
set_option maxRecDepth 100000
namespace Rg
open Go
end Rg
end
section
set_option maxRecDepth 100000
namespace Rg
open Go
theorem Vr (c:List Int) (o:c.Pairwise (· <= ·)) (m:Nat) (u:m<=c.length):(Go.Lib.compactUpTo c.toArray m).Pairwise (· < ·):=by
 have e: ∀i j:Nat,i<=j->j<c.length->c.toArray[i]! <=c.toArray[j]! :=by
  intro i j g l;rw[getElem!_pos c.toArray i (by simp;omega),getElem!_pos c.toArray j (by simp;omega)];simp only[List.getElem_toArray];rcases Nat.lt_or_eq_of_le g with h | h
  ·exact qn.1 o i j aa l h
  ·subst h;exact iY _
 unfold Go.Lib.compactUpTo;rw[List.pairwise_map];have k:=(vT (n:=m)).filter (Go.Lib.keeps c.toArray);refine k.imp_of_mem ?_;intro a b t f p;have q:=dN.1 (ic.1 f).1;have d:=(ic.1 f).2;have r:=e a (b-1) aa aa;have s:=e (b-1) b aa aa;simp only[Go.Lib.keeps,eZ,aR,bne_iff_ne,ne_eq]at d;rcases d with d | d
 ·omega
 ·omega
theorem Vv (l:List Int):(qL l).Pairwise (· < ·):=by
 unfold qL Go.Lib.compact;refine Vr _ ?_ _ (aA _);have:=List.pairwise_mergeSort (le:=fun x y:Int=>decide (x<=y)) (by intro a b c d e;simp at *;omega) (by intro a b;simp;omega) l;exact this.imp (by intro a b h;simpa using h)
structure LoopF (p:Prog) (x:Thread) (l:Loop) (A:Expr):Prop where
 h0:0<=l.head
 hA:x.asserts[l.head.toNat]? =some A
 vA:A.valid p.cells false=true
 wA:A.w=1
 vV:l.variant.valid p.cells false=true
 nb:gl l (-1)=false
theorem kaU {p:Prog} (q:aO p=true) {t j:Nat} {x:Thread} {l:Loop} (e:p.threads[t]? =some x) (s:x.loops[j]? =some l): ∃A,LoopF p x l A:=by
 have d:=uN.1 (show p.ok by simpa[aO]using q);obtain⟨_,_,⟨v,w,_⟩,_,m,_,n⟩:=HH.1 (d.threads t x e);obtain⟨⟨b,u,h⟩,i,_⟩:=JG.1 (n j l s);have y:=(KB.1 d.lim).2 x (zL e);simp only[inR,aR]at b;have f:l.head.toNat<x.asserts.length:=aa
 have c:=zI f;have a:=zN.1 m _ (zL c);simp only[cB,zF,aR]at a
 have g: ∀k∈l.body,0<=k/\k<x.points:=fun k r=>by
  have:=zN.1 h k r;simp only[inR,zF,aR]at this;exact this.1
 refine⟨_,b.1,c,a.1.1,a.1.2,i,?_⟩
 ·simp only[gl,jm,ek];refine⟨aa,?_⟩;cases o:l.body.contains (-1)
  ·rfl
  ·have:=g (-1) (ak o);omega
theorem kat {w:Int} (h:1<=w/\w<=12):IntKind.i64.wrap (1*2^min w.toNat IntKind.i64.bits)=2^w.toNat:=by
 have:(2:Int)^w.toNat<=2^12:=kQ (i:=w.toNat) (k:=12) aa;have:=iG w.toNat;rw[show min w.toNat IntKind.i64.bits=w.toNat from iZ (by show w.toNat<=64;omega),xh];exact bq aa
theorem kas {w:Int} (h:1<=w/\w<=12):IntKind.i64.wrap (2^w.toNat-1)=2^w.toNat-1:=by
 have:(2:Int)^w.toNat<=2^12:=kQ (i:=w.toNat) (k:=12) aa;have:=iG w.toNat;exact bq aa
theorem kbF {a:Int} {w:Int} (h:1<=w/\w<=12):a.fdiv (2^min w.toNat IntKind.i64.bits)=a/ 2^w.toNat:=by
 have:=iG w.toNat;rw[show min w.toNat IntKind.i64.bits=w.toNat from iZ (by show w.toNat<=64;omega),So _ aa]
theorem wB (p:Prog) (l:List Int) (c:Int):cK p (l++[c])=cK p l+wOf p c:=by simp[cK]
theorem Pb (p:Prog) (c:Int): ∀(l:List Int) (n:Int) (s:List Int),stM p (l++[c]) n s=(stM p l n s).set c.toNat (n/ 2^cK p l % 2^wOf p c)
 | [],n,s=>by simp[stM,cK]
 | x::l,n,s=>by
   rw[i8,stM,Pb p c l,stM];have:cK p (x::l)=wOf p x+cK p l:=by simp[cK]
   rw[this,Int.pow_add,<- FI (Int.le_of_lt (iG _))]
structure Vis where
 c:Config
 fr:Int
 x:Choice
 deriving Inhabited
def g6 (l:List Vis) (c:Config):Bool:=l.any fun v=>decide (v.c=c)
def lH (a:Nat) (l:List Vis) (v:Vis):Option (List Vis):=if g6 l v.c then some l else if a<=l.length then none else some (l++[v])
def g9 (a:Nat):List Vis->List Vis->Option (List Vis)
 | l,[]=>some l
 | l,v::r=>(lH a l v).bind fun l'=>g9 a l' r
def eX (p:Prog) (k:Int) (c:Config) (i:Nat):List Vis:=(c_ p k c).map fun x=>⟨(dy p k c x).1,i,x⟩
def goV (p:Prog) (k:Int) (a:Nat):Nat->Nat->List Vis->Option (List Vis)
 | 0,_,l=>some l
 | f+1,i,l=>match l[i]? with
   | some v=>(g9 a l (eX p k v.c i)).bind fun l'=>goV p k a f (i+1) l'
   | none=>some l
def v0 (p:Prog):Vis:=⟨ee p,-1,⟨0,0,0⟩⟩
def dX (p:Prog) (k:Int) (a:Nat):Option (List Vis):=goV p k a (a+1) 0 [v0 p]
theorem SC {a:Nat} {l l':List Vis} {v:Vis} (h:lH a l v=some l'):l.length<=l'.length/\(l.length<=a->l'.length<=a)/\(∃r,l'=l++r):=by
 unfold lH at h;split at h
 ·cases h;exact⟨aA _,id,[],af⟩
 ·split at h
  ·cases h
  ·cases h;exact⟨af,fun _=>by simp;omega,_,rfl⟩
theorem Zh {a lim':Nat} (c:a<=lim') {l l':List Vis} {v:Vis} (h:lH a l v=some l'):lH lim' l v=some l':=by
 unfold lH at h⊢;split
 ·rename_i b;rw[ah b]at h;exact h
 ·rename_i b;rw[ac b]at h;split at h
  ·cases h
  ·rw[ac aa];exact h
theorem KP {a lim':Nat} (b:a<=lim'): ∀{r l l':List Vis},g9 a l r=some l'->g9 lim' l r=some l'
 | [],l,l',h=>h
 | v::r,l,l',h=>by
   simp only[g9,zB]at h⊢;obtain⟨m,c,h⟩:=h;exact⟨m,Zh b c,KP b h⟩
theorem ut {a:Nat}: ∀{r l l':List Vis},g9 a l r=some l'->(l.length<=a->l'.length<=a)/\ ∃s,l'=l++s
 | [],l,l',h=>by cases h;exact⟨id,[],af⟩
 | v::r,l,l',h=>by
   simp only[g9,zB]at h;obtain⟨m,d,h⟩:=h;obtain⟨_,b,e,rfl⟩:=SC d;obtain⟨c,f,rfl⟩:=ut h;exact⟨fun q=>c (b q),e++f,af⟩
theorem QG {p:Prog} {k:Int} {b lim':Nat} (d:b<=lim'): ∀{f a i:Nat} {l l':List Vis},l.length<=b->b+1<=f+i->lim'+1<=a+i->goV p k b f i l=some l'->goV p k lim' a i l=some l'
 | 0,a,i,l,l',h1,h2,h3,h=>by
   cases h
   cases a with
   | zero=>rfl
   | succ a=>
     rw[goV];have:l[i]? =none:=fO aa
     rw[this]
 | f+1,a,i,l,l',h1,h2,h3,h=>by
   rw[goV]at h
   cases c:l[i]? with
   | none=>
     rw[c]at h;cases h
     cases a with
     | zero=>rfl
     | succ a=>rw[goV,c]
   | some v=>
     rw[c]at h;simp only[zB]at h;obtain⟨m,e,h⟩:=h;have hi:=(zH.1 c).1
     cases a with
     | zero=>omega
     | succ a=>
       rw[goV,c];simp only[KP d e,zD];exact QG d ((ut e).1 h1) aa aa h
theorem Za {p:Prog} {k:Int} {a lim':Nat} (b:1<=a) (c:a<=lim') {l:List Vis} (h:dX p k a=some l):dX p k lim'=some l:=
 QG c (ak b) aa aa h
structure VisOk (p:Prog) (k:Int) (l:List Vis) (i:Nat):Prop where
 le:i<=l.length
 nd:(l.map Vis.c).Nodup
 z:l[0]? =some (v0 p)
 is: ∀v∈l,IsK p k v.c
 pre: ∀(j:Nat) (v:Vis),0<j->l[j]? =some v-> ∃(q:Nat) (u:Vis),q<j/\l[q]? =some u/\v.fr=q/\v.x∈c_ p k u.c/\v.c=(dy p k u.c v.x).1
 cl: ∀(j:Nat) (u:Vis),j<i->l[j]? =some u-> ∀x∈c_ p k u.c,∃v∈l,v.c=(dy p k u.c x).1
theorem pu {l:List Vis} {c:Config}:g6 l c=true<-> ∃v∈l,v.c=c:=by simp[g6]
theorem VisOk.add {p:Prog} (H:aO p=true) {k:Int} {s i q:Nat} {l l':List Vis} {u:Vis} {x:Choice} (h:VisOk p k l i) (r:l[q]? =some u) (A:x∈c_ p k u.c)
 (f:lH s l ⟨(dy p k u.c x).1,q,x⟩=some l'):VisOk p k l' i/\ ∃v∈l',v.c=(dy p k u.c x).1:=by
 unfold lH at f;split at f
 ·rename_i o;cases f;exact⟨h,pu.1 o⟩
 ·rename_i o;split at f
  ·cases f
  cases f;have g:=zL r;obtain⟨d,I,G⟩:=sc H (h.is u g) A;have C:=(zH.1 r).1;have L:=h.le;refine⟨⟨by simp;omega,?_,?_,?_,?_,?_⟩,⟨(dy p k u.c x).1,q,x⟩,af,rfl⟩
  ·rw[dZ,oU];refine⟨h.nd,af,?_⟩;intro a f b z B;simp only[aT,be,bD]at z;subst z B;obtain⟨v,c,e⟩:=df.1 f;exact o (pu.2 ⟨v,c,e⟩)
  ·rw[bP aa];exact h.z
  ·intro v c;rcases cx.1 c with c | c
   ·exact h.is v c
   ·simp only[bD]at c;subst c;rw[I];exact G
  ·intro j v n c;rcases bv j l.length with m | w
   ·rw[bP m]at c;obtain⟨K,t,D,E,F⟩:=h.pre j v n c;exact⟨K,t,D,by rw[bP aa];exact E,F⟩
   ·rw[eE w]at c
    have:j-l.length=0:=by
     have:=(zH.1 c).1;simp at this;omega
    rw[this]at c;cases c;exact⟨q,u,aa,by rw[bP C];exact r,rfl,A,rfl⟩
  ·intro j t n g y J;rcases bv j l.length with m | w
   ·rw[bP m]at g;obtain⟨v,c,e⟩:=h.cl j t n g y J;exact⟨v,by simp[c],e⟩
   ·omega
theorem VisOk.adds {p:Prog} (f:aO p=true) {k:Int} {d i q:Nat} {u:Vis}: ∀{xs:List Choice} {l l':List Vis},VisOk p k l i->l[q]? =some u->(∀x∈xs,x∈c_ p k u.c)->
 g9 d l (xs.map fun x=>⟨(dy p k u.c x).1,q,x⟩)=some l'->VisOk p k l' i/\l'[q]? =some u/\(∀x∈xs,∃v∈l',v.c=(dy p k u.c x).1)
 | [],l,l',h,hu,_,a=>by cases a;exact⟨h,hu,fun x c=>by simp at c⟩
 | y::xs,l,l',h,hu,c,a=>by
   simp only[aT,g9,zB]at a;obtain⟨m,g,a⟩:=a;obtain⟨o,v,j,e⟩:=h.add f hu (c y af) g;obtain⟨_,_,s,rfl⟩:=SC g;have n:=(zH.1 hu).1;obtain⟨r,t,w⟩:=VisOk.adds f o (by rw[bP n];exact hu) (fun x b=>c x (by simp[b])) a;refine⟨r,t,fun x b=> ?_⟩;rcases cq.1 b with rfl | b
   ·obtain⟨z,rfl⟩:=(ut a).2;exact⟨v,by simp only[cx]at j⊢;exact .inl j,e⟩
   ·exact w x b
theorem VisOk.go {p:Prog} (q:aO p=true) {k:Int} {b:Nat}: ∀{f i:Nat} {l l':List Vis},VisOk p k l i->l.length<=b->b+1<=f+i->goV p k b f i l=some l'->VisOk p k l' l'.length/\l'.length<=b
 | 0,i,l,l',h,hl,BJ,a=>by
   have:=h.le
   omega
 | f+1,i,l,l',h,hl,BJ,a=>by
   rw[goV]at a
   cases d:l[i]? with
   | none=>
     rw[d]at a;cases a
     have:i=l.length:=by
      have:=h.le;have:=ox.1 d;omega
     exact⟨this▸h,hl⟩
   | some v=>
     rw[d]at a;simp only[zB]at a;obtain⟨m,r,a⟩:=a;obtain⟨c,o,s⟩:=VisOk.adds q h d (fun x e=>e) r;have t:=(zH.1 o).1;refine VisOk.go q ⟨aa,c.nd,c.z,c.is,c.pre,?_⟩ ((ut r).1 hl) aa a;intro j u w g x e;rcases bv j i with n | n
     ·exact c.cl j u n g x e
     ·have:j=i:=aa
      subst this;rw[o]at g;cases g;exact s x e
theorem N8 {p:Prog} (c:aO p=true) {k:Int} {a:Nat} (d:1<=a) {l:List Vis} (h:dX p k a=some l):VisOk p k l l.length/\l.length<=a:=by
 refine VisOk.go c ⟨af,af,rfl,?_,?_,fun j u e=>aa⟩ (ak d) aa h
 ·intro v b;simp only[bD]at b;subst b;exact r7 c k
 ·intro j v e b;have:=(zH.1 b).1;simp at this;omega
def l_ (e:Entry):List Int:=(e.cells.zip e.values).flatMap fun q=>[q.1,q.2]
def dI (e:Entry):List Int:=(e.cells.length:Int)::l_ e
def dW (b:List Entry):List Int:=(b.length:Int)::b.flatMap dI
def iQ (sh:Int) (c:Config):List Int:=c.mem++c.at_.map (· +sh)++c.buf.flatMap dW
theorem Rw: ∀{a b c b' r d:List Int},a.length=b.length->c.length=b'.length->a.length=c.length->
 (a.zip b).flatMap (fun q=>[q.1,q.2])++r=(c.zip b').flatMap (fun q=>[q.1,q.2])++d->a=c/\b=b'/\r=d
 | [],[],[],[],r,d,_,_,_,h=>⟨rfl,rfl,ak h⟩
 | x::a,y::b,x'::c,y'::b',r,d,h1,h2,h3,h=>by
   simp only[wi,dq,i8,eY,gh]at h;obtain⟨rfl,rfl,h⟩:=h;obtain⟨rfl,rfl,rfl⟩:=Rw (ak h1) (ak h2) (ak h3) h
   exact⟨rfl,rfl,rfl⟩
 | [],_::_,_,_,_,_,h1,_,_,_=>by simp at h1
 | _::_,[],_,_,_,_,h1,_,_,_=>by simp at h1
 | _,_,[],_::_,_,_,_,h2,_,_=>by simp at h2
 | _,_,_::_,[],_,_,_,h2,_,_=>by simp at h2
 | [],_,_::_,_,_,_,_,_,h3,_=>by simp at h3
 | _::_,_,[],_,_,_,_,_,h3,_=>by simp at h3
theorem kak {e f:Entry} {r g:List Int} (c:e.values.length=e.cells.length) (d:f.values.length=f.cells.length) (h:dI e++r=dI f++g):e=f/\r=g:=by
 obtain⟨a,b⟩:=e;obtain⟨l,b'⟩:=f;simp only[dI,l_,i8,gh]at h c d;obtain⟨i,j,k⟩:=Rw c.symm d.symm aa h.2;exact⟨by rw[i,j],k⟩
theorem PW: ∀{b b':List Entry} {r a:List Int},(∀e∈b,e.values.length=e.cells.length)->(∀e∈b',e.values.length=e.cells.length)->b.length=b'.length->
 b.flatMap dI++r=b'.flatMap dI++a->b=b'/\r=a
 | [],[],r,a,_,_,_,h=>⟨rfl,ak h⟩
 | e::b,f::b',r,a,h1,h2,h3,h=>by
   simp only[dq,zQ]at h;obtain⟨rfl,h'⟩:=kak (h1 e af) (h2 f af) h;obtain⟨rfl,rfl⟩:=PW (b:=b) (b':=b') (fun x c=>h1 x (by simp[c])) (fun x c=>h2 x (by simp[c])) (ak h3) h'
   exact⟨rfl,rfl⟩
 | [],_::_,_,_,_,_,h,_=>by simp at h
 | _::_,[],_,_,_,_,h,_=>by simp at h
theorem kcc {b b':List Entry} {r a:List Int} (c: ∀e∈b,e.values.length=e.cells.length) (d: ∀e∈b',e.values.length=e.cells.length) (h:dW b++r=dW b'++a):b=b'/\r=a:=by
 simp only[dW,i8,gh]at h;exact PW c d aa h.2
theorem Qe: ∀{l l':List (List Entry)},(∀b∈l,∀e∈b,e.values.length=e.cells.length)->(∀b∈l',∀e∈b,e.values.length=e.cells.length)->l.length=l'.length->
 l.flatMap dW=l'.flatMap dW->l=l'
 | [],[],_,_,_,_=>rfl
 | b::l,b'::l',h1,h2,h3,h=>by
   simp only[dq]at h;obtain⟨rfl,h'⟩:=kcc (h1 b af) (h2 b' af) h
   rw[Qe (l:=l) (l':=l') (fun x a=>h1 x (by simp[a])) (fun x a=>h2 x (by simp[a])) (ak h3) h']
 | [],_::_,_,_,h,_=>by simp at h
 | _::_,[],_,_,h,_=>by simp at h
theorem IsB.ent {p:Prog} {c:Config} (h:IsB p c): ∀b∈c.buf,∀e∈b,Proper p e:=by
 intro b a e d;obtain⟨t,f⟩:=eC a;exact(h.buf t b f).2.1 e d
theorem Q3 {p:Prog} {sh:Int} {c d:Config} (f:IsB p c) (g:IsB p d) (h:iQ sh c=iQ sh d):c=d:=by
 obtain⟨m,a,b⟩:=c;obtain⟨s,l,b'⟩:=d;simp only[iQ,zQ]at h;have o:m.length=s.length:=f.lm.trans g.lm.symm;obtain⟨rfl,h'⟩:=List.append_inj h o;have q:a.length=l.length:=f.la.trans g.la.symm;obtain⟨i,n⟩:=List.append_inj h' (ak q);have i:a=l:=(List.map_inj_right fun x y e=>aa).1 i;subst i;have r:b.length=b'.length:=f.lb.trans g.lb.symm;have:=Qe (fun x k e j=>(f.ent x k e j).len) (fun x k e j=>(g.ent x k e j).len) r n;simp only at this;rw[this]
theorem mj {p:Prog} (d:aO p=true):p.cells.length<=32/\(∀y∈p.cells,y.w<=8)/\(∀x∈p.threads,x.points<=48):=by
 have a:=uN.1 (show p.ok by simpa[aO]using d);obtain⟨⟨b,_⟩,c⟩:=KB.1 a.lim;refine⟨b,fun y f=> ?_,fun x e=>(c x e).1⟩;obtain⟨i,hi⟩:=eC f;have:=(Jy.1 (a.cells i y hi)).1;simp only[fY,jm,ek]at this;omega
theorem yI {w:Int} (h:w<=8) {v:Int} (a:v<2^w.toNat):v<256:=by
 have:=kQ (i:=w.toNat) (k:=8) aa;omega
theorem qa {p:Prog} (r:aO p=true) {sh:Int} (x:0<=sh/\sh<=1) {c:Config} (h:IsB p c): ∀n∈iQ sh c,sh-1<=n/\n<256:=by
 obtain⟨B,k,v⟩:=mj r;intro n d;simp only[iQ,cx,df,de]at d;rcases d with(d | ⟨a,m,rfl⟩) | ⟨b,j,d⟩
 ·obtain⟨i,hi⟩:=eC d;have g:=(zH.1 hi).1;rw[h.lm]at g;have f:=zI g;have:=h.mem i n _ hi f;have:=yI (k _ (zL f)) this.2;omega
 ·obtain⟨i,hi⟩:=eC m;have g:=(zH.1 hi).1;rw[h.la]at g;have f:=zI g;have:=h.at_ i a _ hi f;have:=v _ (zL f);omega
 ·have l:=h.ent b j;obtain⟨t,u⟩:=eC j;have z:=(h.buf t b u).1;simp only[dW,cq,de]at d;rcases d with rfl | ⟨e,o,d⟩
  ·omega
  ·have hp:=l e o;simp only[dI,l_,cq,de,ka,dQ]at d;rcases d with rfl | ⟨q,s,d⟩
   ·have:=gQ hp;omega
   ·obtain⟨A,y,f,_,v0,w⟩:=IH hp s;have g:=(zH.1 f).1;have:=yI (k _ (zL f)) w;rcases d with rfl | rfl<;>omega
def kK (A V:Expr):List Int:=qL (A.sup 2++V.sup 2)
theorem N7 {p:Prog} (a:aO p=true) {y:Cell} (c:y∈p.cells):1<=y.w/\y.w<=8:=by
 have b:=uN.1 (show p.ok by simpa[aO]using a);obtain⟨i,hi⟩:=eC c;have:=(Jy.1 (b.cells i y hi)).1;simp only[fY,jm,ek]at this;omega
theorem ZV {p:Prog} {A V:Expr} (b:A.valid p.cells false=true) (d:V.valid p.cells false=true): ∀c∈kK A V,0<=c/\c<p.cells.length:=by
 intro c a;rw[kK,Iu,cx]at a;rcases a with a | a
 ·exact pH b 2 (.inl rfl) c a
 ·exact pH d 2 (.inl rfl) c a
theorem Xu (A V:Expr):(kK A V).length<=64:=by
 have a:=W2 (A.sup 2++V.sup 2);have b:=nD 2 A;have c:=nD 2 V;rw[zM]at a;rw[kK];omega
def qu (l:List Int):List Int:=l.mergeSort fun x y=>decide (x<=y)
theorem Yr (H:ae) (x n:Nat) (v:V) (l:List Int) (e:ay H x v 1 (ai l)) (g:l.length<2^40):
 ∃r h' a,DenR Γ G 74 [v] H n=some (r,h',a)/\r= .tup []/\ay h' x v 1 (ai (qu l))/\a=n:=by
 rcases e with⟨rfl,f⟩ | ⟨k,rfl,d,c⟩
 ·have b:l=[]:=by
   have:=bz List.length f;rw[aB]at this;exact fo this
  subst b;exact⟨_,_,_,pF Γ74 rfl rfl rfl,rfl,.inl ⟨rfl,by rw[qu,List.mergeSort_nil];rfl⟩,rfl⟩
 ·rw[aB]
  refine⟨_,upd H k (some (.rows 1 (ai (qu l)) false)),n,pF Γ74 rfl rfl (by
   simp only[ji,c,wj,zD,IN]
   rw[ah (by exact⟨trivial,aa⟩)];rfl),rfl,.inr ⟨k,by rw[aB,qu,sZ],d,by rw[cR]⟩,rfl⟩
theorem Wv (H:ae) (x n:Nat) (v:V) (l:List Int) (d:ay H x v 1 (ai l)) (g:l.length<2^40):
 ∃r h' a,DenR Γ G 75 [v] H n=some (r,h',a)/\r= .t (ints (Go.Lib.compact l))/\a=n:=by
 rcases d with⟨rfl,e⟩ | ⟨k,rfl,f,c⟩
 ·have b:l=[]:=by
   have:=bz List.length e;rw[aB]at this;exact fo this
  subst b;exact⟨_,_,_,pF Γ75 rfl rfl rfl,rfl,rfl⟩
 ·rw[aB]
  exact⟨_,_,_,pF Γ75 rfl rfl (by
   simp only[ji,c,wj,zD,IN]
   rw[ah ⟨trivial,aa⟩]),rfl,rfl⟩
theorem ay.cellsV {h:ae} {x:Nat} {v:V} {a:Nat} {rows:List (List V)} (o:ay h x v a rows):V.cells v=some [v]:=by
 rcases o with⟨rfl,_⟩ | ⟨k,rfl,_,_⟩<;>rfl
theorem ay.upd' {h:ae} {x k:Nat} {v:V} {a:Nat} {rows:List (List V)} {o':Option O} (o:ay h x v a rows) (e:x<=k):ay (updC h k o') (k+3) v a rows:=by
 rcases o with o | ⟨q,b,d,c⟩
 ·exact .inl o
 ·exact .inr ⟨q,b,aa,by rw[aq,ac aa];exact c⟩
theorem kaD {s:List Int} {c:Nat} (h:c<s.length):(ai s)[c]? =some [vi s[c]]:=by simp[ai,h]
theorem kaC (s:List Int) (c:Nat) (v:Int):(ai s).set c [.t (.int .i64 v)]=ai (s.set c v):=by simp[ai,oJ]
theorem XR {h:ae} {k len:Nat} {s:List Int} {a:Bool} (d:h k=some (.rows 1 (ai s) a)) (e:len=s.length):toT1 h (.ms k 0 len)=some (.t (ints s)):=by
 have b:=mu h 999 (s.map fun n=>[ti n]) (iB _)
 have c:toT h 1000 (.ms k 0 len)=some (ints s):=by
  rw[toT,d];simp only[rd,gq,ie];rw[ah (by rw[aB];omega),c7 (by rw[aB];omega)];simp only[zC,zD];rw[show ai s=(s.map fun n=>[ti n]).map (·.map V.t)from rfl,b];rfl
 simp only[toT1,c,cU]
theorem Y9 (p:Prog) (hs:p.sane) (M:aO p=true) {t j:Nat} {x:Thread} {l:Loop} {A:Expr} (hx:p.threads[t]? =some x) (hl:x.loops[j]? =some l) (K:LoopF p x l A):
 Den Γ G 336 [(zP p),vi t,vi j]=some (.tup [vi (if cK p (kK A l.variant)>12 then 0 else zt p (kK A l.variant) A l.variant),vi (if cK p (kK A l.variant)>12 then 2 else 0)]):=by
 have hv:=wp p hs M hx hl;obtain⟨hd,Pk⟩: ∃n:Nat,l.head=n:=⟨l.head.toNat,by have:=K.h0;omega⟩
 have Y:=K.hA;rw[Pk,ng]at Y
 refine aD (q:=bG hv hx hl Pk Y ?_);refine bf (xf A _ _) ?_;rintro r1 h1 n1 ⟨a3,a2,rfl,w,d,Fj,AT⟩;have C:=w.valOf;have q2:=d.valOf;refine aG C q2 ?_;refine bf (xf l.variant _ _) ?_;rintro r2 h2 n2 ⟨b3,b2,rfl,B,e,Fh,AF⟩;have q3:=B.valOf;have q4:=e.valOf;have oa2':ay h2 n2 a2 1 (ai (A.sup 2)):=d.keep aa fun k hk _=>(AF k aa).1
 have W:=d.cellsV;have X:=e.cellsV;unfold V.cells at W X;refine bG q2 q3 q4 W X ?_;have RD:=nD 2 A;have RB:=nD 2 l.variant;refine bf (Xo (A.sup 2) (l.variant.sup 2) aa aa _ _ (n2+2) a2 b2 (by rw[aq,ah rfl]) aa (oa2'.upd' aa) (e.upd' aa)) ?_;clear d w e B oa2' AT AF C q2 q3 q4 W X;rintro r h3 n3 ho;have C:=ho.valOf;refine ar C ?_;refine bf (Yr _ _ _ _ _ ho (by simp;omega)) ?_;rintro r4 h4 n4 ⟨rfl,Qm,Qt⟩;refine ar C ?_;refine bf (Wv _ _ _ _ _ Qm (by rw[qu,sZ];simp;omega)) ?_;rintro r5 h5 n5 ⟨rfl,Qs⟩;rw[show Go.Lib.compact (qu (A.sup 2++l.variant.sup 2))=kK A l.variant from rfl]
 generalize hC:kK A l.variant=L
 have E:=ZV K.vA K.vV;have Pu:=Xu A l.variant;rw[hC]at E Pu;have S: ∀(c:Int) (y:Cell),p.cells[c.toNat]? =some y->1<=y.w/\y.w<=8/\wOf p c=y.w.toNat:=fun c y b=>⟨(N7 M (zL b)).1,(N7 M (zL b)).2,by rw[wOf,b]⟩
 have LP: ∀i,cK p (L.take i)<=8*i:=by
  intro i
  induction i with
  | zero=>simp[cK]
  | succ i ih=>
    by_cases hi:i<L.length
    ·obtain⟨c,g,o⟩:=aw hi;obtain⟨J,U⟩:=E c o;obtain⟨y,b,_⟩:=aw (show c.toNat<p.cells.length from aa);obtain⟨_,w2,m⟩:=S c y b;rw[bc g,wB,m];omega
    ·rw[c7 aa]at ih⊢;omega
 refine ax ?_;refine aS 151097280707754937450496 L.length (fun i f h z=>(f 64).v=vi i/\(f 15).v=vi (cK p (L.take i))) rfl ⟨am,by simp -dsimp only[go_sem,seval];rfl⟩ ?_;rintro i f u H q bs hi ⟨R,D⟩;have hw:=aC i aa;refine ar R ?_;refine aQ R ?_ ?_<;>intro h
 ·obtain⟨c,g,o⟩:=aw ‹i<L.length›;obtain⟨J,U⟩:=E c o;obtain⟨y,b,_⟩:=aw (show c.toNat<p.cells.length from aa);obtain⟨w1,w2,m⟩:=S c y b;have v:=LP i
  have MO:IntKind.i64.wrap ((cK p (L.take i):Int)+y.w)=cK p (L.take (i+1)):=by
   rw[bc g,wB,m,Int.natCast_add,show((y.w.toNat:Nat):Int)=y.w by omega];exact bq aa
  refine bG R D g J b ?_;exact⟨aa,al hw,al MO⟩
 ·have:i=L.length:=aa
  subst this;rw[bg]at D;refine ar D ?_
  by_cases v:cK p L>12
  ·have O:(cK p L:Int)>12:=aa
   rw[ah v,ah v];exact al O
  ·have O: ¬(cK p L:Int)>12:=aa
   rw[ac v,ac v];have By:=(mj M).1;have e1:(p.cells.length:Int)<=4294967296:=aa
   have Bo:IntKind.i64.wrap (1*2^min (cK p L) 64)=((2^cK p L:Nat):Int):=by
    have:(2:Nat)^cK p L<=4096:=ru (n:=2) (j:=12) aa aa;rw[show min (cK p L) 64=cK p L from iZ aa,xh,show(2:Int)^cK p L=((2^cK p L:Nat):Int)by simp]
    generalize(2:Nat)^cK p L=z at *
    exact bq aa
   have Co: ¬(cK p L:Int)<0:=aa
   refine cw O e1 @iY D Bo Co ?_;clear Bo;have P3:(2:Nat)^cK p L<=4096:=ru (n:=2) (j:=12) aa aa;unfold zt
   generalize hZ:(2:Nat)^cK p L=Z at *
   refine aS 21778071482940022976029747207499580440576 Z (fun n f h z=>(f 85).v=vi n/\(f 18).v=vi (dk p L A l.variant n).2/\h (q+1+2+1+3)=some (.rows 1 (ai (dk p L A l.variant n).1) false)/\q+1+2+1+3<z) rfl ⟨am,by simp -dsimp only[go_sem,seval];rfl,by simp -dsimp only[go_sem,seval];simp[dk,ai],av⟩ ?_;rintro n f2 u2 H2 z2 bs2 hn ⟨I,P,Ck,BY⟩;have BO:=aC n aa;refine ar I ?_;refine aQ I ?_ ?_<;>intro h
   ·refine aS 83076748498617202771107666373640192 L.length (fun i f h z=>(f 90).v=vi i/\(f 20).v=vi ((n:Int)/ 2^cK p (L.take i))/\h (q+1+2+1+3)=some (.rows 1 (ai (stM p (L.take i) n (dk p L A l.variant n).1)) false)/\q+1+2+1+3<z) rfl ⟨am,by simp -dsimp only[go_sem,seval];simp[cK],by simp -dsimp only[go_sem,seval];exact Ck,av⟩ ?_;rintro i f3 u3 H3 z3 bs3 C8 ⟨T,Ru,s,Qy⟩;have Gl:=aC i aa;refine ar T ?_;refine aQ T ?_ ?_<;>intro h
    ·obtain⟨c,g,o⟩:=aw ‹i<L.length›;obtain⟨J,U⟩:=E c o;obtain⟨y,b,_⟩:=aw (show c.toNat<p.cells.length from aa);obtain⟨w1,w2,m⟩:=S c y b;have k1: ¬y.w<0:=aa
     have k2:IntKind.i64.wrap (1*2^min y.w.toNat 64)=2^y.w.toNat:=kat aa;have k3:IntKind.i64.wrap (2^y.w.toNat-1)=2^y.w.toNat-1:=kas aa;have k4: ∀a:Int,IntKind.i64.wrap ((BitVec.ofInt IntKind.i64.bits a&&& BitVec.ofInt IntKind.i64.bits (2^y.w.toNat-1)).toNat)=a % 2^y.w.toNat:=fun a=>us a y.w aa
     have k5: ∀a:Int,a.fdiv (2^min y.w.toNat 64)=a/ 2^y.w.toNat:=fun a=>kbF aa
     have N:c.toNat<(stM p (L.take i) n (dk p L A l.variant n).1).length:=by rw[ve,xl];omega
     have B5:=kaD N;simp -dsimp only[go_sem,seval,T,Ru,g,J,U,b,s,k1,k2,k3,k4,k5,B5,kaC];refine⟨aa,al Gl,?_,?_,av⟩
     ·refine bw (bc g) @wB m @Int.pow_add ?_;rw[FI (Int.le_of_lt (iG _))]
     ·exact dp (bc g) @Pb m
    ·have:i=L.length:=aa
     subst this;rw[bg]at s;have Ac:=xl p L A l.variant n;have N:(stM p L n (dk p L A l.variant n).1).length=p.cells.length:=by rw[ve,Ac]
     have hT:=XR (h:=H3) (len:=p.cells.length) s N.symm;have OA:=pa A (stM p L n (dk p L A l.variant n).1) (stM p L n (dk p L A l.variant n).1);have JY:=pa l.variant (stM p L n (dk p L A l.variant n).1) (stM p L n (dk p L A l.variant n).1);simp -dsimp only[go_sem,seval,Y,↓hT,OA];have Gv:(dk p L A l.variant (n+1)).1=stM p L n (dk p L A l.variant n).1:=by rw[t6];rfl
     by_cases F:A.eval (stM p L n (dk p L A l.variant n).1) (stM p L n (dk p L A l.variant n).1)=1
     ·have Q:(dk p L A l.variant (n+1)).2=if l.variant.eval (stM p L n (dk p L A l.variant n).1) (stM p L n (dk p L A l.variant n).1)>(dk p L A l.variant n).2 then l.variant.eval (stM p L n (dk p L A l.variant n).1) (stM p L n (dk p L A l.variant n).1)else(dk p L A l.variant n).2:=by
       rw[t6,rK];simp only[ah F]
      simp -dsimp only[go_sem,seval,F,P,↓hT,JY,I];refine⟨aa,al BO,?_,by simp -dsimp only[go_sem,seval,Gv];exact s,av⟩;exact al Q
     ·have Q:(dk p L A l.variant (n+1)).2=(dk p L A l.variant n).2:=by
       rw[t6,rK];simp only[ac F]
      refine aG F I ?_;refine⟨aa,al BO,a_ Q P,by simp -dsimp only[go_sem,seval,Gv];exact s,av⟩
   ·have:n=Z:=aa
    subst this;exact al P
theorem kaM {h:ae} {x:Nat} {v:V} {l:List Int} (o:ay h x v 1 (ai l)):toT1 h v=some (.t (ints l)):=by
 have:=jy (es:=l.map fun n=>[ti n]) o (iB _);rcases o with⟨rfl,a⟩ | ⟨k,rfl,_,_⟩
 ·have:l=[]:=by simpa[ai]using a
  subst this;rfl
 ·simp only[toT1,this,cU]
theorem Xm {r:V} {h:ae} {vs:List V} {K:V->ae->Prop} {w:WK K} (a: ∀h',K r h'):fU (some r) false h vs K w:=by
 unfold fU;simp only;split
 ·exact a _
 ·exact⟨fun h=>Bool.noConfusion h,a _⟩
theorem YZ (k:Int) (l:List Entry) (i:Nat) (e:Entry) (g:l[i]? =some e) (C:l.length<2^20) (t: ∀x∈l,x.cells.length<2^20):
 Den Γ G 372 [vi k,.t (.sl (l.map Entry.enc)),vi i]=some (vb (di k l i e)):=by
 have A:=(zH.1 g).1;have v:=zL g
 refine aD (q:=?_)
 by_cases n:i=0
 ·subst n;have a:di k l 0 e=true:=by simp[di]
  rw[a];refine ax ?_;refine bK ?_;exact am
 ·have s:(i:Int)>0:=aa
  by_cases q:k=2
  ·subst q;have a:di 2 l i e= !jc (l.take i) e:=by simp[di,n]
   rw[a];refine ar s ?_;refine ba 268419264 i (fun j f=>(f 7).v=vi j/\jc (l.take j) e=false) rfl rfl ⟨am,by simp[jc]⟩ ?_;rintro j f u x bs B ⟨p,m⟩;have z:=aC j aa
   by_cases r:j<i
   ·have c:=aW r;obtain⟨o,b,w⟩:=aw (show j<l.length from aa);have d:=kaT o e (t o w) (t e v);cases h:lM o e
    ·rw[h]at d;refine cw p c b g @Entry.enc.eq_1 d ?_;refine⟨aa,al z,?_⟩;rw[bc b,jc,vH];rw[jc]at m;simp[m,h]
    ·rw[h]at d
     have y:jc (l.take i) e=true:=by
      simp only[jc,lf];exact⟨o,by rw[E'];exact⟨j,aa,(zH.1 b).2⟩,h⟩
     rw[y];exact po p c b g @Entry.enc.eq_1 d
   ·have c:=aJ r;have:j=i:=aa
    subst this;rw[m];exact a_ p c
  ·have a:di k l i e=false:=by simp[di,n,q]
   rw[a];exact a_ s q
theorem LY (a:List Int) (e:Entry) (K:a.length<2^31) (L:e.values.length=e.cells.length) (z: ∀c∈e.cells,0<=c/\c<a.length) (P:0<a.length) (S:e.cells.length<2^20):
 Den Γ G 373 [.t (ints a),.agg [.t (ints e.cells),.t (ints e.values)]]=some (.t (ints (dY a e))):=by
 refine aD (q:=ax ?_);have E:=tQ a K (fun _=>none) 0;obtain⟨r,h',O,o,b,_,_⟩:=E;refine qD (es:=a.map fun n=>[ti n]) rfl rfl ⟨r,h',O,o,b⟩ ?_;clear o b;intro v hp b _ _;have s:=b.valOf;refine ar s ?_;refine aS 268435008 e.cells.length (fun i f h x=>(f 6).v=vi i/\ay h x v 1 (ai (dV a e i))) rfl ⟨am,by simp -dsimp only[go_sem,seval];exact b.le aa⟩ ?_;clear b;rintro i f u H x bs hi ⟨j,b⟩;have M:=aC i aa;have g: ∀i,(dV a e i).length=a.length:=fun i=>tf _ _
 refine ar j ?_;refine aQ j ?_ ?_<;>intro h
 ·obtain⟨c,p,B⟩:=aw ‹i<e.cells.length›;obtain⟨d,q,_⟩:=aw (show i<e.values.length from aa);obtain⟨F,Q⟩:=z c B;have N:(e.cells.zip e.values)[i]? =some (c,d):=ow.2 ⟨p,q⟩
  have D:dV a e (i+1)=(dV a e i).set c.toNat d:=by
   unfold dV;rw[bc N,iy];rfl
  rcases b with⟨_,I⟩ | ⟨k,rfl,R,J⟩
  ·exfalso;have:(ai (dV a e i)).length=0:=by rw[I];rfl
   rw[aB,g]at this;omega
  ·have y:c<(((ai (dV a e i)).length:Nat):Int):=by rw[aB,g];omega
   have A:=gt (l:=dV a e i) (i:=c.toNat) (by rw[g];omega);have m:=dR (dV a e i) c.toNat d;rw[<- D]at m;refine dc j p q F y J A ?_;refine⟨aa,al M,.inr ⟨k,?_,av,?_⟩⟩
   ·rw[aB,aB,g,g]
   ·exact al m
 ·have:i=e.cells.length:=aa
  subst this
  have w:dV a e e.cells.length=dY a e:=by
   unfold dV dY;rw[c7 (by simp[L])]
  rw[w]at b;have C:=b.reify (iB _);have t:=b.resVal;simp only[Rg.resVal]at t;refine aG s t ?_;exact C
end Rg
end
