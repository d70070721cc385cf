/- Part of the proof of laws of relyguardlaw36. No condition. -/
import Derived.Test.YtaiokglcgiemnaaGreatDoorFartAO
import Derived.Test.YtaiokglcgiemnaaGreatDoorFartAN
import Derived.Lib.ItoaLen
import Derived.Test.YtaiokglcgiemnaaGreatDoorFartAL
set_option linter.unusedSimpArgs false
set_option linter.unusedVariables false
set_option linter.defProp false
section
namespace Rg
open Go
theorem Zn {p:Prog} {a:Assign} (h:a_ p a=true): ∃y,p.cells[a.cell.toNat]? =some y/\y.thread= -1:=by
 unfold a_ cL at h;split at h
 ·rename_i y b;exact⟨y,b,ak h⟩
 ·simp at h
theorem XG {p:Prog} {t:Int} {s:Step} (g:s.kind=3) (h:da p t s=true): ∃a r,s.set=a::r/\fW p s false t=true/\a_ p a=true/\cL p a.cell Cell.ghost=false/\
 ∀b∈r,cL p b.cell Cell.ghost=true/\eZ p t b.cell=true:=by
 rw[da,ac aa,ac aa,ah g,mG]at h;split at h
 ·simp at h
 ·rename_i a r i;simp only[zF,eE,zN]at h;obtain⟨⟨⟨c,d⟩,e⟩,f⟩:=h;obtain⟨l,y,k,j⟩:=Lp d;exact⟨a,r,i,c,by rw[a_,fh k];simpa using j,e,f⟩
theorem Y7 {l:List Assign} (h: ∀(i j:Nat) (a b:Assign),l[i]? =some a->l[j]? =some b->a.cell=b.cell->i=j):(l.map Assign.cell).Nodup:=by
 rw[s6,qr];intro i j hi d e c;simp only[cO]at hi d;simp only[vR]at c;have:=h i j _ _ (zI hi) (zI d) c;omega
theorem xd {p:Prog} {t:Int} {x:Thread} {s:Step} (d:StepOk p t x s) (B:s.kind=3) (view:List Int):Proper p (mH p view s.set):=by
 obtain⟨a,r,D,F,A,l,C⟩:=XG B d.row;have k:s.set.filter (a_ p)=a::r.filter (a_ p):=by rw[D,o8,ah A]
 refine⟨by simp[mH,k],by simp[mH],?_,?_⟩
 ·exact List.Nodup.sublist ((List.filter_sublist).map _) (Y7 d.dif)
 ·intro i n v m j;simp only[mH,zJ,zE]at m j;obtain⟨b,c,rfl⟩:=m;obtain⟨b',h,rfl⟩:=j;rw[c]at h;cases h;have u:=zL c;obtain⟨g,q⟩:=ge.1 u;obtain⟨y,e,w⟩:=Zn q;have f:=(d.rng.2 b g).1;simp only[inR,aQ]at f;obtain⟨z,o,E⟩:=d.wid b g;rw[e]at o;cases o;refine⟨f.1,y,e,w,?_,by rw[<- E];exact M0 _ _ _⟩;rw[k]at c
  cases i with
  | zero=>
    simp only[ds,zA]at c;subst c;rw[fh e]at l
    simpa using l
  | succ i=>
    simp only[lE]at c;have:=(C b (ge.1 (zL c)).1).1;rw[fh e]at this;simpa using this
theorem kaS {p:Prog} {c:Config} {t i:Nat} {x:Thread} {s:Step} (h:aM p=true) (l:p.threads[t]? =some x) (g:StepOk p t x s)
 (f: ∀(i:Nat) (a:Int) (x:Thread),c.at_[i]? =some a->p.threads[i]? =some x-> -1<=a/\a<x.points/\(a= -1->x.asleep=true)):
 ∀(i:Nat) (a:Int) (z:Thread),(if s.kind=6 then(c.at_.set t s.to).set s.target.toNat 0 else c.at_.set t s.to)[i]? =some a->p.threads[i]? =some z-> -1<=a/\a<z.points/\(a= -1->z.asleep=true):=by
 have e: ∀(j:Nat) (a:Int) (z:Thread),(c.at_.set t s.to)[j]? =some a->p.threads[j]? =some z-> -1<=a/\a<z.points/\(a= -1->z.asleep=true):=by
  intro j a z b d;rw[cu]at b;split at b
  ·rename_i k;split at b
   ·cases b;subst k;rw[l]at d;cases d;have:=g.to;exact⟨aa,aa,aa⟩
   ·simp at b
  ·exact f j a z b d
 intro j a z b d;split at b
 ·rw[cu]at b;split at b
  ·split at b
   ·cases b;have:=p' h d;exact⟨aa,aa,aa⟩
   ·simp at b
  ·exact e j a z b d
 ·exact e j a z b d
theorem wt {c:Config} {t j:Nat} {s:Step} (b:0<=s.to) (h:(if s.kind=6 then(c.at_.set t s.to).set s.target.toNat 0 else c.at_.set t s.to)[j]? =some (-1)):c.at_[j]? =some (-1):=by
 have a:(c.at_.set t s.to)[j]? =some (-1)->c.at_[j]? =some (-1):=by
  intro h;rw[cu]at h;split at h
  ·split at h
   ·simp only[zA]at h;omega
   ·simp at h
  ·exact h
 split at h
 ·rw[cu]at h;split at h
  ·split at h
   ·simp at h
   ·simp at h
  ·exact a h
 ·exact a h
theorem QK {p:Prog} (v:aM p=true) {c:Config} (d:IsB p c) {t i:Nat} {x:Thread} {s:Step} (n:p.threads[t]? =some x) (B:x.steps[i]? =some s) (m:db p c t s=true):IsB p (eg p c t s):=by
 have j:=lf v n B;have u:t<c.buf.length:=by rw[d.lb];exact(zH.1 n).1
 refine⟨by simp only[eg,iG];exact d.lm,?_,?_,?_,kaS (i:=i) v n j d.at_,?_⟩
 ·show(if s.kind=6 then _ else _:List Int).length=_;split
  ·rw[cJ,cJ];exact d.la
  ·rw[cJ];exact d.la
 ·show(if s.kind=3 then _ else _:List (List Entry)).length=_;split
  ·rw[cJ];exact d.lb
  ·exact d.lb
 ·refine xy (fun a f=> ?_) d.mem;refine j.wid a ?_
  try simp only at f
  split at f
  ·exact(ge.1 f).1
  ·exact f
 ·intro w b g;simp only[eg]at g⊢
  by_cases k:s.kind=3
  ·rw[ah k,cu]at g;split at g
   ·rename_i A;subst A
    try rw[ah u]at g
    simp only[zA]at g;subst g;have y:=d.buf t _ (fA u);refine⟨?_,?_,?_⟩
    ·simp only[db,zF,k,aT]at m;have l:=m.2;split at l
     ·have:(aF c t).length=0:=ak l
      simp[this]
     ·have:(aF c t).length<3:=ak l
      simp;omega
    ·intro e z;rcases cA.1 z with h | h
     ·exact y.2.1 e h
     ·rw[bD]at h;subst h;exact xd j k _
    ·intro f;have:=wt j.to.1 f;simp only[db,zF,aQ]at m;have C:atI c.at_ t= -1:=jp (ak this);have:=j.fr.1;omega
   ·obtain⟨o,q,r⟩:=d.buf w b g;exact⟨o,q,fun f=>r (wt j.to.1 f)⟩
  ·rw[ac k]at g;obtain⟨o,q,r⟩:=d.buf w b g;exact⟨o,q,fun f=>r (wt j.to.1 f)⟩
theorem MR {p:Prog} {c:Config} (a:IsB p c) {t i:Nat} {e:Entry} (hi:(aF c t)[i]? =some e):IsB p (c6 c t i):=by
 have g:t<c.buf.length:=by
  rcases bv t c.buf.length with h | h
  ·exact h
  ·simp[aF,List.getD,gt h]at hi
 have f:=a.buf t _ (fA g);have k:c6 c t i=⟨d6 c.mem e,c.at_,c.buf.set t ((aF c t).eraseIdx i)⟩:=by simp only[c6,hi]
 rw[k];refine⟨by simp only[xN];exact a.lm,a.la,by simp;exact a.lb,kaY (f.2.1 e (zL hi)) a.mem,a.at_,?_⟩;intro n b d;rw[cu]at d;split at d
 ·rename_i j;subst j
  try rw[ah g]at d
  simp only[zA]at d;subst d;refine⟨cT (HL _ _) f.1,fun e m=>f.2.1 e (v6 m),fun l=> ?_⟩;have:=f.2.2 l;rw[this]at hi;simp at hi
 ·exact a.buf n b d
theorem Y4 {p:Prog} (c:aM p=true):IsB p (bz p):=by
 have h:=mV.1 (PO c);refine⟨h.lm,h.la,h.lb,h.mem,h.at_,fun t b a=> ?_⟩;have:=h.buf b (zL a);subst this;exact⟨af,af,fun _=>rfl⟩
theorem Tf {p:Prog} {c:Config} (h:IsC p c):IsB p c:=
 ⟨h.lm,h.la,h.lb,h.mem,h.at_,fun t b a=>by
   have:=h.buf b (zL a);subst this
   exact⟨af,af,fun _=>rfl⟩⟩
theorem kcU {p:Prog} {c:Config} (h:IsB p c) (a: ∀b∈c.buf,b=[]):IsC p c:=⟨h.lm,h.la,h.lb,h.mem,h.at_,a⟩
theorem MN {p:Prog} {c:Config} {t:Nat} {x:Thread} {n:Nat} {y:Choice}:y∈fE p c t x n<-> ∃i s,i<n/\x.steps[i]? =some s/\db p c t s=true/\y=⟨t,i,0⟩:=by
 unfold fE;rw[pZ];constructor
 ·rintro⟨⟨s,i⟩,a,h⟩;rw[ka]at a;simp only at a;rw[zO]at a;split at a
  ·rename_i hi;split at h
   ·rename_i b;simp only[zA]at h;exact⟨i,s,hi,a,b,h.symm⟩
   ·simp at h
  ·simp at a
 ·rintro⟨i,s,hi,d,b,rfl⟩;refine⟨(s,i),?_,by simp[b]⟩;rw[ka];simp only;rw[zO,ah hi];exact d
theorem OG {k:Int} {t:Nat} {b:List Entry} {n:Nat} {y:Choice}:y∈iU k t b n<-> ∃i e,i<n/\b[i]? =some e/\dk k b i e=true/\y=⟨t,-1,cn e⟩:=by
 unfold iU;rw[pZ];constructor
 ·rintro⟨⟨e,i⟩,a,h⟩;rw[ka]at a;simp only at a;rw[zO]at a;split at a
  ·rename_i hi;split at h
   ·rename_i c;simp only[zA]at h;exact⟨i,e,hi,a,c,h.symm⟩
   ·simp at h
  ·simp at a
 ·rintro⟨i,e,hi,d,c,rfl⟩;refine⟨(e,i),?_,by simp[c]⟩;rw[ka];simp only;rw[zO,ah hi];exact d
theorem Jb {p:Prog} {k:Int} {c:Config} {y:Choice}:y∈lN p k c<->
 (∃(t:Nat) (x:Thread) (i:Nat) (s:Step),p.threads[t]? =some x/\x.steps[i]? =some s/\db p c t s=true/\y=⟨t,i,0⟩)\/
 (∃(t i:Nat) (e:Entry),t<p.threads.length/\(aF c t)[i]? =some e/\dk k (aF c t) i e=true/\y=⟨t,-1,cn e⟩):=by
 unfold lN eI;rw[di];constructor
 ·rintro⟨⟨x,t⟩,d,h⟩;rw[ka,bc]at d;rcases cA.1 h with h | h
  ·obtain⟨i,s,_,a,b,rfl⟩:=MN.1 h;exact .inl ⟨t,x,i,s,d,a,b,rfl⟩
  ·obtain⟨i,e,_,a,b,rfl⟩:=OG.1 h;exact .inr ⟨t,i,e,(zH.1 d).1,a,b,rfl⟩
 ·rintro(⟨t,x,i,s,j,a,b,rfl⟩ | ⟨t,i,e,g,hi,f,rfl⟩)
  ·refine⟨(x,t),?_,ik _ (MN.2 ⟨i,s,(zH.1 a).1,a,b,rfl⟩)⟩;rw[ka,bc];exact j
  ·refine⟨(p.threads[t],t),?_,s8 _ (OG.2 ⟨i,e,(zH.1 hi).1,hi,f,rfl⟩)⟩;rw[ka,bc];exact zI g
theorem tP {p:Prog} {e:Entry} (h:Proper p e):cn e∈e.cells:=by
 have:=h.ne;unfold cn
 cases b:e.cells with
 | nil=>exact absurd b this
 | cons a r=>simp
theorem zj {p:Prog} {k:Int} {b:List Entry} (c: ∀e∈b,Proper p e) {i j:Nat} {e f:Entry} (hi:b[i]? =some e) (m:b[j]? =some f) (a:dk k b j f=true) (d:i<j):cn e≠cn f:=by
 intro l;unfold dk at a;simp only[eH,aQ,zF,eE]at a;rcases a with h | ⟨_,h⟩
 ·omega
 ·have g:e∈b.take j:=by
   have:(b.take j)[i]? =some e:=by rw[zO,ah d];exact hi
   exact zL this
  have:jj (b.take j) f=true:=by
   rw[jj,lC];refine⟨e,g,?_⟩;rw[lW,lC];refine⟨cn f,tP (c f (zL m)),?_⟩;rw[<- l];simpa using tP (c e (zL hi))
  rw[this]at h;simp at h
theorem XV {k:Int} {b:List Entry} {n:Int} {i:Nat} (h:l_ k b n=some i): ∃e,b[i]? =some e/\dk k b i e=true/\cn e=n:=by
 have:=List.find?_some h
 try simp only at this
 split at this
 ·rename_i e a;simp only[zF,aQ]at this;exact⟨e,a,this.1,this.2⟩
 ·simp at this
theorem Q7 {p:Prog} {k:Int} {b:List Entry} (c: ∀e∈b,Proper p e) {i:Nat} {e:Entry} (hi:b[i]? =some e) (l:dk k b i e=true):l_ k b (cn e)=some i:=by
 have m:=(zH.1 hi).1
 cases a:l_ k b (cn e)with
 | none=>
   unfold l_ at a;rw[p5]at a;have:=a i (dT.2 m);rw[hi]at this
   simp[l]at this
 | some j=>
   obtain⟨f,g,n,d⟩:=XV a;rcases Nat.lt_trichotomy i j with h | h | h
   ·exact absurd d.symm (zj c hi g n h)
   ·rw[h]
   ·exact absurd d (zj c g hi l h)
theorem L8 {p:Prog} {k:Int} {c:Config} {t i:Nat} {x:Thread} {s:Step} (a:p.threads[t]? =some x) (e:x.steps[i]? =some s) (d:db p c t s=true):ef p k c ⟨t,i,0⟩=(eg p c t s,0):=by
 have f:=(zH.1 a).1;have b:lx p ⟨t,i,0⟩=some s:=by simp[lx,a,e]
 rw[ef,ac (by simp only;omega),ac (by simp only;omega),b];simp[d]
theorem KB {p:Prog} {k:Int} {c:Config} (a:IsB p c) {t i:Nat} {e:Entry} (f:t<p.threads.length) (hi:(aF c t)[i]? =some e) (d:dk k (aF c t) i e=true):ef p k c ⟨t,-1,cn e⟩=(c6 c t i,0):=by
 have b:=(a.buf t _ (fA (by rw[a.lb];exact f))).2.1;rw[ef,ac (by simp only;omega),ah rfl];simp only[k_,Q7 b hi d]
theorem kbq {p:Prog} (h:aM p=true) {k:Int} {c:Config} (a:IsB p c) {y:Choice} (m:y∈lN p k c): ∃d,ef p k c y=(d,0)/\IsB p d:=by
 rcases Jb.1 m with⟨t,x,i,s,g,f,b,rfl⟩ | ⟨t,i,e,l,hi,j,rfl⟩
 ·exact⟨_,L8 g f b,QK h a g f b⟩
 ·exact⟨_,KB a l hi j,MR a hi⟩
def cw (p:Prog) (k:Int) (c:Config):List Choice:=if k=0 then fD p c else lN p k c
def dw (p:Prog) (k:Int) (c:Config) (x:Choice):Config×Int:=if k=0 then jZ p c x else ef p k c x
structure IsK (p:Prog) (k:Int) (c:Config):Prop where
 b:IsB p c
 q:k=0-> ∀b∈c.buf,b=[]
theorem IsK.c {p:Prog} {c:Config} {k:Int} (h:IsK p k c) (a:k=0):isM p c=true:=mV.2 (kcU h.b (h.q a))
theorem l0 {p:Prog} (j:aM p=true) {k:Int} {c:Config} (g:IsK p k c) {y:Choice} (b:y∈cw p k c): ∃d,dw p k c y=(d,0)/\IsK p k d:=by
 unfold cw at b;unfold dw;split at b
 ·rename_i a;obtain⟨t,x,i,s,n,m,l,rfl,f,e⟩:=SD j (g.c a) b;rw[ah a];have:=mV.1 e;exact⟨_,f,Tf this,fun _=>this.buf⟩
 ·rename_i a;rw[ac a];obtain⟨d,f,e⟩:=kbq j g.b b;exact⟨d,f,e,fun h=>absurd h a⟩
theorem nQ {p:Prog} (a:aM p=true) (k:Int):IsK p k (bz p):=⟨Y4 a,fun _=>(mV.1 (PO a)).buf⟩
theorem pE {c:Config} (a: ∀b∈c.buf,b=[]) (t:Nat):aF c t=[]:=by
 unfold aF;rw[zK]
 cases h:c.buf[t]? with
 | none=>rfl
 | some b=>exact a b (zL h)
theorem Mx {c:Config} (a: ∀b∈c.buf,b=[]) (t:Nat):aK c t=c.mem:=by rw[aK,pE a];rfl
theorem JO {p:Prog} {c:Config} (d: ∀b∈c.buf,b=[]) (t:Nat) (s:Step):db p c t s=iv p c t s:=by
 unfold db iv;rw[Mx d,pE d,pE d]
 congr 1
 by_cases f:s.kind=3
 ·rw[ah f,ac (show ¬s.kind=6 from aa),ac (show ¬s.kind=7 from aa)];split<;>simp
 ·rw[ac f]
  by_cases e:s.kind=4\/s.kind=5
  ·rw[ah e,ac (show ¬s.kind=6 from aa),ac (show ¬s.kind=7 from aa)];simp
  ·rw[ac e]
   by_cases a:s.kind=6
   ·rw[ah a,ah a];simp
   ·rw[ac a,ac a];split<;>simp
theorem XN {p:Prog} {c:Config} (a: ∀b∈c.buf,b=[]) (k:Int):lN p k c=fD p c:=by
 unfold lN eI fD ji
 congr 1
 funext q
 rw[pE a];have d:iU k q.2 [] ([]:List Entry).length=[]:=rfl;rw[d,bK];unfold fE jC
 congr 1
 funext r
 rw[JO a]
theorem YT {p:Prog} {c:Config} (d:c.buf.length=p.threads.length) (e: ∀b∈c.buf,b=[]):c.buf=p.threads.map fun _=>[]:=by
 refine List.ext_getElem (by simp[d]) fun i a f=> ?_
 rw[vR];exact e _ (mj a)
theorem rr (p:Prog) (c:Config) (t:Nat) (x:Thread) (i:Nat):(fE p c t x i).length<=i:=by
 unfold fE;refine cT (v7 _ _) ?_;simp;omega
theorem xx (k:Int) (t:Nat) (b:List Entry) (i:Nat):(iU k t b i).length<=i:=by
 unfold iU;refine cT (v7 _ _) ?_;simp;omega
theorem wz {p:Prog} {c:Config} {t:Nat} {x:Thread} {i:Nat} {s:Step} (h:x.steps[i]? =some s):
 fE p c t x (i+1)=fE p c t x i++(if db p c t s then [⟨t,i,0⟩]else []):=by
 unfold fE;rw[rj h,wc]
 congr 1
 cases a:db p c t s<;>simp[a]
theorem MA {k:Int} {t:Nat} {b:List Entry} {i:Nat} {e:Entry} (h:b[i]? =some e):
 iU k t b (i+1)=iU k t b i++(if dk k b i e then [⟨t,-1,cn e⟩]else []):=by
 unfold iU;rw[rj h,wc]
 congr 1
 cases a:dk k b i e<;>simp[a]
theorem w_ {p:Prog} {k:Int} {c:Config} {i:Nat} {x:Thread} (h:p.threads[i]? =some x):
 eI p k c (i+1)=eI p k c i++(fE p c i x x.steps.length++iU k i (aF c i) (aF c i).length):=by
 unfold eI;rw[rj h,jg];simp
theorem kcX {p:Prog} {c:Config} (a:IsB p c) (t:Nat):(aF c t).length<=3:=by
 rcases bv t c.buf.length with h | h
 ·exact(a.buf t _ (fA h)).1
 ·simp[aF,List.getD,gt h]
theorem rg {p:Prog} (d:aM p=true) {k:Int} {c:Config} (b:IsB p c): ∀i:Nat,(eI p k c i).length<=67*i
 | 0=>by simp[eI]
 | i+1=>by
   have l:=rg d (k:=k) b i;rcases a:p.threads[i]? with _ | x
   ·have:p.threads.length<=i:=ak a
    have e:eI p k c (i+1)=eI p k c i:=by
     unfold eI;rw[de aa,de aa]
    rw[e];omega
   ·have f:=((cR (cS d).1).2 x (zL a)).2.1;have g:=rr p c i x x.steps.length;have h:=xx k i (aF c i) (aF c i).length;have j:=kcX b i;rw[w_ a,zM,zM];omega
theorem tZ {p:Prog} (a:aM p=true) {k:Int} {c:Config} (b:IsB p c):(lN p k c).length<=268:=by
 have d:=rg a (k:=k) b p.threads.length;have e:=(cR (cS a).1).1.2.2.2;unfold lN;omega
theorem I' {p:Prog} (a:aM p=true) {k:Int} {c:Config} (b:IsB p c):(cw p k c).length<=268:=by
 unfold cw;split
 ·have d:=tG a c p.threads.length;have e:=(cR (cS a).1).1.2.2.2;unfold fD;omega
 ·exact tZ a b
section
end
theorem rh {p:Prog} {k:Int} {c:Config} (h:IsK p k c):cw p k c=lN p k c:=by
 unfold cw;split
 ·rename_i a;exact(XN (h.q a) k).symm
 ·rfl
def kZ (p:Prog) (k:Int) (c:Config) (t:Nat) (s:Step):Config:=if k=0 then h_ p c t s else eg p c t s
theorem Hp {p:Prog} (q:aM p=true) {k:Int} {c:Config} (b:IsK p k c) {y:Choice} (B:y∈cw p k c):
 (∃(t:Nat) (x:Thread) (i:Nat) (s:Step),p.threads[t]? =some x/\x.steps[i]? =some s/\db p c t s=true/\y=⟨t,i,0⟩/\dw p k c y=(kZ p k c t s,0)/\IsK p k (kZ p k c t s))\/
 (k≠0/\ ∃(t i:Nat) (e:Entry),t<p.threads.length/\(aF c t)[i]? =some e/\dk k (aF c t) i e=true/\y=⟨t,-1,cn e⟩/\dw p k c y=(c6 c t i,0)/\IsK p k (c6 c t i)):=by
 have n:=B;rw[rh b]at n;rcases Jb.1 n with⟨t,x,i,s,g,f,d,rfl⟩ | ⟨t,i,e,u,hi,r,rfl⟩
 ·refine .inl ⟨t,x,i,s,g,f,d,rfl,?_⟩
  by_cases a:k=0
  ·have A:=b.q a;rw[JO A]at d;have w:(⟨t,i,0⟩:Choice)∈fD p c:=wu.2 ⟨t,x,i,s,g,f,d,rfl⟩;obtain⟨E,F,C,D,j,l,_,m,z,v⟩:=SD q (b.c a) w;simp only[Choice.mk.injEq,Int.natCast_inj,nt]at m;obtain⟨rfl,rfl⟩:=m;rw[g]at j;cases j;rw[f]at l;cases l;have o:=mV.1 v;simp only[dw,kZ,ah a];exact⟨z,Tf o,fun _=>o.buf⟩
  ·simp only[dw,kZ,ac a];exact⟨L8 g f d,QK q b.b g f d,fun h=>absurd h a⟩
 ·have a:k≠0:=by
   intro a;rw[pE (b.q a)]at hi;simp at hi
  refine .inr ⟨a,t,i,e,u,hi,r,rfl,?_⟩;simp only[dw,ac a];exact⟨KB b.b u hi r,MR b.b hi,fun h=>absurd h a⟩
def j4 (h:ae) (lo x:Nat) (v:V) (l:List Int) (room:Nat):Prop:= ∃k,v= .ms k 0 l.length/\lo<=k/\k<x/\h k=some (.rows 1 (ai l++List.replicate room [zi]) false)
theorem j4.valOf {h:ae} {lo x:Nat} {v:V} {l:List Int} {room:Nat} (o:j4 h lo x v l room):valOf v=some v:=by obtain⟨k,rfl,_,_,_⟩:=o;rfl
theorem j4.rows {h:ae} {lo x:Nat} {v:V} {l:List Int} {room:Nat} (o:j4 h lo x v l room):Rg.rowsS h v=some (ai l):=by
 obtain⟨k,rfl,_,_,a⟩:=o;unfold Rg.rowsS;simp only[a,rd,gO,il];rw[ah (by simp[aA]),ta (by rw[aA];exact ax _),de (by rw[aA];exact ax _)]
theorem j4.resVal {h:ae} {lo x:Nat} {v:V} {l:List Int} {room:Nat} (o:j4 h lo x v l room):Rg.resVal v=some v:=by obtain⟨k,rfl,_,_,_⟩:=o;rfl
theorem j4.reify {h:ae} {lo x:Nat} {v:V} {l:List Int} {room:Nat} (o:j4 h lo x v l room):Rg.reify h v=some (.t (ints l)):=by
 obtain⟨k,rfl,_,_,c⟩:=o;have a:=mC h 999 (l.map fun n=>[ti n]) (iI _)
 have b:toT h 1000 (.ms k 0 l.length)=some (ints l):=by
  rw[toT,c];simp only[rd,gO,il];rw[ah (by simp[aA]),ta (by rw[aA];exact ax _),de (by rw[aA];exact ax _)];simp only[zC,zD];rw[show ai l=(l.map fun n=>[ti n]).map (·.map V.t)from rfl,a];rfl
 simp only[Rg.reify,toT1,b,cZ]
theorem Nf {h:ae} {lo x q room:Nat} {v:V} {l m:List Int} {K:V->List (Nat×O)->Prop} {w:WK K} (d:j4 h lo x v l (m.length+room)) (u:x<=q) (s:l.length+m.length<=2^32)
 (c: ∀e hp,j4 (At h hp) lo (q+1) e (l++m) room->(∀j,j<lo->At h hp j=h j)->K e hp):eB false (aY h q 1 8 v (ai l) (ai m)) K w:=by
 unfold aY;rw[ah ⟨⟨by rw[aA,aA];exact s,aG⟩,ey _,ey _⟩]
 cases m with
 | nil=>
   simp only[ai,ba,sS,aT,jE];refine c v [] ?_ (fun j _=>by rw[bE]);rw[bK];obtain⟨k,rfl,b,r,a⟩:=d
   exact⟨k,rfl,b,aa,by simpa[bE]using a⟩
 | cons y m=>
   obtain⟨k,rfl,b,r,a⟩:=d;have p:(ai (y::m)).isEmpty=false:=rfl;simp only[p,a,zG,aX,kx,aT,jE]
   have g:fo (ai l) (ai (y::m)) (ai l++List.replicate ((y::m).length+room) [zi])=ai (l++y::m)++List.replicate room [zi]:=by
    have i:ai (l++y::m)=ai l++ai (y::m):=by simp[ai]
    rw[i];unfold fo;split
    ·rename_i f;simp only[zM,aA,iE]at f;have:room=0:=aa
     subst this;simp
    ·rw[List.drop_append,oH (by rw[aA,aA];omega),List.drop_replicate,aA,aA];rw[show(y::m).length+room-(l.length+(y::m).length-l.length)=room from aa,eG]
   refine c _ [(k,.dead),(q,.rows 1 (fo (ai l) (ai (y::m)) (ai l++List.replicate ((y::m).length+room) [zi])) false)] ⟨q,?_,aa,aa,?_⟩ (fun j t=> ?_)
   ·rw[aA,aA,zM]
   ·rw[g];have:q≠k:=aa
    simp[cB,bE,aq]
   ·have n:j≠q:=aa
    have o:j≠k:=aa
    simp[cB,bE,aq,n,o]
theorem ka6 (m:Nat) (g:0<m) (h:m<=2^31) (H:ae) (n:Nat): ∃r h' a,DenR Γ G 368 [.t .nils,vi m] H n=some (r,h',a)/\(j4 h' n a r [] m/\ ∀j,j<n->h' j=H j):=by
 have b: ¬((m:Int)<0):=aa
 have c:(0:Int)<m:=aa
 have d:(m:Int)<=4294967296:=aa
 have f:IntKind.i64.wrap ((m:Int)-0)=m:=by rw[Int.sub_zero];exact bt aa
 have e:(1:Int)<=m:=aa
 refine bO (q:=cN b c d e f ?_);refine⟨⟨_,rfl,aa,by simp -dsimp only[go_sem];omega,by simp[cB,bE,aq,ai]⟩,fun j i=> ?_⟩;have:j≠n+1+2+8+2+5:=aa
 simp[cB,bE,aq,this]
theorem Za (n:Nat) (H:ae): ∃r h' b,DenR Γ G 368 [.t .nils,vi 0] H n=some (r,h',b)/\(r= .t .nils/\h'=H):=by
 have a:IntKind.i64.wrap (0-0)=0:=rfl
 refine bO (q:=aC a ?_);exact⟨rfl,rfl⟩
theorem X1 (a b:List Int) (ha:a.length<2^20) (hb:b.length<2^20) (H:ae) (n k:Nat) (d vb:V) (c:H k=some (.rows 1 [[d],[vb]] false)) (Z:k<n)
 (g:aw H n d 1 (ai a)) (ob:aw H n vb 1 (ai b)): ∃r h' f,DenR Γ G 350 [.ms k 0 2] H n=some (r,h',f)/\aw h' f r 1 (ai (a++b)):=by
 have X:IntKind.i64.wrap (0+(a.length:Int))=a.length:=by rw[Int.zero_add];exact bt aa
 have Y:IntKind.i64.wrap ((a.length:Int)+b.length)=((a.length+b.length:Nat):Int):=by rw[Int.natCast_add];exact bt aa
 have L: ¬((a.length:Int)<0):=aa
 have M: ¬(((a.length+b.length:Nat):Int)<0):=aa
 have x:=g.valOf;have y:=ob.valOf
 have R:lenS H d=some a.length:=by rcases g with⟨rfl,o⟩ | ⟨q,rfl,_,p⟩
                                   ·have:a=[]:=by simpa[ai]using o
                                    subst this;rfl
                                   ·simp[lenS,p,aA]
 have S:lenS H vb=some b.length:=by rcases ob with⟨rfl,o⟩ | ⟨q,rfl,_,p⟩
                                    ·have:b=[]:=by simpa[ai]using o
                                     subst this;rfl
                                    ·simp[lenS,p,aA]
 refine bO (q:=aC c ?_);refine bN ?_;refine cN c x R X L ?_;refine bN ?_;refine cN c y S Y M ?_;refine bN ?_;refine aE ?_
 by_cases N:a.length+b.length=0
 ·rw[N];have K:a=[]:=fq aa;have J:b=[]:=fq aa;subst K J;refine be (Za _ _) ?_;rintro r h' f ⟨rfl,rfl⟩;have v:=g.rowsS;have w:=ob.rowsS;have B:ai []=[]:=rfl;refine aC c ?_;refine bN ?_;refine cN c x v B @aY.eq_1 ?_;refine bN ?_;refine cN c y w B @aY.eq_1 ?_;refine bN ?_;refine aE ?_;exact .inl ⟨rfl,rfl⟩
 ·refine be (ka6 _ aa aa _ _) ?_;rintro r h' f ⟨m,i⟩;have D:=m.valOf;have T:=m.rows;have h:h' k=some (.rows 1 [[d],[vb]] false):=by rw[i k aa];exact c
  have s:aw h' n d 1 (ai a):=g.keep (ax _) fun j C _=>i j aa
  have t:aw h' n vb 1 (ai b):=ob.keep (ax _) fun j C _=>i j aa
  have v:=s.rowsS;refine aR D h ?_;refine bN ?_;refine cN h x D T v ?_;refine Nf m aa (by simp;omega) ?_;rintro W hp e A;rw[eG]at e;have E:=e.valOf;have U:=e.rows;have z:At h' hp k=some (.rows 1 [[d],[vb]] false):=by rw[A k aa];exact h
  have u:aw (At h' hp) n vb 1 (ai b):=t.keep (ax _) fun j C _=>A j aa
  have w:=u.rowsS;refine aR E z ?_;refine bN ?_;refine cN z y E U w ?_;refine Nf (room:=0) e aa aa ?_;rintro W G6 l NG;have F:=l.valOf;have I:=l.resVal;simp only[Rg.resVal]at I;refine aC F ?_;refine bN ?_;refine aR F I ?_;obtain⟨Q,rfl,h1,h2,P⟩:=l;exact .inr ⟨Q,by rw[aA];rfl,by simp -dsimp only[go_sem];omega,ak P⟩
def jk (p:Prog) (t j:Int):Bool:=aM p&&(decide (0<=t)&&(decide (0<=j)&&match p.threads[t.toNat]? with
 | some x=>decide (j<x.loops.length)
 | none=>false))
theorem YE {p:Prog} {t j:Int} (h:jk p t j=true):aM p=true/\ ∃(d c:Nat) (x:Thread) (l:Loop),t=d/\j=c/\p.threads[d]? =some x/\x.loops[c]? =some l:=by
 simp only[jk,zF,aQ]at h;obtain⟨e,g,i,a⟩:=h;refine⟨e,t.toNat,j.toNat,?_⟩
 cases b:p.threads[t.toNat]? with
 | none=>rw[b]at a;cases a
 | some x=>
   rw[b]at a;have f:j.toNat<x.loops.length:=by simp only[aQ]at a;omega
   exact⟨x,x.loops[j.toNat],aa,aa,rfl,zI f⟩
theorem ka4 (p:Prog) (k:p.sane) (t j:Int):Den Γ G 348 [(zP p),vi t,vi j]=some (vb (jk p t j)):=by
 have a:=Lo p k
 refine aB (q:=?_)
 cases c:aM p
 ·rw[c]at a;have:jk p t j=false:=by simp[jk,c]
  rw[this];exact al a
 ·rw[c]at a
  by_cases h:0<=t
  ·obtain⟨n,rfl⟩: ∃n:Nat,t=n:=⟨t.toNat,aa⟩
   have b:((n:Int)>=0):=aa
   by_cases i:n<p.threads.length
   ·have e:((n:Int)<(p.threads.length:Int)):=aa
    have d:=zI i
    generalize p.threads[n]=x at d
    have:jk p n j=(decide (0<=j)&&decide (j<x.loops.length)):=by simp[jk,c,d]
    rw[this]
    by_cases f:j>=0
    ·have g:0<=j:=f;exact pp a b e f g d
    ·have g: ¬0<=j:=f;exact pp a b e f g @im
   ·have e: ¬((n:Int)<(p.threads.length:Int)):=aa
    have d:p.threads[n]? =none:=gt aa;have:jk p n j=false:=by simp[jk,c,d]
    rw[this];exact dx a b e
  ·have b: ¬(t>=0):=h;have:jk p t j=false:=by simp[jk,h]
   rw[this];exact bh a b
theorem YF (p:Prog) (c:p.lite) (t j:Int):Den Γ G 335 [(zP p),vi t,vi j]=some (vb (jb p&&jk p t j)):=by
 have a:=ka7 p c.steps
 refine aB (q:=?_)
 cases b:jb p
 ·rw[b]at a;exact bh a @im
 ·rw[b]at a;have d:=ka4 p (QH c b) t j;exact dx a d @eq
theorem wx (p:Prog) (k:p.sane) (h:aM p=true) {t j:Nat} {x:Thread} {l:Loop} (a:p.threads[t]? =some x) (i:x.loops[j]? =some l):Den Γ G 349 [(zP p),vi t,vi j]=some (vb true):=by
 have g:=tz p k;have f:(dj p).1=0:=by simpa[aM]using h
 have b:((t:Int)>=0):=aa
 have c:((j:Int)>=0):=aa
 have d:((t:Int)<(p.threads.length:Int)):=by have:=(zH.1 a).1;omega
 have e:((j:Int)<(x.loops.length:Int)):=by have:=(zH.1 i).1;omega
 exact aB (q:=VM g f b c d e a)
theorem kbr (a b:Entry) (B:a.cells.length<2^20) (C:b.cells.length<2^20):
 Den Γ G 384 [.agg [.t (ints a.cells),.t (ints a.values)],.agg [.t (ints b.cells),.t (ints b.values)]]=some (vb (lW a b)):=by
 refine aB (q:=aE ?_);refine aZ 4294967280 a.cells.length (fun i f=>(f 5).v=vi i/\ ∀c∈a.cells.take i,c∉ b.cells) rfl rfl ⟨am,af⟩ ?_;rintro i f u x bs hi ⟨l,o⟩;have z:=ay i aa;refine aC l ?_;refine aO l ?_ ?_<;>intro h
 ·obtain⟨c,q,s⟩:=au ‹i<a.cells.length›;refine aZ 4294950992 b.cells.length (fun k f=>(f 6).v=vi k/\ ∀d∈b.cells.take k,d≠c) rfl rfl ⟨am,af⟩ ?_;rintro k A E F y D ⟨n,p⟩;have t:=ay k aa;refine aC n ?_;refine dI n l ?_ ?_<;>intro h
  ·obtain⟨d,m,w⟩:=au ‹k<b.cells.length›
   by_cases j:c=d
   ·have r:lW a b=true:=by
     simp only[lW,lC];exact⟨d,w,by simpa[j]using j▸s⟩
    rw[r];exact vx l n q m j
   ·refine cN l n q m j ?_;refine⟨aa,al t,?_⟩;intro e g;rw[a8 m,cA]at g;rcases g with g | g
    ·exact p e g
    ·simp only[bD]at g;subst g;exact bT j
  ·have:k=b.cells.length:=aa
   subst this;rw[bc]at p;refine⟨aa,al z,?_⟩;intro e g;rw[a8 q,cA]at g;rcases g with g | g
   ·exact o e g
   ·simp only[bD]at g;subst g;exact fun v=>p e v rfl
 ·have:i=a.cells.length:=aa
  subst this;rw[bc]at o
  have r:lW a b=false:=by
   simp only[lW,List.any_eq_false];intro d m;simp only[rz,aQ];exact fun h=>o d h m
  rw[r]
def ph (l:List Int) (v:Int):Int:=match l.findIdx? (fun x=>decide (x=v))with
 | some i=>i
 | none=> -1
theorem kb5 {l:List Int} {v:Int} {i:Nat} (h:l[i]? =some v) (b: ∀j,j<i->l[j]? ≠some v):ph l v=i:=by
 have hi:=(zH.1 h).1
 have:l.findIdx? (fun x=>decide (x=v))=some i:=by
  rw[rv];refine⟨hi,by simpa using(zH.1 h).2,fun j a=> ?_⟩;have:=b j a;rw[zI aa]at this;simpa using this
 rw[ph,this]
theorem kbB {l:List Int} {v:Int} (b: ∀j,j<l.length->l[j]? ≠some v):ph l v= -1:=by
 have:l.findIdx? (fun x=>decide (x=v))=none:=by
  rw[s7];intro x c;obtain⟨j,a⟩:=eD c;have:=b j (zH.1 a).1;rw[a]at this;simpa using this
 rw[ph,this]
theorem kb6 (l:List Int) (v:Int):decide (ph l v>=0)=l.contains v:=by
 unfold ph
 cases h:l.findIdx? (fun x=>decide (x=v))with
 | some i=>
   have a:v∈l:=by
    rw[rv]at h;obtain⟨b,c,_⟩:=h;exact (ak c:l[i]=v)▸mj b
   simp[a]
 | none=>
   have a:v∉ l:=by
    intro a;rw[s7]at h;have:=h v a;simp at this
   simp[a]
theorem Yz (l:List Int) (v:Int) (m:l.length<2^40):Den Γ G 207 [.t (ints l),vi v]=some (vi (ph l v)):=by
 refine aB (q:=aE ?_);refine aZ 524080 l.length (fun i f=>(f 8).v=vi i/\ ∀j,j<i->l[j]? ≠some v) rfl rfl ⟨am,fun j g=>aa⟩ ?_;rintro i f u n bb hi ⟨a,b⟩;have k:=ay i aa;refine aC a ?_;refine aO a ?_ ?_<;>intro h
 ·obtain⟨y,c,_⟩:=au ‹i<l.length›;refine aR a c ?_;refine aO a ?_ ?_<;>intro h
  ·rw[kb5 (by rw[c,h]) b]
  ·refine⟨aa,al k,fun j g=> ?_⟩;rcases bv j i with d | d
   ·exact b j d
   ·have:j=i:=aa
    subst this;rw[c];intro e;cases e;exact absurd rfl h
 ·have:i=l.length:=aa
  subst this;rw[kbB b]
theorem xj (l:List Int) (v:Int) (c:l.length<2^40):Den Γ G 206 [.t (ints l),vi v]=some (vb (l.contains v)):=by
 refine aB (q:=?_)
 have a:=Yz l v c;have b:=kb6 l v;exact bh a b
theorem Yl (l:List Entry) (e:Entry) (B:l.length<2^40) (z:e.cells.length<2^40) (v: ∀o∈l,o.cells.length<2^40):
 Den Γ G 201 [.t (.sl (l.map Entry.enc)),.agg [.t (ints e.cells),.t (ints e.values)]]=some (vb (jj l e)):=by
 refine aB (q:=aE ?_);refine aZ 268433744 l.length (fun i f=>(f 11).v=vi i/\jj l e=(l.drop i).any fun o=>lW o e) rfl rfl ⟨am,rfl⟩ ?_;rintro i f u C bb hi ⟨a,c⟩;have w:=ay i aa;refine aC a ?_;refine aO a ?_ ?_<;>intro h
 ·obtain⟨y,g,Eq⟩:=au ‹i<l.length›;have s:=v y Eq;refine bj a g @Entry.enc.eq_1 ?_;refine aZ 133955856 e.cells.length (fun j k=>(k 18).v=vi j/\(e.cells.take j).any (fun n=>y.cells.contains n)=false) rfl rfl ⟨am,af⟩ ?_;rintro j k D x t A ⟨b,d⟩;have p:=ay j aa;refine aC b ?_;refine dI b a ?_ ?_<;>intro h
  ·obtain⟨n,m,r⟩:=au ‹j<e.cells.length›;have q:=xj y.cells n s;refine cV b a m q ?_;refine dI b a ?_ ?_<;>intro h
   ·rw[c,xH g (by rw[lW,lC];exact⟨n,r,ak h⟩)]
   ·refine⟨aa,al p,?_⟩;rw[a8 m,vW,d];simpa using h
  ·have:j=e.cells.length:=aa
   subst this;refine⟨aa,al w,?_⟩;rw[c,xI g (by rw[bc]at d;exact d)]
 ·have:i=l.length:=aa
  subst this;rw[c,y9]
def xn (h:ae) (x:Nat) (v:V) (rows:List (List V)):Prop:=
 (v= .t (.sl [])/\rows=[])\/ ∃k,v= .ms k 0 rows.length/\k<x/\h k=some (.rows 1 rows false)
theorem YR (l:List Int):iy (ai l)=some l:=by
 induction l with
 | nil=>rfl
 | cons n l a=>
   show(iy (ai l)).map (n:: ·)=_;rw[a];rfl
theorem W_ (l:List Int):bU l=ai l:=by simp[bU,ai]
theorem sB {h:ae} {b:Nat} {l:List Int} {K:V->List (Nat×O)->Prop} {w:WK K} (k:l.length<2^40)
 (d: ∀v hp,xn (At h hp) (b+1) v (ai l)->(∀j,j≠b->At h hp j=h j)->(∀j,j≠b->aJ v j)->(Rg.valOf v=some v/\V.cells v=some [v])->K v hp):rW (Γ:=Γ) (G:=G) false h b 198 [.t (ints l)] K w:=by
 refine⟨rfl,rfl,[.t (ints l)],rfl,?_⟩
 cases l with
 | nil=>
   refine⟨.t (.sl []),fun _=>none,0,pK Γ198 rfl rfl rfl,{ val:=.t (.sl []) },rfl,d _ _ (.inl ⟨rfl,rfl⟩) (fun j _=>by rw[bE]) (fun j _ i n h=>by cases h) ⟨rfl,rfl⟩⟩
 | cons a l=>
   have e:jq .cloneI [.t (ints (a::l))] (fun _=>none) 0=some (.ms 0 0 (a::l).length,upd (fun _=>none) 0 (some (.rows 1 (bU (a::l)) false)),1):=by
    show((iy (ai (a::l))).bind fun c=>if c.length<1099511627776 then some (V.ms 0 0 c.length,upd (fun _=>none) 0 (some (O.rows 1 (bU c) false)),0+1)else none)=_;rw[YR,zD,ah k]
   rw[W_]at e;have g:(ai (a::l)).all (fun row=>row.all V.isTr)=true:=by simp[ai,V.isTr]
   refine⟨_,_,_,pK Γ198 rfl rfl e,{ val:=.ms b 0 (ai (a::l)).length,hp:=[(b,.rows 1 (ai (a::l)) false)] },?_,d _ _ (.inr ⟨b,rfl,aa,by simp[cB,bE,aq]⟩) (fun j f=>by simp[cB,bE,aq,f]) (fun j f=>c7 aa _ _) ⟨rfl,rfl⟩⟩;simp only[jd,cU];rw[ah ⟨trivial,by rw[aA],g⟩,aA]
theorem xn.reify {h:ae} {x:Nat} {v:V} {l:List Int} (o:xn h x v (ai l)):Rg.reify h v=some (.t (ints l)):=by
 rcases o with⟨rfl,a⟩ | ⟨k,rfl,_,b⟩
 ·have:l=[]:=by
   have:=bx List.length a;rw[aA]at this;exact fq this
  subst this;rfl
 ·have:toT h 1000 (.ms k 0 (ai l).length)=some (.sl (l.map fun n=>[ti n])):=i8 (h:=h) (x:=k+1) (es:=l.map fun n=>[ti n]) (.inr ⟨k,rfl,aa,b⟩) (iI _);simp only[Rg.reify,toT1,this,cZ]
def d4 (m:List Int) (e:Entry) (i:Nat):List Int:=((e.cells.zip e.values).take i).foldl (fun m q=>m.set q.1.toNat q.2) m
theorem P' (m:List Int) (e:Entry) (i:Nat):(d4 m e i).length=m.length:=tp _ m
theorem Nd {m:List Int} {e:Entry} {i:Nat} {c v:Int} (a:e.cells[i]? =some c) (b:e.values[i]? =some v):d4 m e (i+1)=(d4 m e i).set c.toNat v:=by
 have d:(e.cells.zip e.values)[i]? =some (c,v):=by rw[oz];exact⟨a,b⟩
 unfold d4;rw[a8 d,f8];rfl
theorem Qe {m:List Int} {e:Entry} (a:e.values.length=e.cells.length):d4 m e e.cells.length=d6 m e:=by
 unfold d4 d6;rw[de (by rw[kj];omega)]
theorem Yn (m:List Int) (e:Entry) (D:e.values.length=e.cells.length) (J:e.cells.length<2^40) (B: ∀n∈e.cells,0<=n/\n.toNat<m.length) (H:ae) (nx k:Nat) (C:H k=some (.rows 1 (ai m) false)):
 ∃r h' p,DenR Γ G 199 [.ms k 0 m.length,.agg [.t (ints e.cells),.t (ints e.values)]] H nx=some (r,h',p)/\(r= .tup []/\h' k=some (.rows 1 (ai (d6 m e)) false)/\(∀j,j≠k->h' j=H j)/\nx<=p):=by
 refine bO (q:=aE ?_);refine aS 8388144 e.cells.length (fun i f h x=>(f 9).v=vi i/\h k=some (.rows 1 (ai (d4 m e i)) false)/\(∀j,j≠k->h j=H j)/\nx<=x) rfl ⟨am,by simp -dsimp only[go_sem,seval,C,d4,fw,oU],fun j _=>rfl,av⟩ ?_;rintro i f u h x bs hi ⟨a,b,g,K⟩;have E:=ay i aa;refine aC a ?_;refine aO a ?_ ?_<;>intro h
 ·obtain⟨c,d,w⟩:=au ‹i<e.cells.length›;obtain⟨v,o,_⟩:=au (show i<e.values.length from aa);obtain⟨z,I⟩:=B c w;have q:=Nd (m:=m) d o;have F:=P' m e i;have t:=gP (l:=d4 m e i) (i:=c.toNat) aa;have s:=dW (d4 m e i) c.toNat v;have A:c<(m.length:Int):=aa
  refine gx a d o b z A t ?_;refine⟨aa,al E,?_,?_,av⟩
  ·rw[q];exact al s
  ·intro j y;exact bh y g
 ·have:i=e.cells.length:=aa
  subst this;rw[Qe D]at b;refine⟨rfl,b,g,av⟩
theorem Px (p:Prog) (H:aM p=true) (c:Config) (l:IsB p c) (t:Nat) (U:t<p.threads.length):Den Γ G 188 [(.agg [.t (ints (c).mem),.t (ints (c).at_),.t (.sl ((c).buf.map (fun b=>[.sl (b.map Entry.enc)])))]),vi t]=some (.t (ints (aK c t))):=by
 obtain⟨⟨W,X,Y,Z⟩,_⟩:=cR (cS H).1;have M:=l.lm;have V:=l.lb;have m:=fA (c:=c) (t:=t) aa;obtain⟨P,b2,_⟩:=l.buf t _ m
 refine aB (q:=aE ?_);refine sB aa ?_;rintro v hp K O N ⟨w,_⟩;refine aR m w ?_;rcases K with⟨rfl,d⟩ | ⟨k,rfl,S,I⟩
 ·have s:c.mem=[]:=by
   have:=bx List.length d;rw[aA]at this;exact fq this
  have q:aF c t=[]:=by
   cases E:aF c t with
   | nil=>rfl
   | cons e r=>
     have hp:=b2 e (by rw[E];exact ff);have:=lK hp (tP hp);have T:p.cells.length=0:=by rw[<- M,s];rfl
     omega
  have D:aK c t=[]:=by rw[aK,q,s];rfl
  refine aS 33423488 (aF c t).length (fun i f h x=>(f 17).v=vi i) rfl am ?_;rintro i f u h x bs hi a;refine aC a ?_;refine aO a ?_ ?_<;>intro h
  ·have:(aF c t).length=0:=by rw[q];rfl
   omega
  ·rw[D];rfl
 ·rw[aA]at *;refine aS 33423488 (aF c t).length (fun i f h x=>(f 17).v=vi i/\h k=some (.rows 1 (ai (((aF c t).take i).foldl d6 c.mem)) false)) rfl ⟨am,by simp -dsimp only[go_sem,seval,I,fw,oU]⟩ ?_;rintro i f u C x bs hi ⟨a,j⟩;have L:=ay i aa;refine aC a ?_;refine aO a ?_ ?_<;>intro h
  ·obtain⟨e,d,A⟩:=au ‹i<(aF c t).length›;have g:=b2 e A;have y:(((aF c t).take i).foldl d6 c.mem).length=c.mem.length:=ql _ _;refine bj a d @Entry.enc.eq_1 ?_;refine be (by rw[<- y];exact Yn _ e g.len (by have:=g6 g;omega) (fun n J=>by have:=lK g J;omega) _ _ k (al j)) ?_;rintro r h' n' ⟨rfl,F,Q,R⟩;refine aC a ?_;refine⟨aa,al L,?_⟩;rw[a8 d,f8];simp -dsimp only[go_sem,seval,F,eQ,oU]
  ·have:i=(aF c t).length:=aa
   subst this;rw[bc]at j;have z:C k=some (.rows 1 (ai (aK c t)) false):=j;have o:(ai (aK c t)).length=c.mem.length:=by rw[aA,kam]
   have B:List.take c.mem.length (ai (aK c t))=ai (aK c t):=ec o.symm;exact vx z o B @ax @g7
abbrev num (z:Int):List UInt8:=Go.Lib.itoa z
@[go_sem]theorem kc9 (a:List UInt8):(bs a).size=a.length:=by simp[bs,ByteArray.size]
@[go_sem]theorem kda (a:List UInt8):(bs a).data.toList=a:=by simp[bs]
theorem kdi {a b:List UInt8}:bs a=bs b<->a=b:=by
 constructor
 ·intro h;simpa[bs]using h
 ·rintro rfl;rfl
theorem kcu (z:Int) (h: -9223372036854775808<=z/\z<=9223372036854775807):(num z).length<=21:=Go.Lib.itoa_length_le z h.1 h.2
theorem kbs (z:Int) (h: -9223372036854775808<=z/\z<=9223372036854775807):Den Γ G 240 [vi z]=some (.t (.str (bs (num z)))):=by
 refine SW Γ240 rfl rfl ?_;show(if _ then _ else _)=_;rw[ah h];rfl
def kc7 (op:Int):List UInt8:=
 if op=4 then [110,111,116]else if op=5 then [97,110,100]else if op=6 then [111,114]else if op=7 then [120,111,114]else if op=8 then [97,100,100]
 else if op=9 then [115,117,98]else if op=10 then [109,117,108]else if op=11 then [101,113]else if op=12 then [108,116]else if op=13 then [108,101]else [105,116,101]
def kcQ (op:Int):List UInt8:=if op=2 then [99]else if op=3 then [111]else []
def Tb:List (List UInt8)->List UInt8
 | []=>[]
 | [x]=>x
 | x::r=>x++44::Tb r
namespace Expr
mutual
def txt:Expr->List UInt8
 | .mk op w n a=>if op=1\/op=2\/op=3 then kcQ op++num n++[58]++num w else kc7 op++[40]++Tb (II a)++[41]
def II:List Expr->List (List UInt8)
 | []=>[]
 | e::r=>txt e::II r
end
end Expr
theorem kP {α:Type} {f:Nat->α->Int}: ∀{l:List α} {i:Nat},(a7 f i l).1=0<-> ∀(j:Nat) (x:α),l[j]? =some x->f (i+j) x=0
 | [],i=>by simp[a7]
 | y::r,i=>by
   rw[a7];constructor
   ·intro h j x b;split at h
    ·rename_i a
     cases j with
     | zero=>simp at b;subst b;exact a
     | succ j=>
       have:=(kP (l:=r) (i:=i+1)).1 h j x (ak b);rwa[show i+1+j=i+(j+1)by omega]at this
    ·rename_i a;exact absurd h a
   ·intro h;have a:f i y=0:=h 0 y rfl;rw[ah a];refine(kP (l:=r) (i:=i+1)).2 fun j x b=> ?_
    have:=h (j+1) x (ak b);rwa[show i+(j+1)=i+1+j by omega]at this
theorem uE {p:Prog}: ∀{l:List Thread} {i:Nat},(eT p i l).1=0<-> ∀(j:Nat) (x:Thread),l[j]? =some x->(bI p (i+j) x).1=0
 | [],i=>by simp[eT]
 | y::r,i=>by
   rw[eT];constructor
   ·intro h j x b;split at h
    ·rename_i a
     cases j with
     | zero=>simp at b;subst b;exact a
     | succ j=>
       have:=(uE (l:=r) (i:=i+1)).1 h j x (ak b);rwa[show i+1+j=i+(j+1)by omega]at this
    ·rename_i a;exact absurd h a
   ·intro h;have a:(bI p i y).1=0:=h 0 y rfl;rw[ah a];refine(uE (l:=r) (i:=i+1)).2 fun j x b=> ?_
    have:=h (j+1) x (ak b);rwa[show i+(j+1)=i+1+j by omega]at this
abbrev Prog.ok (p:Prog):Prop:=(dj p).1=0
structure Rules (p:Prog):Prop where
 lim:(cK p).1=0
 cells: ∀(i:Nat) (c:Cell),p.cells[i]? =some c->gg p i c=0
 modules: ∀(i:Nat) (m:Contract),p.modules[i]? =some m->hD p i m=0
 locks: ∀(i:Nat) (l:Lock),p.locks[i]? =some l->ix p i l=0
 threads: ∀(i:Nat) (x:Thread),p.threads[i]? =some x->(bI p i x).1=0
theorem uN {p:Prog}:p.ok<->Rules p:=by
 unfold Prog.ok dj;constructor
 ·intro h;split at h
  ·rename_i a;exact absurd h a
  ·rename_i a;split at h
   ·rename_i b;exact absurd h b
   ·rename_i b;split at h
    ·rename_i c;exact absurd h c
    ·rename_i c;split at h
     ·rename_i d;exact absurd h d
     ·rename_i d;simp only[sO]at a b c d;exact⟨a,by simpa[dY,kP]using b,by simpa[fp,kP]using c,by simpa[fG,kP]using d,by simpa[uE]using h⟩
 ·rintro⟨a,b,c,d,i⟩;have e:dY p=0:=by unfold dY;rw[kP];simpa using b
  have f:fp p=0:=by unfold fp;rw[kP];simpa using c
  have g:fG p=0:=by unfold fG;rw[kP];simpa using d
  rw[ac (ak a),ac (ak e),ac (ak f),ac (ak g),uE];simpa using i
theorem K9 {p:Prog} {i:Nat} {c:Cell}:gg p i c=0<->gh p c=false/\(p.cells.take i).any (fun d=>d.name.toList==c.name.toList)=false:=by
 unfold gg;cases gh p c<;>cases(p.cells.take i).any (fun d=>d.name.toList==c.name.toList)<;>simp
theorem Le {p:Prog} {t n:Int} {l:Loop}:dM p t n l=0<->(inR l.head n=true/\fY l.body=true/\l.body.all (fun k=>inR k n&&decide (k≠l.head))=true)/\l.variant.valid p.cells false=true/\c9 p l.variant true t=true:=by
 unfold dM;cases inR l.head n<;>cases fY l.body<;>cases l.body.all (fun k=>inR k n&&decide (k≠l.head))<;>cases l.variant.valid p.cells false<;>cases c9 p l.variant true t<;>simp
theorem JG {p:Prog} {i:Nat} {x:Thread}:(bI p i x).1=0<->ee x.name=true/\(p.threads.take i).any (fun d=>d.name.toList==x.name.toList)=false/\(1<=x.points/\(x.asserts.length:Int)=x.points/\(x.modules.length:Int)=x.points)/\
 x.modules.all (fun m=>inR m p.modules.length)=true/\x.asserts.all (fun e=>cE p e false i)=true/\(∀(j:Nat) (s:Step),x.steps[j]? =some s->cG p i x.points s=0)/\(∀(j:Nat) (l:Loop),x.loops[j]? =some l->dM p i x.points l=0):=by
 unfold bI;have g:(a7 (fun _ s=>cG p i x.points s) 0 x.steps).1=0<-> ∀(j:Nat) (s:Step),x.steps[j]? =some s->cG p i x.points s=0:=by rw[kP]
 have f:(a7 (fun _ l=>dM p i x.points l) 0 x.loops).1=0<-> ∀(j:Nat) (l:Loop),x.loops[j]? =some l->dM p i x.points l=0:=by rw[kP]
 rw[<- g,<- f];cases ee x.name
 ·simp
 ·cases(p.threads.take i).any (fun d=>d.name.toList==x.name.toList)
  ·by_cases c:x.points<1\/ ¬(x.asserts.length:Int)=x.points\/ ¬(x.modules.length:Int)=x.points
   ·simp only[iA,zG,aX,ah c];constructor
    ·intro h;cases h
    ·rintro⟨_,_,h,_⟩;omega
   ·have a:1<=x.points/\(x.asserts.length:Int)=x.points/\(x.modules.length:Int)=x.points:=aa
    simp only[iA,zG,aX,ac c];cases x.modules.all (fun m=>inR m p.modules.length)
    ·simp
    ·cases x.asserts.all (fun e=>cE p e false i)
     ·simp
     ·by_cases b:(a7 (fun _ s=>cG p i x.points s) 0 x.steps).1=0
      ·simp[b,a]
      ·simp[b,a]
  ·simp
theorem LU {p:Prog}:(cK p).1=0<->(p.cells.length<=32/\p.modules.length<=6/\p.locks.length<=4/\p.threads.length<=4)/\ ∀x∈p.threads,x.points<=48/\x.steps.length<=64/\x.loops.length<=8:=by
 unfold cK;split
 ·rename_i h;constructor
  ·intro h;cases h
  ·rintro⟨h',_⟩;omega
 ·rename_i h;rw[kP];constructor
  ·intro b;refine⟨aa,fun x c=> ?_⟩;obtain⟨j,d,rfl⟩:=sY.1 c;have:=b j _ (zI d);cases a:eu p.threads[j]
   ·simp only[eu,ju,en]at a;omega
   ·simp[a]at this
  ·rintro⟨_,b⟩ j x c;have:=b x (zL c)
   have a:eu x=false:=by
    simp only[eu,ju,en];omega
   simp[a]
end Rg
end
section
set_option maxRecDepth 100000
namespace Rg
open Go
def Expr.text (e:Expr):List UInt8:=if e.formed then e.txt else []
end Rg
end
section
set_option maxRecDepth 100000
namespace Rg
open Go
end Rg
end
section
set_option maxRecDepth 100000
namespace Rg
open Go
def VF (ws:List (List UInt8)):List UInt8:=Go.Lib.join ws [32]++[10]
theorem Z6 (ws:List (List UInt8)):(Go.Lib.join ws [32]).length<=(ws.map List.length).sum+ws.length:=by
 cases ws with
 | nil=>simp[Go.Lib.join_nil]
 | cons x r=>
   rw[Go.Lib.join_length];have:Go.Lib.lens (x::r)=((x::r).map List.length).sum:=rfl;rw[this];simp only[d_,jf];omega
def eU (ws:List (List UInt8)):List (List V):=ws.map fun x=>[.t (.str (bs x))]
theorem xZ (ws:List (List UInt8)):(eU ws).length=ws.length:=by simp[eU]
theorem x6 (a b:List (List UInt8)):eU (a++b)=eU a++eU b:=by simp[eU]
theorem x7 (ws:List (List UInt8)):((eU ws).all fun r=>decide (r.length=1))=true:=by simp[eU]
theorem Yc (h:ae) (d:Nat) (ws:List (List UInt8)):(eU ws).mapM (fun row=>row.mapM (toT h d))=some (ws.map fun x=>[.str (bs x)]):=by
 have e:eU ws=(ws.map fun x=>[T.str (bs x)]).map (·.map V.t):=by simp[eU]
 rw[e,mC h d _ (by
  intro e b t a;obtain⟨x,_,rfl⟩:=cv.1 b
  simp at a;subst a;rfl)]
theorem Yu (ws:List (List UInt8)):mU (ws.map fun x=>[T.str (bs x)])=some (ws.map bs):=by
 induction ws with
 | nil=>rfl
 | cons x r a=>simp only[aU,mU,a,cZ]
theorem ka3 (ws:List (List UInt8)) (h:(Go.Lib.join ws [32]).length<=140737488355328) (a:ws.length<=140737488355328):
 Den Γ G 259 [.t (.sl (ws.map fun x=>[.str (bs x)])),.t (.str (bs [32]))]=some (.t (.str (bs (Go.Lib.join ws [32])))):=by
 refine SW (e:=.joinS) Γ259 rfl rfl ?_
 have e:ox (ws.map bs) (bs [32])=bs (Go.Lib.join ws [32]):=by
  unfold ox;rw[mr];have:(fun x:ByteArray=>x.data.toList)∘bs=id:=by funext x;exact kda x
  rw[this,List.map_id];rfl
 show(mU _).bind _=_;rw[Yu];simp only[zD,e];rw[ah ⟨ak a,by rw[kc9];exact h⟩]
def inI (z:Int):Prop:= -9223372036854775808<=z/\z<=9223372036854775807
end Rg
end
section
set_option maxRecDepth 100000
namespace Rg
open Go
def Vh (l:Loop):List (List UInt8):=[[108,111,111,112],num l.head,l.variant.text]
def loopX (l:Loop):List UInt8:=VF (Vh l++l.body.map num)
end Rg
end
section
set_option maxRecDepth 100000
namespace Rg
open Go
end Rg
end
section
set_option maxRecDepth 100000
namespace Rg
open Go
end Rg
end
section
set_option maxRecDepth 100000
namespace Rg
open Go
theorem V6 (c:List Int) (o:c.Pairwise (· <= ·)) (m:Nat) (u:m<=c.length):(Go.Lib.compactUpTo c.toArray m).Pairwise (· < ·):=by
 have e: ∀i j:Nat,i<=j->j<c.length->c.toArray[i]! <=c.toArray[j]! :=by
  intro i j g l;rw[getElem!_pos c.toArray i (by simp;omega),getElem!_pos c.toArray j (by simp;omega)];simp only[List.getElem_toArray];rcases Nat.lt_or_eq_of_le g with h | h
  ·exact qr.1 o i j aa l h
  ·subst h;exact gz _
 unfold Go.Lib.compactUpTo;rw[List.pairwise_map];have k:=(v8 (n:=m)).filter (Go.Lib.keeps c.toArray);refine k.imp_of_mem ?_;intro a b t f p;have q:=dT.1 (ge.1 f).1;have d:=(ge.1 f).2;have r:=e a (b-1) aa aa;have s:=e (b-1) b aa aa;simp only[Go.Lib.keeps,eH,aQ,bne_iff_ne,ne_eq]at d;rcases d with d | d
 ·omega
 ·omega
theorem V_ (l:List Int):(qO l).Pairwise (· < ·):=by
 unfold qO Go.Lib.compact;refine V6 _ ?_ _ (ax _);have:=List.pairwise_mergeSort (le:=fun x y:Int=>decide (x<=y)) (by intro a b c d e;simp at *;omega) (by intro a b;simp;omega) l;exact this.imp (by intro a b h;simpa using h)
structure LoopF (p:Prog) (x:Thread) (l:Loop) (A:Expr):Prop where
 h0:0<=l.head
 hA:x.asserts[l.head.toNat]? =some A
 vA:A.valid p.cells false=true
 wA:A.w=1
 vV:l.variant.valid p.cells false=true
 nb:dq l (-1)=false
theorem Ht {p:Prog} (q:aM p=true) {t j:Nat} {x:Thread} {l:Loop} (e:p.threads[t]? =some x) (s:x.loops[j]? =some l): ∃A,LoopF p x l A:=by
 have d:=uN.1 (show p.ok by simpa[aM]using q);obtain⟨_,_,⟨v,w,_⟩,_,m,_,n⟩:=JG.1 (d.threads t x e);obtain⟨⟨b,u,h⟩,i,_⟩:=Le.1 (n j l s);have y:=(LU.1 d.lim).2 x (zL e);simp only[inR,aQ]at b;have f:l.head.toNat<x.asserts.length:=aa
 have c:=zI f;have a:=zN.1 m _ (zL c);simp only[cE,zF,aQ]at a
 have g: ∀k∈l.body,0<=k/\k<x.points:=fun k r=>by
  have:=zN.1 h k r;simp only[inR,zF,aQ]at this;exact this.1
 refine⟨_,b.1,c,a.1.1,a.1.2,i,?_⟩
 ·simp only[dq,ju,en];refine⟨aa,?_⟩;cases o:l.body.contains (-1)
  ·rfl
  ·have:=g (-1) (ak o);omega
theorem ka1 {w:Int} (h:1<=w/\w<=12):IntKind.i64.wrap (1*2^min w.toNat IntKind.i64.bits)=2^w.toNat:=by
 have:(2:Int)^w.toNat<=2^12:=lg (i:=w.toNat) (k:=12) aa;have:=iN w.toNat;rw[show min w.toNat IntKind.i64.bits=w.toNat from je (by show w.toNat<=64;omega),xm];exact bt aa
theorem ka0 {w:Int} (h:1<=w/\w<=12):IntKind.i64.wrap (2^w.toNat-1)=2^w.toNat-1:=by
 have:(2:Int)^w.toNat<=2^12:=lg (i:=w.toNat) (k:=12) aa;have:=iN w.toNat;exact bt aa
theorem kcc {a:Int} {w:Int} (h:1<=w/\w<=12):a.fdiv (2^min w.toNat IntKind.i64.bits)=a/ 2^w.toNat:=by
 have:=iN w.toNat;rw[show min w.toNat IntKind.i64.bits=w.toNat from je (by show w.toNat<=64;omega),So _ aa]
theorem wI (p:Prog) (l:List Int) (c:Int):cM p (l++[c])=cM p l+wOf p c:=by simp[cM]
theorem QM (p:Prog) (c:Int): ∀(l:List Int) (n:Int) (s:List Int),stM p (l++[c]) n s=(stM p l n s).set c.toNat (n/ 2^cM p l % 2^wOf p c)
 | [],n,s=>by simp[stM,cM]
 | x::l,n,s=>by
   rw[iP,stM,QM p c l,stM];have:cM p (x::l)=wOf p x+cM p l:=by simp[cM]
   rw[this,Int.pow_add,<- HS (Int.le_of_lt (iN _))]
structure Vis where
 c:Config
 fr:Int
 x:Choice
 deriving Inhabited
def hW (l:List Vis) (c:Config):Bool:=l.any fun v=>decide (v.c=c)
def pq (a:Nat) (l:List Vis) (v:Vis):Option (List Vis):=if hW l v.c then some l else if a<=l.length then none else some (l++[v])
def jr (a:Nat):List Vis->List Vis->Option (List Vis)
 | l,[]=>some l
 | l,v::r=>(pq a l v).bind fun l'=>jr a l' r
def e_ (p:Prog) (k:Int) (c:Config) (i:Nat):List Vis:=(cw p k c).map fun x=>⟨(dw p k c x).1,i,x⟩
def goV (p:Prog) (k:Int) (a:Nat):Nat->Nat->List Vis->Option (List Vis)
 | 0,_,l=>some l
 | f+1,i,l=>match l[i]? with
   | some v=>(jr a l (e_ p k v.c i)).bind fun l'=>goV p k a f (i+1) l'
   | none=>some l
def v0 (p:Prog):Vis:=⟨bz p,-1,⟨0,0,0⟩⟩
def ek (p:Prog) (k:Int) (a:Nat):Option (List Vis):=goV p k a (a+1) 0 [v0 p]
theorem S8 {a:Nat} {l l':List Vis} {v:Vis} (h:pq a l v=some l'):l.length<=l'.length/\(l.length<=a->l'.length<=a)/\(∃r,l'=l++r):=by
 unfold pq at h;split at h
 ·cases h;exact⟨ax _,id,[],af⟩
 ·split at h
  ·cases h
  ·cases h;exact⟨af,fun _=>by simp;omega,_,rfl⟩
theorem zy {a:Nat}: ∀{r l l':List Vis},jr a l r=some l'->(l.length<=a->l'.length<=a)/\ ∃s,l'=l++s
 | [],l,l',h=>by cases h;exact⟨id,[],af⟩
 | v::r,l,l',h=>by
   simp only[jr,zB]at h;obtain⟨m,d,h⟩:=h;obtain⟨_,b,e,rfl⟩:=S8 d;obtain⟨c,f,rfl⟩:=zy h;exact⟨fun q=>c (b q),e++f,af⟩
structure VisOk (p:Prog) (k:Int) (l:List Vis) (i:Nat):Prop where
 le:i<=l.length
 nd:(l.map Vis.c).Nodup
 z:l[0]? =some (v0 p)
 is: ∀v∈l,IsK p k v.c
 pre: ∀(j:Nat) (v:Vis),0<j->l[j]? =some v-> ∃(q:Nat) (u:Vis),q<j/\l[q]? =some u/\v.fr=q/\v.x∈cw p k u.c/\v.c=(dw p k u.c v.x).1
 cl: ∀(j:Nat) (u:Vis),j<i->l[j]? =some u-> ∀x∈cw p k u.c,∃v∈l,v.c=(dw p k u.c x).1
theorem pz {l:List Vis} {c:Config}:hW l c=true<-> ∃v∈l,v.c=c:=by simp[hW]
theorem VisOk.add {p:Prog} (H:aM p=true) {k:Int} {s i q:Nat} {l l':List Vis} {u:Vis} {x:Choice} (h:VisOk p k l i) (r:l[q]? =some u) (A:x∈cw p k u.c)
 (f:pq s l ⟨(dw p k u.c x).1,q,x⟩=some l'):VisOk p k l' i/\ ∃v∈l',v.c=(dw p k u.c x).1:=by
 unfold pq at f;split at f
 ·rename_i o;cases f;exact⟨h,pz.1 o⟩
 ·rename_i o;split at f
  ·cases f
  cases f;have g:=zL r;obtain⟨d,I,G⟩:=l0 H (h.is u g) A;have C:=(zH.1 r).1;have L:=h.le;refine⟨⟨by simp;omega,?_,?_,?_,?_,?_⟩,⟨(dw p k u.c x).1,q,x⟩,af,rfl⟩
  ·rw[d7,o7];refine⟨h.nd,af,?_⟩;intro a f b z B;simp only[aU,ba,bD]at z;subst z B;obtain⟨v,c,e⟩:=cv.1 f;exact o (pz.2 ⟨v,c,e⟩)
  ·rw[bR aa];exact h.z
  ·intro v c;rcases cA.1 c with c | c
   ·exact h.is v c
   ·simp only[bD]at c;subst c;rw[I];exact G
  ·intro j v n c;rcases bv j l.length with m | w
   ·rw[bR m]at c;obtain⟨K,t,D,E,F⟩:=h.pre j v n c;exact⟨K,t,D,by rw[bR aa];exact E,F⟩
   ·rw[eF w]at c
    have:j-l.length=0:=by
     have:=(zH.1 c).1;simp at this;omega
    rw[this]at c;cases c;exact⟨q,u,aa,by rw[bR C];exact r,rfl,A,rfl⟩
  ·intro j t n g y J;rcases bv j l.length with m | w
   ·rw[bR m]at g;obtain⟨v,c,e⟩:=h.cl j t n g y J;exact⟨v,by simp[c],e⟩
   ·omega
theorem VisOk.adds {p:Prog} (f:aM p=true) {k:Int} {d i q:Nat} {u:Vis}: ∀{xs:List Choice} {l l':List Vis},VisOk p k l i->l[q]? =some u->(∀x∈xs,x∈cw p k u.c)->
 jr d l (xs.map fun x=>⟨(dw p k u.c x).1,q,x⟩)=some l'->VisOk p k l' i/\l'[q]? =some u/\(∀x∈xs,∃v∈l',v.c=(dw p k u.c x).1)
 | [],l,l',h,hu,_,a=>by cases a;exact⟨h,hu,fun x c=>by simp at c⟩
 | y::xs,l,l',h,hu,c,a=>by
   simp only[aU,jr,zB]at a;obtain⟨m,g,a⟩:=a;obtain⟨o,v,j,e⟩:=h.add f hu (c y af) g;obtain⟨_,_,s,rfl⟩:=S8 g;have n:=(zH.1 hu).1;obtain⟨r,t,w⟩:=VisOk.adds f o (by rw[bR n];exact hu) (fun x b=>c x (by simp[b])) a;refine⟨r,t,fun x b=> ?_⟩;rcases cj.1 b with rfl | b
   ·obtain⟨z,rfl⟩:=(zy a).2;exact⟨v,by simp only[cA]at j⊢;exact .inl j,e⟩
   ·exact w x b
theorem VisOk.go {p:Prog} (q:aM p=true) {k:Int} {b:Nat}: ∀{f i:Nat} {l l':List Vis},VisOk p k l i->l.length<=b->b+1<=f+i->goV p k b f i l=some l'->VisOk p k l' l'.length/\l'.length<=b
 | 0,i,l,l',h,hl,BJ,a=>by
   have:=h.le
   omega
 | f+1,i,l,l',h,hl,BJ,a=>by
   rw[goV]at a
   cases d:l[i]? with
   | none=>
     rw[d]at a;cases a
     have:i=l.length:=by
      have:=h.le;have:=oE.1 d;omega
     exact⟨this▸h,hl⟩
   | some v=>
     rw[d]at a;simp only[zB]at a;obtain⟨m,r,a⟩:=a;obtain⟨c,o,s⟩:=VisOk.adds q h d (fun x e=>e) r;have t:=(zH.1 o).1;refine VisOk.go q ⟨aa,c.nd,c.z,c.is,c.pre,?_⟩ ((zy r).1 hl) aa a;intro j u w g x e;rcases bv j i with n | n
     ·exact c.cl j u n g x e
     ·have:j=i:=aa
      subst this;rw[o]at g;cases g;exact s x e
theorem Pq {p:Prog} (c:aM p=true) {k:Int} {a:Nat} (d:1<=a) {l:List Vis} (h:ek p k a=some l):VisOk p k l l.length/\l.length<=a:=by
 refine VisOk.go c ⟨af,af,rfl,?_,?_,fun j u e=>aa⟩ (ak d) aa h
 ·intro v b;simp only[bD]at b;subst b;exact nQ c k
 ·intro j v e b;have:=(zH.1 b).1;simp at this;omega
def mi (e:Entry):List Int:=(e.cells.zip e.values).flatMap fun q=>[q.1,q.2]
def dQ (e:Entry):List Int:=(e.cells.length:Int)::mi e
def d5 (b:List Entry):List Int:=(b.length:Int)::b.flatMap dQ
def iZ (sh:Int) (c:Config):List Int:=c.mem++c.at_.map (· +sh)++c.buf.flatMap d5
theorem Sw: ∀{a b c b' r d:List Int},a.length=b.length->c.length=b'.length->a.length=c.length->
 (a.zip b).flatMap (fun q=>[q.1,q.2])++r=(c.zip b').flatMap (fun q=>[q.1,q.2])++d->a=c/\b=b'/\r=d
 | [],[],[],[],r,d,_,_,_,h=>⟨rfl,rfl,ak h⟩
 | x::a,y::b,x'::c,y'::b',r,d,h1,h2,h3,h=>by
   simp only[wp,dr,iP,eG,gv]at h;obtain⟨rfl,rfl,h⟩:=h;obtain⟨rfl,rfl,rfl⟩:=Sw (ak h1) (ak h2) (ak h3) h
   exact⟨rfl,rfl,rfl⟩
 | [],_::_,_,_,_,_,h1,_,_,_=>by simp at h1
 | _::_,[],_,_,_,_,h1,_,_,_=>by simp at h1
 | _,_,[],_::_,_,_,_,h2,_,_=>by simp at h2
 | _,_,_::_,[],_,_,_,h2,_,_=>by simp at h2
 | [],_,_::_,_,_,_,_,_,h3,_=>by simp at h3
 | _::_,_,[],_,_,_,_,_,h3,_=>by simp at h3
theorem kaT {e f:Entry} {r g:List Int} (c:e.values.length=e.cells.length) (d:f.values.length=f.cells.length) (h:dQ e++r=dQ f++g):e=f/\r=g:=by
 obtain⟨a,b⟩:=e;obtain⟨l,b'⟩:=f;simp only[dQ,mi,iP,gv]at h c d;obtain⟨i,j,k⟩:=Sw c.symm d.symm aa h.2;exact⟨by rw[i,j],k⟩
theorem RV: ∀{b b':List Entry} {r a:List Int},(∀e∈b,e.values.length=e.cells.length)->(∀e∈b',e.values.length=e.cells.length)->b.length=b'.length->
 b.flatMap dQ++r=b'.flatMap dQ++a->b=b'/\r=a
 | [],[],r,a,_,_,_,h=>⟨rfl,ak h⟩
 | e::b,f::b',r,a,h1,h2,h3,h=>by
   simp only[dr,zQ]at h;obtain⟨rfl,h'⟩:=kaT (h1 e af) (h2 f af) h;obtain⟨rfl,rfl⟩:=RV (b:=b) (b':=b') (fun x c=>h1 x (by simp[c])) (fun x c=>h2 x (by simp[c])) (ak h3) h'
   exact⟨rfl,rfl⟩
 | [],_::_,_,_,_,_,h,_=>by simp at h
 | _::_,[],_,_,_,_,h,_=>by simp at h
theorem kcI {b b':List Entry} {r a:List Int} (c: ∀e∈b,e.values.length=e.cells.length) (d: ∀e∈b',e.values.length=e.cells.length) (h:d5 b++r=d5 b'++a):b=b'/\r=a:=by
 simp only[d5,iP,gv]at h;exact RV c d aa h.2
theorem R7: ∀{l l':List (List Entry)},(∀b∈l,∀e∈b,e.values.length=e.cells.length)->(∀b∈l',∀e∈b,e.values.length=e.cells.length)->l.length=l'.length->
 l.flatMap d5=l'.flatMap d5->l=l'
 | [],[],_,_,_,_=>rfl
 | b::l,b'::l',h1,h2,h3,h=>by
   simp only[dr]at h;obtain⟨rfl,h'⟩:=kcI (h1 b af) (h2 b' af) h
   rw[R7 (l:=l) (l':=l') (fun x a=>h1 x (by simp[a])) (fun x a=>h2 x (by simp[a])) (ak h3) h']
 | [],_::_,_,_,h,_=>by simp at h
 | _::_,[],_,_,h,_=>by simp at h
theorem IsB.ent {p:Prog} {c:Config} (h:IsB p c): ∀b∈c.buf,∀e∈b,Proper p e:=by
 intro b a e d;obtain⟨t,f⟩:=eD a;exact(h.buf t b f).2.1 e d
theorem Sl {p:Prog} {sh:Int} {c d:Config} (f:IsB p c) (g:IsB p d) (h:iZ sh c=iZ sh d):c=d:=by
 obtain⟨m,a,b⟩:=c;obtain⟨s,l,b'⟩:=d;simp only[iZ,zQ]at h;have o:m.length=s.length:=f.lm.trans g.lm.symm;obtain⟨rfl,h'⟩:=List.append_inj h o;have q:a.length=l.length:=f.la.trans g.la.symm;obtain⟨i,n⟩:=List.append_inj h' (ak q);have i:a=l:=(List.map_inj_right fun x y e=>aa).1 i;subst i;have r:b.length=b'.length:=f.lb.trans g.lb.symm;have:=R7 (fun x k e j=>(f.ent x k e j).len) (fun x k e j=>(g.ent x k e j).len) r n;simp only at this;rw[this]
theorem mw {p:Prog} (d:aM p=true):p.cells.length<=32/\(∀y∈p.cells,y.w<=8)/\(∀x∈p.threads,x.points<=48):=by
 have a:=uN.1 (show p.ok by simpa[aM]using d);obtain⟨⟨b,_⟩,c⟩:=LU.1 a.lim;refine⟨b,fun y f=> ?_,fun x e=>(c x e).1⟩;obtain⟨i,hi⟩:=eD f;have:=(K9.1 (a.cells i y hi)).1;simp only[gh,ju,en]at this;omega
theorem yK {w:Int} (h:w<=8) {v:Int} (a:v<2^w.toNat):v<256:=by
 have:=lg (i:=w.toNat) (k:=8) aa;omega
theorem qg {p:Prog} (r:aM p=true) {sh:Int} (x:0<=sh/\sh<=1) {c:Config} (h:IsB p c): ∀n∈iZ sh c,sh-1<=n/\n<256:=by
 obtain⟨B,k,v⟩:=mw r;intro n d;simp only[iZ,cA,cv,di]at d;rcases d with(d | ⟨a,m,rfl⟩) | ⟨b,j,d⟩
 ·obtain⟨i,hi⟩:=eD d;have g:=(zH.1 hi).1;rw[h.lm]at g;have f:=zI g;have:=h.mem i n _ hi f;have:=yK (k _ (zL f)) this.2;omega
 ·obtain⟨i,hi⟩:=eD m;have g:=(zH.1 hi).1;rw[h.la]at g;have f:=zI g;have:=h.at_ i a _ hi f;have:=v _ (zL f);omega
 ·have l:=h.ent b j;obtain⟨t,u⟩:=eD j;have z:=(h.buf t b u).1;simp only[d5,cj,di]at d;rcases d with rfl | ⟨e,o,d⟩
  ·omega
  ·have hp:=l e o;simp only[dQ,mi,cj,di,ki,dV]at d;rcases d with rfl | ⟨q,s,d⟩
   ·have:=g6 hp;omega
   ·obtain⟨A,y,f,_,v0,w⟩:=Kb hp s;have g:=(zH.1 f).1;have:=yK (k _ (zL f)) w;rcases d with rfl | rfl<;>omega
def kQ (A V:Expr):List Int:=qO (A.sup 2++V.sup 2)
theorem Pp {p:Prog} (a:aM p=true) {y:Cell} (c:y∈p.cells):1<=y.w/\y.w<=8:=by
 have b:=uN.1 (show p.ok by simpa[aM]using a);obtain⟨i,hi⟩:=eD c;have:=(K9.1 (b.cells i y hi)).1;simp only[gh,ju,en]at this;omega
theorem kat {p:Prog} {A V:Expr} (b:A.valid p.cells false=true) (d:V.valid p.cells false=true): ∀c∈kQ A V,0<=c/\c<p.cells.length:=by
 intro c a;rw[kQ,J_,cA]at a;rcases a with a | a
 ·exact pM b 2 (.inl rfl) c a
 ·exact pM d 2 (.inl rfl) c a
theorem X7 (A V:Expr):(kQ A V).length<=64:=by
 have a:=XH (A.sup 2++V.sup 2);have b:=nE 2 A;have c:=nE 2 V;rw[zM]at a;rw[kQ];omega
def qz (l:List Int):List Int:=l.mergeSort fun x y=>decide (x<=y)
theorem Y5 (H:ae) (x n:Nat) (v:V) (l:List Int) (e:aw H x v 1 (ai l)) (g:l.length<2^40):
 ∃r h' a,DenR Γ G 74 [v] H n=some (r,h',a)/\r= .tup []/\aw h' x v 1 (ai (qz l))/\a=n:=by
 rcases e with⟨rfl,f⟩ | ⟨k,rfl,d,c⟩
 ·have b:l=[]:=by
   have:=bx List.length f;rw[aA]at this;exact fq this
  subst b;exact⟨_,_,_,pK Γ74 rfl rfl rfl,rfl,.inl ⟨rfl,by rw[qz,List.mergeSort_nil];rfl⟩,rfl⟩
 ·rw[aA]
  refine⟨_,upd H k (some (.rows 1 (ai (qz l)) false)),n,pK Γ74 rfl rfl (by
   simp only[jq,c,wq,zD,Kx]
   rw[ah (by exact⟨trivial,aa⟩)];rfl),rfl,.inr ⟨k,by rw[aA,qz,s9],d,by rw[cU]⟩,rfl⟩
theorem Xe (H:ae) (x n:Nat) (v:V) (l:List Int) (d:aw H x v 1 (ai l)) (g:l.length<2^40):
 ∃r h' a,DenR Γ G 75 [v] H n=some (r,h',a)/\r= .t (ints (Go.Lib.compact l))/\a=n:=by
 rcases d with⟨rfl,e⟩ | ⟨k,rfl,f,c⟩
 ·have b:l=[]:=by
   have:=bx List.length e;rw[aA]at this;exact fq this
  subst b;exact⟨_,_,_,pK Γ75 rfl rfl rfl,rfl,rfl⟩
 ·rw[aA]
  exact⟨_,_,_,pK Γ75 rfl rfl (by
   simp only[jq,c,wq,zD,Kx]
   rw[ah ⟨trivial,aa⟩]),rfl,rfl⟩
theorem aw.cellsV {h:ae} {x:Nat} {v:V} {a:Nat} {rows:List (List V)} (o:aw h x v a rows):V.cells v=some [v]:=by
 rcases o with⟨rfl,_⟩ | ⟨k,rfl,_,_⟩<;>rfl
theorem aw.upd' {h:ae} {x k:Nat} {v:V} {a:Nat} {rows:List (List V)} {o':Option O} (o:aw h x v a rows) (e:x<=k):aw (updC h k o') (k+3) v a rows:=by
 rcases o with o | ⟨q,b,d,c⟩
 ·exact .inl o
 ·exact .inr ⟨q,b,aa,by rw[aq,ac aa];exact c⟩
theorem kbb {s:List Int} {c:Nat} (h:c<s.length):(ai s)[c]? =some [vi s[c]]:=by simp[ai,h]
theorem kba (s:List Int) (c:Nat) (v:Int):(ai s).set c [.t (.int .i64 v)]=ai (s.set c v):=by simp[ai,o6]
theorem Ys {h:ae} {k len:Nat} {s:List Int} {a:Bool} (d:h k=some (.rows 1 (ai s) a)) (e:len=s.length):toT1 h (.ms k 0 len)=some (.t (ints s)):=by
 have b:=mC h 999 (s.map fun n=>[ti n]) (iI _)
 have c:toT h 1000 (.ms k 0 len)=some (ints s):=by
  rw[toT,d];simp only[rd,gO,il];rw[ah (by rw[aA];omega),de (by rw[aA];omega)];simp only[zC,zD];rw[show ai s=(s.map fun n=>[ti n]).map (·.map V.t)from rfl,b];rfl
 simp only[toT1,c,cZ]
theorem ZJ (p:Prog) (hs:p.sane) (M:aM p=true) {t j:Nat} {x:Thread} {l:Loop} {A:Expr} (hx:p.threads[t]? =some x) (hl:x.loops[j]? =some l) (K:LoopF p x l A):
 Den Γ G 336 [(zP p),vi t,vi j]=some (.tup [vi (if cM p (kQ A l.variant)>12 then 0 else zu p (kQ A l.variant) A l.variant),vi (if cM p (kQ A l.variant)>12 then 2 else 0)]):=by
 have hv:=wx p hs M hx hl;obtain⟨hd,Pk⟩: ∃n:Nat,l.head=n:=⟨l.head.toNat,by have:=K.h0;omega⟩
 have Y:=K.hA;rw[Pk,k_]at Y
 refine aB (q:=cN hv hx hl Pk Y ?_);refine be (xk A _ _) ?_;rintro r1 h1 n1 ⟨a3,a2,rfl,w,d,Fj,AT⟩;have C:=w.valOf;have q2:=d.valOf;refine aR C q2 ?_;refine be (xk l.variant _ _) ?_;rintro r2 h2 n2 ⟨b3,b2,rfl,B,e,Fh,AF⟩;have q3:=B.valOf;have q4:=e.valOf;have oa2':aw h2 n2 a2 1 (ai (A.sup 2)):=d.keep aa fun k hk _=>(AF k aa).1
 have W:=d.cellsV;have X:=e.cellsV;unfold V.cells at W X;refine cN q2 q3 q4 W X ?_;have RD:=nE 2 A;have RB:=nE 2 l.variant;refine be (X1 (A.sup 2) (l.variant.sup 2) aa aa _ _ (n2+2) a2 b2 (by rw[aq,ah rfl]) aa (oa2'.upd' aa) (e.upd' aa)) ?_;clear d w e B oa2' AT AF C q2 q3 q4 W X;rintro r h3 n3 ho;have C:=ho.valOf;refine aC C ?_;refine be (Y5 _ _ _ _ _ ho (by simp;omega)) ?_;rintro r4 h4 n4 ⟨rfl,Qm,Qt⟩;refine aC C ?_;refine be (Xe _ _ _ _ _ Qm (by rw[qz,s9];simp;omega)) ?_;rintro r5 h5 n5 ⟨rfl,Qs⟩;rw[show Go.Lib.compact (qz (A.sup 2++l.variant.sup 2))=kQ A l.variant from rfl]
 generalize hC:kQ A l.variant=L
 have E:=kat K.vA K.vV;have Pu:=X7 A l.variant;rw[hC]at E Pu;have S: ∀(c:Int) (y:Cell),p.cells[c.toNat]? =some y->1<=y.w/\y.w<=8/\wOf p c=y.w.toNat:=fun c y b=>⟨(Pp M (zL b)).1,(Pp M (zL b)).2,by rw[wOf,b]⟩
 have LP: ∀i,cM p (L.take i)<=8*i:=by
  intro i
  induction i with
  | zero=>simp[cM]
  | succ i ih=>
    by_cases hi:i<L.length
    ·obtain⟨c,g,o⟩:=au hi;obtain⟨J,U⟩:=E c o;obtain⟨y,b,_⟩:=au (show c.toNat<p.cells.length from aa);obtain⟨_,w2,m⟩:=S c y b;rw[a8 g,wI,m];omega
    ·rw[de aa]at ih⊢;omega
 refine aE ?_;refine aS 151097280707754937450496 L.length (fun i f h z=>(f 64).v=vi i/\(f 15).v=vi (cM p (L.take i))) rfl ⟨am,by simp -dsimp only[go_sem,seval];rfl⟩ ?_;rintro i f u H q bs hi ⟨R,D⟩;have hw:=ay i aa;refine aC R ?_;refine aO R ?_ ?_<;>intro h
 ·obtain⟨c,g,o⟩:=au ‹i<L.length›;obtain⟨J,U⟩:=E c o;obtain⟨y,b,_⟩:=au (show c.toNat<p.cells.length from aa);obtain⟨w1,w2,m⟩:=S c y b;have v:=LP i
  have MO:IntKind.i64.wrap ((cM p (L.take i):Int)+y.w)=cM p (L.take (i+1)):=by
   rw[a8 g,wI,m,Int.natCast_add,show((y.w.toNat:Nat):Int)=y.w by omega];exact bt aa
  refine cN R D g J b ?_;exact⟨aa,al hw,al MO⟩
 ·have:i=L.length:=aa
  subst this;rw[bc]at D;refine aC D ?_
  by_cases v:cM p L>12
  ·have O:(cM p L:Int)>12:=aa
   rw[ah v,ah v];exact al O
  ·have O: ¬(cM p L:Int)>12:=aa
   rw[ac v,ac v];have By:=(mw M).1;have e1:(p.cells.length:Int)<=4294967296:=aa
   have Bo:IntKind.i64.wrap (1*2^min (cM p L) 64)=((2^cM p L:Nat):Int):=by
    have:(2:Nat)^cM p L<=4096:=ry (n:=2) (j:=12) aa aa;rw[show min (cM p L) 64=cM p L from je aa,xm,show(2:Int)^cM p L=((2^cM p L:Nat):Int)by simp]
    generalize(2:Nat)^cM p L=z at *
    exact bt aa
   have Co: ¬(cM p L:Int)<0:=aa
   refine fZ O e1 @gz D Bo Co ?_;clear Bo;have P3:(2:Nat)^cM p L<=4096:=ry (n:=2) (j:=12) aa aa;unfold zu
   generalize hZ:(2:Nat)^cM p L=Z at *
   refine aS 21778071482940022976029747207499580440576 Z (fun n f h z=>(f 85).v=vi n/\(f 18).v=vi (dm p L A l.variant n).2/\h (q+1+2+1+3)=some (.rows 1 (ai (dm p L A l.variant n).1) false)/\q+1+2+1+3<z) rfl ⟨am,by simp -dsimp only[go_sem,seval];rfl,by simp -dsimp only[go_sem,seval];simp[dm,ai],av⟩ ?_;rintro n f2 u2 H2 z2 bs2 hn ⟨I,P,Ck,BY⟩;have BO:=ay n aa;refine aC I ?_;refine aO I ?_ ?_<;>intro h
   ·refine aS 83076748498617202771107666373640192 L.length (fun i f h z=>(f 90).v=vi i/\(f 20).v=vi ((n:Int)/ 2^cM p (L.take i))/\h (q+1+2+1+3)=some (.rows 1 (ai (stM p (L.take i) n (dm p L A l.variant n).1)) false)/\q+1+2+1+3<z) rfl ⟨am,by simp -dsimp only[go_sem,seval];simp[cM],by simp -dsimp only[go_sem,seval];exact Ck,av⟩ ?_;rintro i f3 u3 H3 z3 bs3 C8 ⟨T,Ru,s,Qy⟩;have Gl:=ay i aa;refine aC T ?_;refine aO T ?_ ?_<;>intro h
    ·obtain⟨c,g,o⟩:=au ‹i<L.length›;obtain⟨J,U⟩:=E c o;obtain⟨y,b,_⟩:=au (show c.toNat<p.cells.length from aa);obtain⟨w1,w2,m⟩:=S c y b;have k1: ¬y.w<0:=aa
     have k2:IntKind.i64.wrap (1*2^min y.w.toNat 64)=2^y.w.toNat:=ka1 aa;have k3:IntKind.i64.wrap (2^y.w.toNat-1)=2^y.w.toNat-1:=ka0 aa;have k4: ∀a:Int,IntKind.i64.wrap ((BitVec.ofInt IntKind.i64.bits a&&& BitVec.ofInt IntKind.i64.bits (2^y.w.toNat-1)).toNat)=a % 2^y.w.toNat:=fun a=>ut a y.w aa
     have k5: ∀a:Int,a.fdiv (2^min y.w.toNat 64)=a/ 2^y.w.toNat:=fun a=>kcc aa
     have N:c.toNat<(stM p (L.take i) n (dm p L A l.variant n).1).length:=by rw[ve,xq];omega
     have B5:=kbb N;simp -dsimp only[go_sem,seval,T,Ru,g,J,U,b,s,k1,k2,k3,k4,k5,B5,kba];refine⟨aa,al Gl,?_,?_,av⟩
     ·refine cV (a8 g) @wI m @Int.pow_add ?_;rw[HS (Int.le_of_lt (iN _))]
     ·exact dx (a8 g) @QM m
    ·have:i=L.length:=aa
     subst this;rw[bc]at s;have Ac:=xq p L A l.variant n;have N:(stM p L n (dm p L A l.variant n).1).length=p.cells.length:=by rw[ve,Ac]
     have hT:=Ys (h:=H3) (len:=p.cells.length) s N.symm;have OA:=pb A (stM p L n (dm p L A l.variant n).1) (stM p L n (dm p L A l.variant n).1);have JY:=pb l.variant (stM p L n (dm p L A l.variant n).1) (stM p L n (dm p L A l.variant n).1);simp -dsimp only[go_sem,seval,Y,↓hT,OA];have Gv:(dm p L A l.variant (n+1)).1=stM p L n (dm p L A l.variant n).1:=by rw[t_];rfl
     by_cases F:A.eval (stM p L n (dm p L A l.variant n).1) (stM p L n (dm p L A l.variant n).1)=1
     ·have Q:(dm p L A l.variant (n+1)).2=if l.variant.eval (stM p L n (dm p L A l.variant n).1) (stM p L n (dm p L A l.variant n).1)>(dm p L A l.variant n).2 then l.variant.eval (stM p L n (dm p L A l.variant n).1) (stM p L n (dm p L A l.variant n).1)else(dm p L A l.variant n).2:=by
       rw[t_,rM];simp only[ah F]
      simp -dsimp only[go_sem,seval,F,P,↓hT,JY,I];refine⟨aa,al BO,?_,by simp -dsimp only[go_sem,seval,Gv];exact s,av⟩;exact al Q
     ·have Q:(dm p L A l.variant (n+1)).2=(dm p L A l.variant n).2:=by
       rw[t_,rM];simp only[ac F]
      refine aR F I ?_;refine⟨aa,al BO,bh Q P,by simp -dsimp only[go_sem,seval,Gv];exact s,av⟩
   ·have:n=Z:=aa
    subst this;exact al P
theorem kbk {h:ae} {x:Nat} {v:V} {l:List Int} (o:aw h x v 1 (ai l)):toT1 h v=some (.t (ints l)):=by
 have:=i8 (es:=l.map fun n=>[ti n]) o (iI _);rcases o with⟨rfl,a⟩ | ⟨k,rfl,_,_⟩
 ·have:l=[]:=by simpa[ai]using a
  subst this;rfl
 ·simp only[toT1,this,cZ]
theorem XZ {r:V} {h:ae} {vs:List V} {K:V->ae->Prop} {w:WK K} (a: ∀h',K r h'):fe (some r) false h vs K w:=by
 unfold fe;simp only;split
 ·exact a _
 ·exact⟨fun h=>Bool.noConfusion h,a _⟩
end Rg
end
