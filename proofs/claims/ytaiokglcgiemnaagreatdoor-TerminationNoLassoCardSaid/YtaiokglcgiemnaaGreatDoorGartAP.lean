/- Part of the proof of laws of relyguardlaw36. No condition. -/
import Derived.Test.YtaiokglcgiemnaaGreatDoorGartAO
import Derived.Test.YtaiokglcgiemnaaGreatDoorGartAN
import Derived.Lib.ItoaLen
import Derived.Test.YtaiokglcgiemnaaGreatDoorGartAL
set_option linter.unusedSimpArgs false
set_option linter.unusedVariables false
set_option linter.defProp false
section
namespace Rg
open Go
theorem Mz {p:Prog} {c:Config} {t:Nat} {x:Thread} {n:Nat} {y:Choice}:y∈fH p c t x n<-> ∃i s,i<n/\x.steps[i]? =some s/\df p c t s=true/\y=⟨t,i,0⟩:=by
 unfold fH;rw[p7];constructor
 ·rintro⟨⟨s,i⟩,a,h⟩;rw[ka]at a;simp only at a;rw[zO]at a;split at a
  ·rename_i hi;split at h
   ·rename_i b;simp only[zA]at h;exact⟨i,s,hi,a,b,h.symm⟩
   ·simp at h
  ·simp at a
 ·rintro⟨i,s,hi,d,b,rfl⟩;refine⟨(s,i),?_,by simp[b]⟩;rw[ka];simp only;rw[zO,ah hi];exact d
theorem N8 {k:Int} {t:Nat} {b:List Entry} {n:Nat} {y:Choice}:y∈iS k t b n<-> ∃i e,i<n/\b[i]? =some e/\dm k b i e=true/\y=⟨t,-1,ct e⟩:=by
 unfold iS;rw[p7];constructor
 ·rintro⟨⟨e,i⟩,a,h⟩;rw[ka]at a;simp only at a;rw[zO]at a;split at a
  ·rename_i hi;split at h
   ·rename_i c;simp only[zA]at h;exact⟨i,e,hi,a,c,h.symm⟩
   ·simp at h
  ·simp at a
 ·rintro⟨i,e,hi,d,c,rfl⟩;refine⟨(e,i),?_,by simp[c]⟩;rw[ka];simp only;rw[zO,ah hi];exact d
theorem II {p:Prog} {k:Int} {c:Config} {y:Choice}:y∈lJ p k c<->
 (∃(t:Nat) (x:Thread) (i:Nat) (s:Step),p.threads[t]? =some x/\x.steps[i]? =some s/\df p c t s=true/\y=⟨t,i,0⟩)\/
 (∃(t i:Nat) (e:Entry),t<p.threads.length/\(aF c t)[i]? =some e/\dm k (aF c t) i e=true/\y=⟨t,-1,ct e⟩):=by
 unfold lJ eK;rw[dk];constructor
 ·rintro⟨⟨x,t⟩,d,h⟩;rw[ka,be]at d;rcases cz.1 h with h | h
  ·obtain⟨i,s,_,a,b,rfl⟩:=Mz.1 h;exact .inl ⟨t,x,i,s,d,a,b,rfl⟩
  ·obtain⟨i,e,_,a,b,rfl⟩:=N8.1 h;exact .inr ⟨t,i,e,(zH.1 d).1,a,b,rfl⟩
 ·rintro(⟨t,x,i,s,j,a,b,rfl⟩ | ⟨t,i,e,g,hi,f,rfl⟩)
  ·refine⟨(x,t),?_,ii _ (Mz.2 ⟨i,s,(zH.1 a).1,a,b,rfl⟩)⟩;rw[ka,be];exact j
  ·refine⟨(p.threads[t],t),?_,ta _ (N8.2 ⟨i,e,(zH.1 hi).1,hi,f,rfl⟩)⟩;rw[ka,be];exact zI g
theorem tS {p:Prog} {e:Entry} (h:Proper p e):ct e∈e.cells:=by
 have:=h.ne;unfold ct
 cases b:e.cells with
 | nil=>exact absurd b this
 | cons a r=>simp
theorem zg {p:Prog} {k:Int} {b:List Entry} (c: ∀e∈b,Proper p e) {i j:Nat} {e f:Entry} (hi:b[i]? =some e) (m:b[j]? =some f) (a:dm k b j f=true) (d:i<j):ct e≠ct f:=by
 intro l;unfold dm at a;simp only[fg,aQ,zF,eI]at a;rcases a with h | ⟨_,h⟩
 ·omega
 ·have g:e∈b.take j:=by
   have:(b.take j)[i]? =some e:=by rw[zO,ah d];exact hi
   exact zL this
  have:jh (b.take j) f=true:=by
   rw[jh,lu];refine⟨e,g,?_⟩;rw[lR,lu];refine⟨ct f,tS (c f (zL m)),?_⟩;rw[<- l];simpa using tS (c e (zL hi))
  rw[this]at h;simp at h
theorem XL {k:Int} {b:List Entry} {n:Int} {i:Nat} (h:lZ k b n=some i): ∃e,b[i]? =some e/\dm k b i e=true/\ct e=n:=by
 have:=List.find?_some h
 try simp only at this
 split at this
 ·rename_i e a;simp only[zF,aQ]at this;exact⟨e,a,this.1,this.2⟩
 ·simp at this
theorem QB {p:Prog} {k:Int} {b:List Entry} (c: ∀e∈b,Proper p e) {i:Nat} {e:Entry} (hi:b[i]? =some e) (l:dm k b i e=true):lZ k b (ct e)=some i:=by
 have m:=(zH.1 hi).1
 cases a:lZ k b (ct e)with
 | none=>
   unfold lZ at a;rw[p8]at a;have:=a i (dS.2 m);rw[hi]at this
   simp[l]at this
 | some j=>
   obtain⟨f,g,n,d⟩:=XL a;rcases Nat.lt_trichotomy i j with h | h | h
   ·exact absurd d.symm (zg c hi g n h)
   ·rw[h]
   ·exact absurd d (zg c g hi l h)
theorem Ly {p:Prog} {k:Int} {c:Config} {t i:Nat} {x:Thread} {s:Step} (a:p.threads[t]? =some x) (e:x.steps[i]? =some s) (d:df p c t s=true):en p k c ⟨t,i,0⟩=(eo p c t s,0):=by
 have f:=(zH.1 a).1;have b:li p ⟨t,i,0⟩=some s:=by simp[li,a,e]
 rw[en,ac (by simp only;omega),ac (by simp only;omega),b];simp[d]
theorem JZ {p:Prog} {k:Int} {c:Config} (a:IsB p c) {t i:Nat} {e:Entry} (f:t<p.threads.length) (hi:(aF c t)[i]? =some e) (d:dm k (aF c t) i e=true):en p k c ⟨t,-1,ct e⟩=(c7 c t i,0):=by
 have b:=(a.buf t _ (fC (by rw[a.lb];exact f))).2.1;rw[en,ac (by simp only;omega),ah rfl];simp only[kW,QB b hi d]
theorem kbg {p:Prog} (h:aN p=true) {k:Int} {c:Config} (a:IsB p c) {y:Choice} (m:y∈lJ p k c): ∃d,en p k c y=(d,0)/\IsB p d:=by
 rcases II.1 m with⟨t,x,i,s,g,f,b,rfl⟩ | ⟨t,i,e,l,hi,j,rfl⟩
 ·exact⟨_,Ly g f b,P' h a g f b⟩
 ·exact⟨_,JZ a l hi j,Lz a hi⟩
def bP (p:Prog) (k:Int) (c:Config):List Choice:=if k=0 then fG p c else lJ p k c
def dy (p:Prog) (k:Int) (c:Config) (x:Choice):Config×Int:=if k=0 then jZ p c x else en p k c x
structure IsK (p:Prog) (k:Int) (c:Config):Prop where
 b:IsB p c
 q:k=0-> ∀b∈c.buf,b=[]
theorem IsK.c {p:Prog} {c:Config} {k:Int} (h:IsK p k c) (a:k=0):isM p c=true:=mW.2 (kcK h.b (h.q a))
theorem lW {p:Prog} (j:aN p=true) {k:Int} {c:Config} (g:IsK p k c) {y:Choice} (b:y∈bP p k c): ∃d,dy p k c y=(d,0)/\IsK p k d:=by
 unfold bP at b;unfold dy;split at b
 ·rename_i a;obtain⟨t,x,i,s,n,m,l,rfl,f,e⟩:=Sn j (g.c a) b;rw[ah a];have:=mW.1 e;exact⟨_,f,S6 this,fun _=>this.buf⟩
 ·rename_i a;rw[ac a];obtain⟨d,f,e⟩:=kbg j g.b b;exact⟨d,f,e,fun h=>absurd h a⟩
theorem sa {p:Prog} (a:aN p=true) (k:Int):IsK p k (dz p):=⟨YT a,fun _=>(mW.1 (Pm a)).buf⟩
theorem pH {c:Config} (a: ∀b∈c.buf,b=[]) (t:Nat):aF c t=[]:=by
 unfold aF;rw[zK]
 cases h:c.buf[t]? with
 | none=>rfl
 | some b=>exact a b (zL h)
theorem L2 {c:Config} (a: ∀b∈c.buf,b=[]) (t:Nat):aM c t=c.mem:=by rw[aM,pH a];rfl
theorem Jg {p:Prog} {c:Config} (d: ∀b∈c.buf,b=[]) (t:Nat) (s:Step):df p c t s=ir p c t s:=by
 unfold df ir;rw[L2 d,pH d,pH d]
 congr 1
 by_cases f:s.kind=3
 ·rw[ah f,ac (show ¬s.kind=6 from aa),ac (show ¬s.kind=7 from aa)];split<;>simp
 ·rw[ac f]
  by_cases e:s.kind=4\/s.kind=5
  ·rw[ah e,ac (show ¬s.kind=6 from aa),ac (show ¬s.kind=7 from aa)];simp
  ·rw[ac e]
   by_cases a:s.kind=6
   ·rw[ah a,ah a];simp
   ·rw[ac a,ac a];split<;>simp
theorem XD {p:Prog} {c:Config} (a: ∀b∈c.buf,b=[]) (k:Int):lJ p k c=fG p c:=by
 unfold lJ eK fG jg
 congr 1
 funext q
 rw[pH a];have d:iS k q.2 [] ([]:List Entry).length=[]:=rfl;rw[d,bW];unfold fH jA
 congr 1
 funext r
 rw[Jg a]
theorem YJ {p:Prog} {c:Config} (d:c.buf.length=p.threads.length) (e: ∀b∈c.buf,b=[]):c.buf=p.threads.map fun _=>[]:=by
 refine List.ext_getElem (by simp[d]) fun i a f=> ?_
 rw[vJ];exact e _ (mg a)
theorem rv (p:Prog) (c:Config) (t:Nat) (x:Thread) (i:Nat):(fH p c t x i).length<=i:=by
 unfold fH;refine cU (vW _ _) ?_;simp;omega
theorem xu (k:Int) (t:Nat) (b:List Entry) (i:Nat):(iS k t b i).length<=i:=by
 unfold iS;refine cU (vW _ _) ?_;simp;omega
theorem wv {p:Prog} {c:Config} {t:Nat} {x:Thread} {i:Nat} {s:Step} (h:x.steps[i]? =some s):
 fH p c t x (i+1)=fH p c t x i++(if df p c t s then [⟨t,i,0⟩]else []):=by
 unfold fH;rw[rn h,v7]
 congr 1
 cases a:df p c t s<;>simp[a]
theorem L8 {k:Int} {t:Nat} {b:List Entry} {i:Nat} {e:Entry} (h:b[i]? =some e):
 iS k t b (i+1)=iS k t b i++(if dm k b i e then [⟨t,-1,ct e⟩]else []):=by
 unfold iS;rw[rn h,v7]
 congr 1
 cases a:dm k b i e<;>simp[a]
theorem w7 {p:Prog} {k:Int} {c:Config} {i:Nat} {x:Thread} (h:p.threads[i]? =some x):
 eK p k c (i+1)=eK p k c i++(fH p c i x x.steps.length++iS k i (aF c i) (aF c i).length):=by
 unfold eK;rw[rn h,jc];simp
theorem kcN {p:Prog} {c:Config} (a:IsB p c) (t:Nat):(aF c t).length<=3:=by
 rcases bw t c.buf.length with h | h
 ·exact(a.buf t _ (fC h)).1
 ·simp[aF,List.getD,gq h]
theorem rl {p:Prog} (d:aN p=true) {k:Int} {c:Config} (b:IsB p c): ∀i:Nat,(eK p k c i).length<=67*i
 | 0=>by simp[eK]
 | i+1=>by
   have l:=rl d (k:=k) b i;rcases a:p.threads[i]? with _ | x
   ·have:p.threads.length<=i:=al a
    have e:eK p k c (i+1)=eK p k c i:=by
     unfold eK;rw[c6 aa,c6 aa]
    rw[e];omega
   ·have f:=((cS (cT d).1).2 x (zL a)).2.1;have g:=rv p c i x x.steps.length;have h:=xu k i (aF c i) (aF c i).length;have j:=kcN b i;rw[w7 a,zM,zM];omega
theorem ua {p:Prog} (a:aN p=true) {k:Int} {c:Config} (b:IsB p c):(lJ p k c).length<=268:=by
 have d:=rl a (k:=k) b p.threads.length;have e:=(cS (cT a).1).1.2.2.2;unfold lJ;omega
theorem z8 {p:Prog} (a:aN p=true) {k:Int} {c:Config} (b:IsB p c):(bP p k c).length<=268:=by
 unfold bP;split
 ·have d:=tJ a c p.threads.length;have e:=(cS (cT a).1).1.2.2.2;unfold fG;omega
 ·exact ua a b
section
end
theorem rm {p:Prog} {k:Int} {c:Config} (h:IsK p k c):bP p k c=lJ p k c:=by
 unfold bP;split
 ·rename_i a;exact(XD (h.q a) k).symm
 ·rfl
def kU (p:Prog) (k:Int) (c:Config) (t:Nat) (s:Step):Config:=if k=0 then hU p c t s else eo p c t s
theorem zY {p:Prog} (q:aN p=true) {k:Int} {c:Config} (b:IsK p k c) {y:Choice} (B:y∈bP p k c):
 (∃(t:Nat) (x:Thread) (i:Nat) (s:Step),p.threads[t]? =some x/\x.steps[i]? =some s/\df p c t s=true/\y=⟨t,i,0⟩/\dy p k c y=(kU p k c t s,0)/\IsK p k (kU p k c t s))\/
 (k≠0/\ ∃(t i:Nat) (e:Entry),t<p.threads.length/\(aF c t)[i]? =some e/\dm k (aF c t) i e=true/\y=⟨t,-1,ct e⟩/\dy p k c y=(c7 c t i,0)/\IsK p k (c7 c t i)):=by
 have n:=B;rw[rm b]at n;rcases II.1 n with⟨t,x,i,s,g,f,d,rfl⟩ | ⟨t,i,e,u,hi,r,rfl⟩
 ·refine .inl ⟨t,x,i,s,g,f,d,rfl,?_⟩
  by_cases a:k=0
  ·have A:=b.q a;rw[Jg A]at d;have w:(⟨t,i,0⟩:Choice)∈fG p c:=wo.2 ⟨t,x,i,s,g,f,d,rfl⟩;obtain⟨E,F,C,D,j,l,_,m,z,v⟩:=Sn q (b.c a) w;simp only[Choice.mk.injEq,Int.natCast_inj,nt]at m;obtain⟨rfl,rfl⟩:=m;rw[g]at j;cases j;rw[f]at l;cases l;have o:=mW.1 v;simp only[dy,kU,ah a];exact⟨z,S6 o,fun _=>o.buf⟩
  ·simp only[dy,kU,ac a];exact⟨Ly g f d,P' q b.b g f d,fun h=>absurd h a⟩
 ·have a:k≠0:=by
   intro a;rw[pH (b.q a)]at hi;simp at hi
  refine .inr ⟨a,t,i,e,u,hi,r,rfl,?_⟩;simp only[dy,ac a];exact⟨JZ b.b u hi r,Lz b.b hi,fun h=>absurd h a⟩
def j4 (h:ae) (lo x:Nat) (v:V) (l:List Int) (room:Nat):Prop:= ∃k,v= .ms k 0 l.length/\lo<=k/\k<x/\h k=some (.rows 1 (ai l++List.replicate room [zi]) false)
theorem j4.valOf {h:ae} {lo x:Nat} {v:V} {l:List Int} {room:Nat} (o:j4 h lo x v l room):valOf v=some v:=by obtain⟨k,rfl,_,_,_⟩:=o;rfl
theorem j4.rows {h:ae} {lo x:Nat} {v:V} {l:List Int} {room:Nat} (o:j4 h lo x v l room):Rg.rowsS h v=some (ai l):=by
 obtain⟨k,rfl,_,_,a⟩:=o;unfold Rg.rowsS;simp only[a,rd,gy,ij];rw[ah (by simp[aC]),tf (by rw[aC];exact ay _),c6 (by rw[aC];exact ay _)]
theorem j4.resVal {h:ae} {lo x:Nat} {v:V} {l:List Int} {room:Nat} (o:j4 h lo x v l room):Rg.resVal v=some v:=by obtain⟨k,rfl,_,_,_⟩:=o;rfl
theorem j4.reify {h:ae} {lo x:Nat} {v:V} {l:List Int} {room:Nat} (o:j4 h lo x v l room):Rg.reify h v=some (.t (ints l)):=by
 obtain⟨k,rfl,_,_,c⟩:=o;have a:=mA h 999 (l.map fun n=>[ti n]) (iG _)
 have b:toT h 1000 (.ms k 0 l.length)=some (ints l):=by
  rw[toT,c];simp only[rd,gy,ij];rw[ah (by simp[aC]),tf (by rw[aC];exact ay _),c6 (by rw[aC];exact ay _)];simp only[zC,zD];rw[show ai l=(l.map fun n=>[ti n]).map (·.map V.t)from rfl,a];rfl
 simp only[Rg.reify,toT1,b,cZ]
theorem MS {h:ae} {lo x q room:Nat} {v:V} {l m:List Int} {K:V->List (Nat×O)->Prop} {w:WK K} (d:j4 h lo x v l (m.length+room)) (u:x<=q) (s:l.length+m.length<=2^32)
 (c: ∀e hp,j4 (At h hp) lo (q+1) e (l++m) room->(∀j,j<lo->At h hp j=h j)->K e hp):eE false (aY h q 1 8 v (ai l) (ai m)) K w:=by
 unfold aY;rw[ah ⟨⟨by rw[aC,aC];exact s,aG⟩,eC _,eC _⟩]
 cases m with
 | nil=>
   simp only[ai,bc,sU,aU,jC];refine c v [] ?_ (fun j _=>by rw[bE]);rw[bW];obtain⟨k,rfl,b,r,a⟩:=d
   exact⟨k,rfl,b,aa,by simpa[bE]using a⟩
 | cons y m=>
   obtain⟨k,rfl,b,r,a⟩:=d;have p:(ai (y::m)).isEmpty=false:=rfl;simp only[p,a,zG,aX,kx,aU,jC]
   have g:fq (ai l) (ai (y::m)) (ai l++List.replicate ((y::m).length+room) [zi])=ai (l++y::m)++List.replicate room [zi]:=by
    have i:ai (l++y::m)=ai l++ai (y::m):=by simp[ai]
    rw[i];unfold fq;split
    ·rename_i f;simp only[zM,aC,iB]at f;have:room=0:=aa
     subst this;simp
    ·rw[List.drop_append,oU (by rw[aC,aC];omega),List.drop_replicate,aC,aC];rw[show(y::m).length+room-(l.length+(y::m).length-l.length)=room from aa,ff]
   refine c _ [(k,.dead),(q,.rows 1 (fq (ai l) (ai (y::m)) (ai l++List.replicate ((y::m).length+room) [zi])) false)] ⟨q,?_,aa,aa,?_⟩ (fun j t=> ?_)
   ·rw[aC,aC,zM]
   ·rw[g];have:q≠k:=aa
    simp[cD,bE,aq]
   ·have n:j≠q:=aa
    have o:j≠k:=aa
    simp[cD,bE,aq,n,o]
theorem kaW (m:Nat) (g:0<m) (h:m<=2^31) (H:ae) (n:Nat): ∃r h' a,DenR Γ G 368 [.t .nils,vi m] H n=some (r,h',a)/\(j4 h' n a r [] m/\ ∀j,j<n->h' j=H j):=by
 have b: ¬((m:Int)<0):=aa
 have c:(0:Int)<m:=aa
 have d:(m:Int)<=4294967296:=aa
 have f:IntKind.i64.wrap ((m:Int)-0)=m:=by rw[Int.sub_zero];exact bu aa
 have e:(1:Int)<=m:=aa
 refine bO (q:=bT b c d e f ?_);refine⟨⟨_,rfl,aa,by simp -dsimp only[go_sem];omega,by simp[cD,bE,aq,ai]⟩,fun j i=> ?_⟩;have:j≠n+1+2+8+2+5:=aa
 simp[cD,bE,aq,this]
theorem Y1 (n:Nat) (H:ae): ∃r h' b,DenR Γ G 368 [.t .nils,vi 0] H n=some (r,h',b)/\(r= .t .nils/\h'=H):=by
 have a:IntKind.i64.wrap (0-0)=0:=rfl
 refine bO (q:=aw a ?_);exact⟨rfl,rfl⟩
theorem XR (a b:List Int) (ha:a.length<2^20) (hb:b.length<2^20) (H:ae) (n k:Nat) (d vb:V) (c:H k=some (.rows 1 [[d],[vb]] false)) (Z:k<n)
 (g:ax H n d 1 (ai a)) (ob:ax H n vb 1 (ai b)): ∃r h' f,DenR Γ G 350 [.ms k 0 2] H n=some (r,h',f)/\ax h' f r 1 (ai (a++b)):=by
 have X:IntKind.i64.wrap (0+(a.length:Int))=a.length:=by rw[Int.zero_add];exact bu aa
 have Y:IntKind.i64.wrap ((a.length:Int)+b.length)=((a.length+b.length:Nat):Int):=by rw[Int.natCast_add];exact bu aa
 have L: ¬((a.length:Int)<0):=aa
 have M: ¬(((a.length+b.length:Nat):Int)<0):=aa
 have x:=g.valOf;have y:=ob.valOf
 have R:lenS H d=some a.length:=by rcases g with⟨rfl,o⟩ | ⟨q,rfl,_,p⟩
                                   ·have:a=[]:=by simpa[ai]using o
                                    subst this;rfl
                                   ·simp[lenS,p,aC]
 have S:lenS H vb=some b.length:=by rcases ob with⟨rfl,o⟩ | ⟨q,rfl,_,p⟩
                                    ·have:b=[]:=by simpa[ai]using o
                                     subst this;rfl
                                    ·simp[lenS,p,aC]
 refine bO (q:=aw c ?_);refine bK ?_;refine bT c x R X L ?_;refine bK ?_;refine bT c y S Y M ?_;refine bK ?_;refine aA ?_
 by_cases N:a.length+b.length=0
 ·rw[N];have K:a=[]:=fu aa;have J:b=[]:=fu aa;subst K J;refine bf (Y1 _ _) ?_;rintro r h' f ⟨rfl,rfl⟩;have v:=g.rowsS;have w:=ob.rowsS;have B:ai []=[]:=rfl;refine aw c ?_;refine bK ?_;refine bT c x v B @aY.eq_1 ?_;refine bK ?_;refine bT c y w B @aY.eq_1 ?_;refine bK ?_;refine aA ?_;exact .inl ⟨rfl,rfl⟩
 ·refine bf (kaW _ aa aa _ _) ?_;rintro r h' f ⟨m,i⟩;have D:=m.valOf;have T:=m.rows;have h:h' k=some (.rows 1 [[d],[vb]] false):=by rw[i k aa];exact c
  have s:ax h' n d 1 (ai a):=g.keep (ay _) fun j C _=>i j aa
  have t:ax h' n vb 1 (ai b):=ob.keep (ay _) fun j C _=>i j aa
  have v:=s.rowsS;refine aJ D h ?_;refine bK ?_;refine bT h x D T v ?_;refine MS m aa (by simp;omega) ?_;rintro W hp e A;rw[ff]at e;have E:=e.valOf;have U:=e.rows;have z:At h' hp k=some (.rows 1 [[d],[vb]] false):=by rw[A k aa];exact h
  have u:ax (At h' hp) n vb 1 (ai b):=t.keep (ay _) fun j C _=>A j aa
  have w:=u.rowsS;refine aJ E z ?_;refine bK ?_;refine bT z y E U w ?_;refine MS (room:=0) e aa aa ?_;rintro W G6 l NG;have F:=l.valOf;have I:=l.resVal;simp only[Rg.resVal]at I;refine aw F ?_;refine bK ?_;refine aJ F I ?_;obtain⟨Q,rfl,h1,h2,P⟩:=l;exact .inr ⟨Q,by rw[aC];rfl,by simp -dsimp only[go_sem];omega,al P⟩
def ji (p:Prog) (t j:Int):Bool:=aN p&&(decide (0<=t)&&(decide (0<=j)&&match p.threads[t.toNat]? with
 | some x=>decide (j<x.loops.length)
 | none=>false))
theorem Yt {p:Prog} {t j:Int} (h:ji p t j=true):aN p=true/\ ∃(d c:Nat) (x:Thread) (l:Loop),t=d/\j=c/\p.threads[d]? =some x/\x.loops[c]? =some l:=by
 simp only[ji,zF,aQ]at h;obtain⟨e,g,i,a⟩:=h;refine⟨e,t.toNat,j.toNat,?_⟩
 cases b:p.threads[t.toNat]? with
 | none=>rw[b]at a;cases a
 | some x=>
   rw[b]at a;have f:j.toNat<x.loops.length:=by simp only[aQ]at a;omega
   exact⟨x,x.loops[j.toNat],aa,aa,rfl,zI f⟩
theorem kaU (p:Prog) (k:p.sane) (t j:Int):Den Γ G 348 [(zP p),vi t,vi j]=some (vb (ji p t j)):=by
 have a:=K4 p k
 refine aD (q:=?_)
 cases c:aN p
 ·rw[c]at a;have:ji p t j=false:=by simp[ji,c]
  rw[this];exact ak a
 ·rw[c]at a
  by_cases h:0<=t
  ·obtain⟨n,rfl⟩: ∃n:Nat,t=n:=⟨t.toNat,aa⟩
   have b:((n:Int)>=0):=aa
   by_cases i:n<p.threads.length
   ·have e:((n:Int)<(p.threads.length:Int)):=aa
    have d:=zI i
    generalize p.threads[n]=x at d
    have:ji p n j=(decide (0<=j)&&decide (j<x.loops.length)):=by simp[ji,c,d]
    rw[this]
    by_cases f:j>=0
    ·have g:0<=j:=f;exact pv a b e f g d
    ·have g: ¬0<=j:=f;exact pv a b e f g @ik
   ·have e: ¬((n:Int)<(p.threads.length:Int)):=aa
    have d:p.threads[n]? =none:=gq aa;have:ji p n j=false:=by simp[ji,c,d]
    rw[this];exact ds a b e
  ·have b: ¬(t>=0):=h;have:ji p t j=false:=by simp[ji,h]
   rw[this];exact bg a b
theorem Yu (p:Prog) (c:p.lite) (t j:Int):Den Γ G 335 [(zP p),vi t,vi j]=some (vb (i8 p&&ji p t j)):=by
 have a:=kaX p c.steps
 refine aD (q:=?_)
 cases b:i8 p
 ·rw[b]at a;exact bg a @ik
 ·rw[b]at a;have d:=kaU p (P_ c b) t j;exact ds a d @eA
theorem wt (p:Prog) (k:p.sane) (h:aN p=true) {t j:Nat} {x:Thread} {l:Loop} (a:p.threads[t]? =some x) (i:x.loops[j]? =some l):Den Γ G 349 [(zP p),vi t,vi j]=some (vb true):=by
 have g:=tD p k;have f:(dl p).1=0:=by simpa[aN]using h
 have b:((t:Int)>=0):=aa
 have c:((j:Int)>=0):=aa
 have d:((t:Int)<(p.threads.length:Int)):=by have:=(zH.1 a).1;omega
 have e:((j:Int)<(x.loops.length:Int)):=by have:=(zH.1 i).1;omega
 exact aD (q:=VC g f b c d e a)
theorem kbh (a b:Entry) (B:a.cells.length<2^20) (C:b.cells.length<2^20):
 Den Γ G 384 [.agg [.t (ints a.cells),.t (ints a.values)],.agg [.t (ints b.cells),.t (ints b.values)]]=some (vb (lR a b)):=by
 refine aD (q:=aA ?_);refine a8 4294967280 a.cells.length (fun i f=>(f 5).v=vi i/\ ∀c∈a.cells.take i,c∉ b.cells) rfl rfl ⟨am,af⟩ ?_;rintro i f u x bs hi ⟨l,o⟩;have z:=aB i aa;refine aw l ?_;refine aR l ?_ ?_<;>intro h
 ·obtain⟨c,q,s⟩:=au ‹i<a.cells.length›;refine a8 4294950992 b.cells.length (fun k f=>(f 6).v=vi k/\ ∀d∈b.cells.take k,d≠c) rfl rfl ⟨am,af⟩ ?_;rintro k A E F y D ⟨n,p⟩;have t:=aB k aa;refine aw n ?_;refine dH n l ?_ ?_<;>intro h
  ·obtain⟨d,m,w⟩:=au ‹k<b.cells.length›
   by_cases j:c=d
   ·have r:lR a b=true:=by
     simp only[lR,lu];exact⟨d,w,by simpa[j]using j▸s⟩
    rw[r];exact sG l n q m j
   ·refine bT l n q m j ?_;refine⟨aa,ak t,?_⟩;intro e g;rw[a_ m,cz]at g;rcases g with g | g
    ·exact p e g
    ·simp only[bB]at g;subst g;exact bX j
  ·have:k=b.cells.length:=aa
   subst this;rw[be]at p;refine⟨aa,ak z,?_⟩;intro e g;rw[a_ q,cz]at g;rcases g with g | g
   ·exact o e g
   ·simp only[bB]at g;subst g;exact fun v=>p e v rfl
 ·have:i=a.cells.length:=aa
  subst this;rw[be]at o
  have r:lR a b=false:=by
   simp only[lR,List.any_eq_false];intro d m;simp only[nQ,aQ];exact fun h=>o d h m
  rw[r]
def pp (l:List Int) (v:Int):Int:=match l.findIdx? (fun x=>decide (x=v))with
 | some i=>i
 | none=> -1
theorem kbV {l:List Int} {v:Int} {i:Nat} (h:l[i]? =some v) (b: ∀j,j<i->l[j]? ≠some v):pp l v=i:=by
 have hi:=(zH.1 h).1
 have:l.findIdx? (fun x=>decide (x=v))=some i:=by
  rw[rz];refine⟨hi,by simpa using(zH.1 h).2,fun j a=> ?_⟩;have:=b j a;rw[zI aa]at this;simpa using this
 rw[pp,this]
theorem kbr {l:List Int} {v:Int} (b: ∀j,j<l.length->l[j]? ≠some v):pp l v= -1:=by
 have:l.findIdx? (fun x=>decide (x=v))=none:=by
  rw[s_];intro x c;obtain⟨j,a⟩:=eH c;have:=b j (zH.1 a).1;rw[a]at this;simpa using this
 rw[pp,this]
theorem kbW (l:List Int) (v:Int):decide (pp l v>=0)=l.contains v:=by
 unfold pp
 cases h:l.findIdx? (fun x=>decide (x=v))with
 | some i=>
   have a:v∈l:=by
    rw[rz]at h;obtain⟨b,c,_⟩:=h;exact (al c:l[i]=v)▸mg b
   simp[a]
 | none=>
   have a:v∉ l:=by
    intro a;rw[s_]at h;have:=h v a;simp at this
   simp[a]
theorem Yp (l:List Int) (v:Int) (m:l.length<2^40):Den Γ G 207 [.t (ints l),vi v]=some (vi (pp l v)):=by
 refine aD (q:=aA ?_);refine a8 524080 l.length (fun i f=>(f 8).v=vi i/\ ∀j,j<i->l[j]? ≠some v) rfl rfl ⟨am,fun j g=>aa⟩ ?_;rintro i f u n bb hi ⟨a,b⟩;have k:=aB i aa;refine aw a ?_;refine aR a ?_ ?_<;>intro h
 ·obtain⟨y,c,_⟩:=au ‹i<l.length›;refine aJ a c ?_;refine aR a ?_ ?_<;>intro h
  ·rw[kbV (by rw[c,h]) b]
  ·refine⟨aa,ak k,fun j g=> ?_⟩;rcases bw j i with d | d
   ·exact b j d
   ·have:j=i:=aa
    subst this;rw[c];intro e;cases e;exact absurd rfl h
 ·have:i=l.length:=aa
  subst this;rw[kbr b]
theorem xg (l:List Int) (v:Int) (c:l.length<2^40):Den Γ G 206 [.t (ints l),vi v]=some (vb (l.contains v)):=by
 refine aD (q:=?_)
 have a:=Yp l v c;have b:=kbW l v;exact bg a b
theorem Yb (l:List Entry) (e:Entry) (B:l.length<2^40) (z:e.cells.length<2^40) (v: ∀o∈l,o.cells.length<2^40):
 Den Γ G 201 [.t (.sl (l.map Entry.enc)),.agg [.t (ints e.cells),.t (ints e.values)]]=some (vb (jh l e)):=by
 refine aD (q:=aA ?_);refine a8 268433744 l.length (fun i f=>(f 11).v=vi i/\jh l e=(l.drop i).any fun o=>lR o e) rfl rfl ⟨am,rfl⟩ ?_;rintro i f u C bb hi ⟨a,c⟩;have w:=aB i aa;refine aw a ?_;refine aR a ?_ ?_<;>intro h
 ·obtain⟨y,g,Eq⟩:=au ‹i<l.length›;have s:=v y Eq;refine a7 a g @Entry.enc.eq_1 ?_;refine a8 133955856 e.cells.length (fun j k=>(k 18).v=vi j/\(e.cells.take j).any (fun n=>y.cells.contains n)=false) rfl rfl ⟨am,af⟩ ?_;rintro j k D x t A ⟨b,d⟩;have p:=aB j aa;refine aw b ?_;refine dH b a ?_ ?_<;>intro h
  ·obtain⟨n,m,r⟩:=au ‹j<e.cells.length›;have q:=xg y.cells n s;refine bN b a m q ?_;refine dH b a ?_ ?_<;>intro h
   ·rw[c,xE g (by rw[lR,lu];exact⟨n,r,al h⟩)]
   ·refine⟨aa,ak p,?_⟩;rw[a_ m,vP,d];simpa using h
  ·have:j=e.cells.length:=aa
   subst this;refine⟨aa,ak w,?_⟩;rw[c,xF g (by rw[be]at d;exact d)]
 ·have:i=l.length:=aa
  subst this;rw[c,y7]
def xk (h:ae) (x:Nat) (v:V) (rows:List (List V)):Prop:=
 (v= .t (.sl [])/\rows=[])\/ ∃k,v= .ms k 0 rows.length/\k<x/\h k=some (.rows 1 rows false)
theorem YH (l:List Int):iw (ai l)=some l:=by
 induction l with
 | nil=>rfl
 | cons n l a=>
   show(iw (ai l)).map (n:: ·)=_;rw[a];rfl
theorem WW (l:List Int):bY l=ai l:=by simp[bY,ai]
theorem sE {h:ae} {b:Nat} {l:List Int} {K:V->List (Nat×O)->Prop} {w:WK K} (k:l.length<2^40)
 (d: ∀v hp,xk (At h hp) (b+1) v (ai l)->(∀j,j≠b->At h hp j=h j)->(∀j,j≠b->aK v j)->(Rg.valOf v=some v/\V.cells v=some [v])->K v hp):rY (Γ:=Γ) (G:=G) false h b 198 [.t (ints l)] K w:=by
 refine⟨rfl,rfl,[.t (ints l)],rfl,?_⟩
 cases l with
 | nil=>
   refine⟨.t (.sl []),fun _=>none,0,pN Γ198 rfl rfl rfl,{ val:=.t (.sl []) },rfl,d _ _ (.inl ⟨rfl,rfl⟩) (fun j _=>by rw[bE]) (fun j _ i n h=>by cases h) ⟨rfl,rfl⟩⟩
 | cons a l=>
   have e:jo .cloneI [.t (ints (a::l))] (fun _=>none) 0=some (.ms 0 0 (a::l).length,upd (fun _=>none) 0 (some (.rows 1 (bY (a::l)) false)),1):=by
    show((iw (ai (a::l))).bind fun c=>if c.length<1099511627776 then some (V.ms 0 0 c.length,upd (fun _=>none) 0 (some (O.rows 1 (bY c) false)),0+1)else none)=_;rw[YH,zD,ah k]
   rw[WW]at e;have g:(ai (a::l)).all (fun row=>row.all V.isTr)=true:=by simp[ai,V.isTr]
   refine⟨_,_,_,pN Γ198 rfl rfl e,{ val:=.ms b 0 (ai (a::l)).length,hp:=[(b,.rows 1 (ai (a::l)) false)] },?_,d _ _ (.inr ⟨b,rfl,aa,by simp[cD,bE,aq]⟩) (fun j f=>by simp[cD,bE,aq,f]) (fun j f=>c8 aa _ _) ⟨rfl,rfl⟩⟩;simp only[ja,cV];rw[ah ⟨trivial,by rw[aC],g⟩,aC]
theorem xk.reify {h:ae} {x:Nat} {v:V} {l:List Int} (o:xk h x v (ai l)):Rg.reify h v=some (.t (ints l)):=by
 rcases o with⟨rfl,a⟩ | ⟨k,rfl,_,b⟩
 ·have:l=[]:=by
   have:=bz List.length a;rw[aC]at this;exact fu this
  subst this;rfl
 ·have:toT h 1000 (.ms k 0 (ai l).length)=some (.sl (l.map fun n=>[ti n])):=jD (h:=h) (x:=k+1) (es:=l.map fun n=>[ti n]) (.inr ⟨k,rfl,aa,b⟩) (iG _);simp only[Rg.reify,toT1,this,cZ]
def dZ (m:List Int) (e:Entry) (i:Nat):List Int:=((e.cells.zip e.values).take i).foldl (fun m q=>m.set q.1.toNat q.2) m
theorem PB (m:List Int) (e:Entry) (i:Nat):(dZ m e i).length=m.length:=tt _ m
theorem MP {m:List Int} {e:Entry} {i:Nat} {c v:Int} (a:e.cells[i]? =some c) (b:e.values[i]? =some v):dZ m e (i+1)=(dZ m e i).set c.toNat v:=by
 have d:(e.cells.zip e.values)[i]? =some (c,v):=by rw[oH];exact⟨a,b⟩
 unfold dZ;rw[a_ d,iD];rfl
theorem PD {m:List Int} {e:Entry} (a:e.values.length=e.cells.length):dZ m e e.cells.length=d5 m e:=by
 unfold dZ d5;rw[c6 (by rw[kj];omega)]
theorem Yd (m:List Int) (e:Entry) (D:e.values.length=e.cells.length) (J:e.cells.length<2^40) (B: ∀n∈e.cells,0<=n/\n.toNat<m.length) (H:ae) (nx k:Nat) (C:H k=some (.rows 1 (ai m) false)):
 ∃r h' p,DenR Γ G 199 [.ms k 0 m.length,.agg [.t (ints e.cells),.t (ints e.values)]] H nx=some (r,h',p)/\(r= .tup []/\h' k=some (.rows 1 (ai (d5 m e)) false)/\(∀j,j≠k->h' j=H j)/\nx<=p):=by
 refine bO (q:=aA ?_);refine aS 8388144 e.cells.length (fun i f h x=>(f 9).v=vi i/\h k=some (.rows 1 (ai (dZ m e i)) false)/\(∀j,j≠k->h j=H j)/\nx<=x) rfl ⟨am,by simp -dsimp only[go_sem,seval,C,dZ,fy,o6],fun j _=>rfl,av⟩ ?_;rintro i f u h x bs hi ⟨a,b,g,K⟩;have E:=aB i aa;refine aw a ?_;refine aR a ?_ ?_<;>intro h
 ·obtain⟨c,d,w⟩:=au ‹i<e.cells.length›;obtain⟨v,o,_⟩:=au (show i<e.values.length from aa);obtain⟨z,I⟩:=B c w;have q:=MP (m:=m) d o;have F:=PB m e i;have t:=gz (l:=dZ m e i) (i:=c.toNat) aa;have s:=dV (dZ m e i) c.toNat v;have A:c<(m.length:Int):=aa
  refine dG a d o b z A t ?_;refine⟨aa,ak E,?_,?_,av⟩
  ·rw[q];exact ak s
  ·intro j y;exact bg y g
 ·have:i=e.cells.length:=aa
  subst this;rw[PD D]at b;refine⟨rfl,b,g,av⟩
theorem Pb (p:Prog) (H:aN p=true) (c:Config) (l:IsB p c) (t:Nat) (U:t<p.threads.length):Den Γ G 188 [(.agg [.t (ints (c).mem),.t (ints (c).at_),.t (.sl ((c).buf.map (fun b=>[.sl (b.map Entry.enc)])))]),vi t]=some (.t (ints (aM c t))):=by
 obtain⟨⟨W,X,Y,Z⟩,_⟩:=cS (cT H).1;have M:=l.lm;have V:=l.lb;have m:=fC (c:=c) (t:=t) aa;obtain⟨P,b2,_⟩:=l.buf t _ m
 refine aD (q:=aA ?_);refine sE aa ?_;rintro v hp K O N ⟨w,_⟩;refine aJ m w ?_;rcases K with⟨rfl,d⟩ | ⟨k,rfl,S,I⟩
 ·have s:c.mem=[]:=by
   have:=bz List.length d;rw[aC]at this;exact fu this
  have q:aF c t=[]:=by
   cases E:aF c t with
   | nil=>rfl
   | cons e r=>
     have hp:=b2 e (by rw[E];exact fh);have:=lG hp (tS hp);have T:p.cells.length=0:=by rw[<- M,s];rfl
     omega
  have D:aM c t=[]:=by rw[aM,q,s];rfl
  refine aS 33423488 (aF c t).length (fun i f h x=>(f 17).v=vi i) rfl am ?_;rintro i f u h x bs hi a;refine aw a ?_;refine aR a ?_ ?_<;>intro h
  ·have:(aF c t).length=0:=by rw[q];rfl
   omega
  ·rw[D];rfl
 ·rw[aC]at *;refine aS 33423488 (aF c t).length (fun i f h x=>(f 17).v=vi i/\h k=some (.rows 1 (ai (((aF c t).take i).foldl d5 c.mem)) false)) rfl ⟨am,by simp -dsimp only[go_sem,seval,I,fy,o6]⟩ ?_;rintro i f u C x bs hi ⟨a,j⟩;have L:=aB i aa;refine aw a ?_;refine aR a ?_ ?_<;>intro h
  ·obtain⟨e,d,A⟩:=au ‹i<(aF c t).length›;have g:=b2 e A;have y:(((aF c t).take i).foldl d5 c.mem).length=c.mem.length:=qn _ _;refine a7 a d @Entry.enc.eq_1 ?_;refine bf (by rw[<- y];exact Yd _ e g.len (by have:=gX g;omega) (fun n J=>by have:=lG g J;omega) _ _ k (ak j)) ?_;rintro r h' n' ⟨rfl,F,Q,R⟩;refine aw a ?_;refine⟨aa,ak L,?_⟩;rw[a_ d,iD];simp -dsimp only[go_sem,seval,F,iy,o6]
  ·have:i=(aF c t).length:=aa
   subst this;rw[be]at j;have z:C k=some (.rows 1 (ai (aM c t)) false):=j;have o:(ai (aM c t)).length=c.mem.length:=by rw[aC,kab]
   have B:List.take c.mem.length (ai (aM c t))=ai (aM c t):=ec o.symm;exact sG z o B @ay @gY
abbrev num (z:Int):List UInt8:=Go.Lib.itoa z
@[go_sem]theorem kcZ (a:List UInt8):(bs a).size=a.length:=by simp[bs,ByteArray.size]
@[go_sem]theorem kc0 (a:List UInt8):(bs a).data.toList=a:=by simp[bs]
theorem kc8 {a b:List UInt8}:bs a=bs b<->a=b:=by
 constructor
 ·intro h;simpa[bs]using h
 ·rintro rfl;rfl
theorem kck (z:Int) (h: -9223372036854775808<=z/\z<=9223372036854775807):(num z).length<=21:=Go.Lib.itoa_length_le z h.1 h.2
theorem kbi (z:Int) (h: -9223372036854775808<=z/\z<=9223372036854775807):Den Γ G 240 [vi z]=some (.t (.str (bs (num z)))):=by
 refine SK Γ240 rfl rfl ?_;show(if _ then _ else _)=_;rw[ah h];rfl
def kcX (op:Int):List UInt8:=
 if op=4 then [110,111,116]else if op=5 then [97,110,100]else if op=6 then [111,114]else if op=7 then [120,111,114]else if op=8 then [97,100,100]
 else if op=9 then [115,117,98]else if op=10 then [109,117,108]else if op=11 then [101,113]else if op=12 then [108,116]else if op=13 then [108,101]else [105,116,101]
def kcG (op:Int):List UInt8:=if op=2 then [99]else if op=3 then [111]else []
def S2:List (List UInt8)->List UInt8
 | []=>[]
 | [x]=>x
 | x::r=>x++44::S2 r
namespace Expr
mutual
def txt:Expr->List UInt8
 | .mk op w n a=>if op=1\/op=2\/op=3 then kcG op++num n++[58]++num w else kcX op++[40]++S2 (HJ a)++[41]
def HJ:List Expr->List (List UInt8)
 | []=>[]
 | e::r=>txt e::HJ r
end
end Expr
theorem kP {α:Type} {f:Nat->α->Int}: ∀{l:List α} {i:Nat},(aZ f i l).1=0<-> ∀(j:Nat) (x:α),l[j]? =some x->f (i+j) x=0
 | [],i=>by simp[aZ]
 | y::r,i=>by
   rw[aZ];constructor
   ·intro h j x b;split at h
    ·rename_i a
     cases j with
     | zero=>simp at b;subst b;exact a
     | succ j=>
       have:=(kP (l:=r) (i:=i+1)).1 h j x (al b);rwa[show i+1+j=i+(j+1)by omega]at this
    ·rename_i a;exact absurd h a
   ·intro h;have a:f i y=0:=h 0 y rfl;rw[ah a];refine(kP (l:=r) (i:=i+1)).2 fun j x b=> ?_
    have:=h (j+1) x (al b);rwa[show i+(j+1)=i+1+j by omega]at this
theorem uH {p:Prog}: ∀{l:List Thread} {i:Nat},(eU p i l).1=0<-> ∀(j:Nat) (x:Thread),l[j]? =some x->(bI p (i+j) x).1=0
 | [],i=>by simp[eU]
 | y::r,i=>by
   rw[eU];constructor
   ·intro h j x b;split at h
    ·rename_i a
     cases j with
     | zero=>simp at b;subst b;exact a
     | succ j=>
       have:=(uH (l:=r) (i:=i+1)).1 h j x (al b);rwa[show i+1+j=i+(j+1)by omega]at this
    ·rename_i a;exact absurd h a
   ·intro h;have a:(bI p i y).1=0:=h 0 y rfl;rw[ah a];refine(uH (l:=r) (i:=i+1)).2 fun j x b=> ?_
    have:=h (j+1) x (al b);rwa[show i+(j+1)=i+1+j by omega]at this
abbrev Prog.ok (p:Prog):Prop:=(dl p).1=0
structure Rules (p:Prog):Prop where
 lim:(cM p).1=0
 cells: ∀(i:Nat) (c:Cell),p.cells[i]? =some c->ge p i c=0
 modules: ∀(i:Nat) (m:Contract),p.modules[i]? =some m->g8 p i m=0
 locks: ∀(i:Nat) (l:Lock),p.locks[i]? =some l->iv p i l=0
 threads: ∀(i:Nat) (x:Thread),p.threads[i]? =some x->(bI p i x).1=0
theorem uQ {p:Prog}:p.ok<->Rules p:=by
 unfold Prog.ok dl;constructor
 ·intro h;split at h
  ·rename_i a;exact absurd h a
  ·rename_i a;split at h
   ·rename_i b;exact absurd h b
   ·rename_i b;split at h
    ·rename_i c;exact absurd h c
    ·rename_i c;split at h
     ·rename_i d;exact absurd h d
     ·rename_i d;simp only[sQ]at a b c d;exact⟨a,by simpa[dX,kP]using b,by simpa[ft,kP]using c,by simpa[fI,kP]using d,by simpa[uH]using h⟩
 ·rintro⟨a,b,c,d,i⟩;have e:dX p=0:=by unfold dX;rw[kP];simpa using b
  have f:ft p=0:=by unfold ft;rw[kP];simpa using c
  have g:fI p=0:=by unfold fI;rw[kP];simpa using d
  rw[ac (al a),ac (al e),ac (al f),ac (al g),uH];simpa using i
theorem KO {p:Prog} {i:Nat} {c:Cell}:ge p i c=0<->gf p c=false/\(p.cells.take i).any (fun d=>d.name.toList==c.name.toList)=false:=by
 unfold ge;cases gf p c<;>cases(p.cells.take i).any (fun d=>d.name.toList==c.name.toList)<;>simp
theorem KT {p:Prog} {t n:Int} {l:Loop}:dL p t n l=0<->(inR l.head n=true/\fW l.body=true/\l.body.all (fun k=>inR k n&&decide (k≠l.head))=true)/\l.variant.valid p.cells false=true/\c_ p l.variant true t=true:=by
 unfold dL;cases inR l.head n<;>cases fW l.body<;>cases l.body.all (fun k=>inR k n&&decide (k≠l.head))<;>cases l.variant.valid p.cells false<;>cases c_ p l.variant true t<;>simp
theorem Jb {p:Prog} {i:Nat} {x:Thread}:(bI p i x).1=0<->eg x.name=true/\(p.threads.take i).any (fun d=>d.name.toList==x.name.toList)=false/\(1<=x.points/\(x.asserts.length:Int)=x.points/\(x.modules.length:Int)=x.points)/\
 x.modules.all (fun m=>inR m p.modules.length)=true/\x.asserts.all (fun e=>cH p e false i)=true/\(∀(j:Nat) (s:Step),x.steps[j]? =some s->cI p i x.points s=0)/\(∀(j:Nat) (l:Loop),x.loops[j]? =some l->dL p i x.points l=0):=by
 unfold bI;have g:(aZ (fun _ s=>cI p i x.points s) 0 x.steps).1=0<-> ∀(j:Nat) (s:Step),x.steps[j]? =some s->cI p i x.points s=0:=by rw[kP]
 have f:(aZ (fun _ l=>dL p i x.points l) 0 x.loops).1=0<-> ∀(j:Nat) (l:Loop),x.loops[j]? =some l->dL p i x.points l=0:=by rw[kP]
 rw[<- g,<- f];cases eg x.name
 ·simp
 ·cases(p.threads.take i).any (fun d=>d.name.toList==x.name.toList)
  ·by_cases c:x.points<1\/ ¬(x.asserts.length:Int)=x.points\/ ¬(x.modules.length:Int)=x.points
   ·simp only[jq,zG,aX,ah c];constructor
    ·intro h;cases h
    ·rintro⟨_,_,h,_⟩;omega
   ·have a:1<=x.points/\(x.asserts.length:Int)=x.points/\(x.modules.length:Int)=x.points:=aa
    simp only[jq,zG,aX,ac c];cases x.modules.all (fun m=>inR m p.modules.length)
    ·simp
    ·cases x.asserts.all (fun e=>cH p e false i)
     ·simp
     ·by_cases b:(aZ (fun _ s=>cI p i x.points s) 0 x.steps).1=0
      ·simp[b,a]
      ·simp[b,a]
  ·simp
theorem Lo {p:Prog}:(cM p).1=0<->(p.cells.length<=32/\p.modules.length<=6/\p.locks.length<=4/\p.threads.length<=4)/\ ∀x∈p.threads,x.points<=48/\x.steps.length<=64/\x.loops.length<=8:=by
 unfold cM;split
 ·rename_i h;constructor
  ·intro h;cases h
  ·rintro⟨h',_⟩;omega
 ·rename_i h;rw[kP];constructor
  ·intro b;refine⟨aa,fun x c=> ?_⟩;obtain⟨j,d,rfl⟩:=s6.1 c;have:=b j _ (zI d);cases a:eB p.threads[j]
   ·simp only[eB,js,d8]at a;omega
   ·simp[a]at this
  ·rintro⟨_,b⟩ j x c;have:=b x (zL c)
   have a:eB x=false:=by
    simp only[eB,js,d8];omega
   simp[a]
end Rg
end
section
set_option maxRecDepth 100000
namespace Rg
open Go
def Expr.text (e:Expr):List UInt8:=if e.formed then e.txt else []
end Rg
end
section
set_option maxRecDepth 100000
namespace Rg
open Go
end Rg
end
section
set_option maxRecDepth 100000
namespace Rg
open Go
def Vv (ws:List (List UInt8)):List UInt8:=Go.Lib.join ws [32]++[10]
theorem ZV (ws:List (List UInt8)):(Go.Lib.join ws [32]).length<=(ws.map List.length).sum+ws.length:=by
 cases ws with
 | nil=>simp[Go.Lib.join_nil]
 | cons x r=>
   rw[Go.Lib.join_length];have:Go.Lib.lens (x::r)=((x::r).map List.length).sum:=rfl;rw[this];simp only[d_,jQ];omega
def eV (ws:List (List UInt8)):List (List V):=ws.map fun x=>[.t (.str (bs x))]
theorem xX (ws:List (List UInt8)):(eV ws).length=ws.length:=by simp[eV]
theorem xY (a b:List (List UInt8)):eV (a++b)=eV a++eV b:=by simp[eV]
theorem xZ (ws:List (List UInt8)):((eV ws).all fun r=>decide (r.length=1))=true:=by simp[eV]
theorem X4 (h:ae) (d:Nat) (ws:List (List UInt8)):(eV ws).mapM (fun row=>row.mapM (toT h d))=some (ws.map fun x=>[.str (bs x)]):=by
 have e:eV ws=(ws.map fun x=>[T.str (bs x)]).map (·.map V.t):=by simp[eV]
 rw[e,mA h d _ (by
  intro e b t a;obtain⟨x,_,rfl⟩:=cy.1 b
  simp at a;subst a;rfl)]
theorem Yk (ws:List (List UInt8)):mV (ws.map fun x=>[T.str (bs x)])=some (ws.map bs):=by
 induction ws with
 | nil=>rfl
 | cons x r a=>simp only[aT,mV,a,cZ]
theorem kaT (ws:List (List UInt8)) (h:(Go.Lib.join ws [32]).length<=140737488355328) (a:ws.length<=140737488355328):
 Den Γ G 259 [.t (.sl (ws.map fun x=>[.str (bs x)])),.t (.str (bs [32]))]=some (.t (.str (bs (Go.Lib.join ws [32])))):=by
 refine SK (e:=.joinS) Γ259 rfl rfl ?_
 have e:oz (ws.map bs) (bs [32])=bs (Go.Lib.join ws [32]):=by
  unfold oz;rw[mj];have:(fun x:ByteArray=>x.data.toList)∘bs=id:=by funext x;exact kc0 x
  rw[this,List.map_id];rfl
 show(mV _).bind _=_;rw[Yk];simp only[zD,e];rw[ah ⟨al a,by rw[kcZ];exact h⟩]
def inI (z:Int):Prop:= -9223372036854775808<=z/\z<=9223372036854775807
end Rg
end
section
set_option maxRecDepth 100000
namespace Rg
open Go
def U9 (l:Loop):List (List UInt8):=[[108,111,111,112],num l.head,l.variant.text]
def loopX (l:Loop):List UInt8:=Vv (U9 l++l.body.map num)
end Rg
end
section
set_option maxRecDepth 100000
namespace Rg
open Go
end Rg
end
section
set_option maxRecDepth 100000
namespace Rg
open Go
end Rg
end
section
set_option maxRecDepth 100000
namespace Rg
open Go
theorem VW (c:List Int) (o:c.Pairwise (· <= ·)) (m:Nat) (u:m<=c.length):(Go.Lib.compactUpTo c.toArray m).Pairwise (· < ·):=by
 have e: ∀i j:Nat,i<=j->j<c.length->c.toArray[i]! <=c.toArray[j]! :=by
  intro i j g l;rw[getElem!_pos c.toArray i (by simp;omega),getElem!_pos c.toArray j (by simp;omega)];simp only[List.getElem_toArray];rcases Nat.lt_or_eq_of_le g with h | h
  ·exact qt.1 o i j aa l h
  ·subst h;exact iN _
 unfold Go.Lib.compactUpTo;rw[List.pairwise_map];have k:=(vX (n:=m)).filter (Go.Lib.keeps c.toArray);refine k.imp_of_mem ?_;intro a b t f p;have q:=dS.1 (f_.1 f).1;have d:=(f_.1 f).2;have r:=e a (b-1) aa aa;have s:=e (b-1) b aa aa;simp only[Go.Lib.keeps,fg,aQ,bne_iff_ne,ne_eq]at d;rcases d with d | d
 ·omega
 ·omega
theorem V0 (l:List Int):(qR l).Pairwise (· < ·):=by
 unfold qR Go.Lib.compact;refine VW _ ?_ _ (ay _);have:=List.pairwise_mergeSort (le:=fun x y:Int=>decide (x<=y)) (by intro a b c d e;simp at *;omega) (by intro a b;simp;omega) l;exact this.imp (by intro a b h;simpa using h)
structure LoopF (p:Prog) (x:Thread) (l:Loop) (A:Expr):Prop where
 h0:0<=l.head
 hA:x.asserts[l.head.toNat]? =some A
 vA:A.valid p.cells false=true
 wA:A.w=1
 vV:l.variant.valid p.cells false=true
 nb:cg l (-1)=false
theorem zZ {p:Prog} (q:aN p=true) {t j:Nat} {x:Thread} {l:Loop} (e:p.threads[t]? =some x) (s:x.loops[j]? =some l): ∃A,LoopF p x l A:=by
 have d:=uQ.1 (show p.ok by simpa[aN]using q);obtain⟨_,_,⟨v,w,_⟩,_,m,_,n⟩:=Jb.1 (d.threads t x e);obtain⟨⟨b,u,h⟩,i,_⟩:=KT.1 (n j l s);have y:=(Lo.1 d.lim).2 x (zL e);simp only[inR,aQ]at b;have f:l.head.toNat<x.asserts.length:=aa
 have c:=zI f;have a:=zN.1 m _ (zL c);simp only[cH,zF,aQ]at a
 have g: ∀k∈l.body,0<=k/\k<x.points:=fun k r=>by
  have:=zN.1 h k r;simp only[inR,zF,aQ]at this;exact this.1
 refine⟨_,b.1,c,a.1.1,a.1.2,i,?_⟩
 ·simp only[cg,js,d8];refine⟨aa,?_⟩;cases o:l.body.contains (-1)
  ·rfl
  ·have:=g (-1) (al o);omega
theorem kaR {w:Int} (h:1<=w/\w<=12):IntKind.i64.wrap (1*2^min w.toNat IntKind.i64.bits)=2^w.toNat:=by
 have:(2:Int)^w.toNat<=2^12:=kZ (i:=w.toNat) (k:=12) aa;have:=iL w.toNat;rw[show min w.toNat IntKind.i64.bits=w.toNat from jb (by show w.toNat<=64;omega),xj];exact bu aa
theorem kaQ {w:Int} (h:1<=w/\w<=12):IntKind.i64.wrap (2^w.toNat-1)=2^w.toNat-1:=by
 have:(2:Int)^w.toNat<=2^12:=kZ (i:=w.toNat) (k:=12) aa;have:=iL w.toNat;exact bu aa
theorem kb2 {a:Int} {w:Int} (h:1<=w/\w<=12):a.fdiv (2^min w.toNat IntKind.i64.bits)=a/ 2^w.toNat:=by
 have:=iL w.toNat;rw[show min w.toNat IntKind.i64.bits=w.toNat from jb (by show w.toNat<=64;omega),GD _ aa]
theorem wE (p:Prog) (l:List Int) (c:Int):cO p (l++[c])=cO p l+wOf p c:=by simp[cO]
theorem Qj (p:Prog) (c:Int): ∀(l:List Int) (n:Int) (s:List Int),stM p (l++[c]) n s=(stM p l n s).set c.toNat (n/ 2^cO p l % 2^wOf p c)
 | [],n,s=>by simp[stM,cO]
 | x::l,n,s=>by
   rw[jd,stM,Qj p c l,stM];have:cO p (x::l)=wOf p x+cO p l:=by simp[cO]
   rw[this,Int.pow_add,<- Hp (Int.le_of_lt (iL _))]
structure Vis where
 c:Config
 fr:Int
 x:Choice
 deriving Inhabited
def hD (l:List Vis) (c:Config):Bool:=l.any fun v=>decide (v.c=c)
def pw (a:Nat) (l:List Vis) (v:Vis):Option (List Vis):=if hD l v.c then some l else if a<=l.length then none else some (l++[v])
def jp (a:Nat):List Vis->List Vis->Option (List Vis)
 | l,[]=>some l
 | l,v::r=>(pw a l v).bind fun l'=>jp a l' r
def fe (p:Prog) (k:Int) (c:Config) (i:Nat):List Vis:=(bP p k c).map fun x=>⟨(dy p k c x).1,i,x⟩
def goV (p:Prog) (k:Int) (a:Nat):Nat->Nat->List Vis->Option (List Vis)
 | 0,_,l=>some l
 | f+1,i,l=>match l[i]? with
   | some v=>(jp a l (fe p k v.c i)).bind fun l'=>goV p k a f (i+1) l'
   | none=>some l
def v0 (p:Prog):Vis:=⟨dz p,-1,⟨0,0,0⟩⟩
def eq (p:Prog) (k:Int) (a:Nat):Option (List Vis):=goV p k a (a+1) 0 [v0 p]
theorem SY {a:Nat} {l l':List Vis} {v:Vis} (h:pw a l v=some l'):l.length<=l'.length/\(l.length<=a->l'.length<=a)/\(∃r,l'=l++r):=by
 unfold pw at h;split at h
 ·cases h;exact⟨ay _,id,[],af⟩
 ·split at h
  ·cases h
  ·cases h;exact⟨af,fun _=>by simp;omega,_,rfl⟩
theorem zw {a:Nat}: ∀{r l l':List Vis},jp a l r=some l'->(l.length<=a->l'.length<=a)/\ ∃s,l'=l++s
 | [],l,l',h=>by cases h;exact⟨id,[],af⟩
 | v::r,l,l',h=>by
   simp only[jp,zB]at h;obtain⟨m,d,h⟩:=h;obtain⟨_,b,e,rfl⟩:=SY d;obtain⟨c,f,rfl⟩:=zw h;exact⟨fun q=>c (b q),e++f,af⟩
structure VisOk (p:Prog) (k:Int) (l:List Vis) (i:Nat):Prop where
 le:i<=l.length
 nd:(l.map Vis.c).Nodup
 z:l[0]? =some (v0 p)
 is: ∀v∈l,IsK p k v.c
 pre: ∀(j:Nat) (v:Vis),0<j->l[j]? =some v-> ∃(q:Nat) (u:Vis),q<j/\l[q]? =some u/\v.fr=q/\v.x∈bP p k u.c/\v.c=(dy p k u.c v.x).1
 cl: ∀(j:Nat) (u:Vis),j<i->l[j]? =some u-> ∀x∈bP p k u.c,∃v∈l,v.c=(dy p k u.c x).1
theorem pC {l:List Vis} {c:Config}:hD l c=true<-> ∃v∈l,v.c=c:=by simp[hD]
theorem VisOk.add {p:Prog} (H:aN p=true) {k:Int} {s i q:Nat} {l l':List Vis} {u:Vis} {x:Choice} (h:VisOk p k l i) (r:l[q]? =some u) (A:x∈bP p k u.c)
 (f:pw s l ⟨(dy p k u.c x).1,q,x⟩=some l'):VisOk p k l' i/\ ∃v∈l',v.c=(dy p k u.c x).1:=by
 unfold pw at f;split at f
 ·rename_i o;cases f;exact⟨h,pC.1 o⟩
 ·rename_i o;split at f
  ·cases f
  cases f;have g:=zL r;obtain⟨d,I,G⟩:=lW H (h.is u g) A;have C:=(zH.1 r).1;have L:=h.le;refine⟨⟨by simp;omega,?_,?_,?_,?_,?_⟩,⟨(dy p k u.c x).1,q,x⟩,af,rfl⟩
  ·rw[d6,o9];refine⟨h.nd,af,?_⟩;intro a f b z B;simp only[aT,bc,bB]at z;subst z B;obtain⟨v,c,e⟩:=cy.1 f;exact o (pC.2 ⟨v,c,e⟩)
  ·rw[bU aa];exact h.z
  ·intro v c;rcases cz.1 c with c | c
   ·exact h.is v c
   ·simp only[bB]at c;subst c;rw[I];exact G
  ·intro j v n c;rcases bw j l.length with m | w
   ·rw[bU m]at c;obtain⟨K,t,D,E,F⟩:=h.pre j v n c;exact⟨K,t,D,by rw[bU aa];exact E,F⟩
   ·rw[eJ w]at c
    have:j-l.length=0:=by
     have:=(zH.1 c).1;simp at this;omega
    rw[this]at c;cases c;exact⟨q,u,aa,by rw[bU C];exact r,rfl,A,rfl⟩
  ·intro j t n g y J;rcases bw j l.length with m | w
   ·rw[bU m]at g;obtain⟨v,c,e⟩:=h.cl j t n g y J;exact⟨v,by simp[c],e⟩
   ·omega
theorem VisOk.adds {p:Prog} (f:aN p=true) {k:Int} {d i q:Nat} {u:Vis}: ∀{xs:List Choice} {l l':List Vis},VisOk p k l i->l[q]? =some u->(∀x∈xs,x∈bP p k u.c)->
 jp d l (xs.map fun x=>⟨(dy p k u.c x).1,q,x⟩)=some l'->VisOk p k l' i/\l'[q]? =some u/\(∀x∈xs,∃v∈l',v.c=(dy p k u.c x).1)
 | [],l,l',h,hu,_,a=>by cases a;exact⟨h,hu,fun x c=>by simp at c⟩
 | y::xs,l,l',h,hu,c,a=>by
   simp only[aT,jp,zB]at a;obtain⟨m,g,a⟩:=a;obtain⟨o,v,j,e⟩:=h.add f hu (c y af) g;obtain⟨_,_,s,rfl⟩:=SY g;have n:=(zH.1 hu).1;obtain⟨r,t,w⟩:=VisOk.adds f o (by rw[bU n];exact hu) (fun x b=>c x (by simp[b])) a;refine⟨r,t,fun x b=> ?_⟩;rcases cj.1 b with rfl | b
   ·obtain⟨z,rfl⟩:=(zw a).2;exact⟨v,by simp only[cz]at j⊢;exact .inl j,e⟩
   ·exact w x b
theorem VisOk.go {p:Prog} (q:aN p=true) {k:Int} {b:Nat}: ∀{f i:Nat} {l l':List Vis},VisOk p k l i->l.length<=b->b+1<=f+i->goV p k b f i l=some l'->VisOk p k l' l'.length/\l'.length<=b
 | 0,i,l,l',h,hl,BJ,a=>by
   have:=h.le
   omega
 | f+1,i,l,l',h,hl,BJ,a=>by
   rw[goV]at a
   cases d:l[i]? with
   | none=>
     rw[d]at a;cases a
     have:i=l.length:=by
      have:=h.le;have:=oJ.1 d;omega
     exact⟨this▸h,hl⟩
   | some v=>
     rw[d]at a;simp only[zB]at a;obtain⟨m,r,a⟩:=a;obtain⟨c,o,s⟩:=VisOk.adds q h d (fun x e=>e) r;have t:=(zH.1 o).1;refine VisOk.go q ⟨aa,c.nd,c.z,c.is,c.pre,?_⟩ ((zw r).1 hl) aa a;intro j u w g x e;rcases bw j i with n | n
     ·exact c.cl j u n g x e
     ·have:j=i:=aa
      subst this;rw[o]at g;cases g;exact s x e
theorem O' {p:Prog} (c:aN p=true) {k:Int} {a:Nat} (d:1<=a) {l:List Vis} (h:eq p k a=some l):VisOk p k l l.length/\l.length<=a:=by
 refine VisOk.go c ⟨af,af,rfl,?_,?_,fun j u e=>aa⟩ (al d) aa h
 ·intro v b;simp only[bB]at b;subst b;exact sa c k
 ·intro j v e b;have:=(zH.1 b).1;simp at this;omega
def mf (e:Entry):List Int:=(e.cells.zip e.values).flatMap fun q=>[q.1,q.2]
def dP (e:Entry):List Int:=(e.cells.length:Int)::mf e
def d4 (b:List Entry):List Int:=(b.length:Int)::b.flatMap dP
def iX (sh:Int) (c:Config):List Int:=c.mem++c.at_.map (· +sh)++c.buf.flatMap d4
theorem Sf: ∀{a b c b' r d:List Int},a.length=b.length->c.length=b'.length->a.length=c.length->
 (a.zip b).flatMap (fun q=>[q.1,q.2])++r=(c.zip b').flatMap (fun q=>[q.1,q.2])++d->a=c/\b=b'/\r=d
 | [],[],[],[],r,d,_,_,_,h=>⟨rfl,rfl,al h⟩
 | x::a,y::b,x'::c,y'::b',r,d,h1,h2,h3,h=>by
   simp only[wk,du,jd,ff,gu]at h;obtain⟨rfl,rfl,h⟩:=h;obtain⟨rfl,rfl,rfl⟩:=Sf (al h1) (al h2) (al h3) h
   exact⟨rfl,rfl,rfl⟩
 | [],_::_,_,_,_,_,h1,_,_,_=>by simp at h1
 | _::_,[],_,_,_,_,h1,_,_,_=>by simp at h1
 | _,_,[],_::_,_,_,_,h2,_,_=>by simp at h2
 | _,_,_::_,[],_,_,_,h2,_,_=>by simp at h2
 | [],_,_::_,_,_,_,_,_,h3,_=>by simp at h3
 | _::_,_,[],_,_,_,_,_,h3,_=>by simp at h3
theorem kaI {e f:Entry} {r g:List Int} (c:e.values.length=e.cells.length) (d:f.values.length=f.cells.length) (h:dP e++r=dP f++g):e=f/\r=g:=by
 obtain⟨a,b⟩:=e;obtain⟨l,b'⟩:=f;simp only[dP,mf,jd,gu]at h c d;obtain⟨i,j,k⟩:=Sf c.symm d.symm aa h.2;exact⟨by rw[i,j],k⟩
theorem Q': ∀{b b':List Entry} {r a:List Int},(∀e∈b,e.values.length=e.cells.length)->(∀e∈b',e.values.length=e.cells.length)->b.length=b'.length->
 b.flatMap dP++r=b'.flatMap dP++a->b=b'/\r=a
 | [],[],r,a,_,_,_,h=>⟨rfl,al h⟩
 | e::b,f::b',r,a,h1,h2,h3,h=>by
   simp only[du,zQ]at h;obtain⟨rfl,h'⟩:=kaI (h1 e af) (h2 f af) h;obtain⟨rfl,rfl⟩:=Q' (b:=b) (b':=b') (fun x c=>h1 x (by simp[c])) (fun x c=>h2 x (by simp[c])) (al h3) h'
   exact⟨rfl,rfl⟩
 | [],_::_,_,_,_,_,h,_=>by simp at h
 | _::_,[],_,_,_,_,h,_=>by simp at h
theorem kcy {b b':List Entry} {r a:List Int} (c: ∀e∈b,e.values.length=e.cells.length) (d: ∀e∈b',e.values.length=e.cells.length) (h:d4 b++r=d4 b'++a):b=b'/\r=a:=by
 simp only[d4,jd,gu]at h;exact Q' c d aa h.2
theorem Ry: ∀{l l':List (List Entry)},(∀b∈l,∀e∈b,e.values.length=e.cells.length)->(∀b∈l',∀e∈b,e.values.length=e.cells.length)->l.length=l'.length->
 l.flatMap d4=l'.flatMap d4->l=l'
 | [],[],_,_,_,_=>rfl
 | b::l,b'::l',h1,h2,h3,h=>by
   simp only[du]at h;obtain⟨rfl,h'⟩:=kcy (h1 b af) (h2 b' af) h
   rw[Ry (l:=l) (l':=l') (fun x a=>h1 x (by simp[a])) (fun x a=>h2 x (by simp[a])) (al h3) h']
 | [],_::_,_,_,h,_=>by simp at h
 | _::_,[],_,_,h,_=>by simp at h
theorem IsB.ent {p:Prog} {c:Config} (h:IsB p c): ∀b∈c.buf,∀e∈b,Proper p e:=by
 intro b a e d;obtain⟨t,f⟩:=eH a;exact(h.buf t b f).2.1 e d
theorem R9 {p:Prog} {sh:Int} {c d:Config} (f:IsB p c) (g:IsB p d) (h:iX sh c=iX sh d):c=d:=by
 obtain⟨m,a,b⟩:=c;obtain⟨s,l,b'⟩:=d;simp only[iX,zQ]at h;have o:m.length=s.length:=f.lm.trans g.lm.symm;obtain⟨rfl,h'⟩:=List.append_inj h o;have q:a.length=l.length:=f.la.trans g.la.symm;obtain⟨i,n⟩:=List.append_inj h' (al q);have i:a=l:=(List.map_inj_right fun x y e=>aa).1 i;subst i;have r:b.length=b'.length:=f.lb.trans g.lb.symm;have:=Ry (fun x k e j=>(f.ent x k e j).len) (fun x k e j=>(g.ent x k e j).len) r n;simp only at this;rw[this]
theorem mt {p:Prog} (d:aN p=true):p.cells.length<=32/\(∀y∈p.cells,y.w<=8)/\(∀x∈p.threads,x.points<=48):=by
 have a:=uQ.1 (show p.ok by simpa[aN]using d);obtain⟨⟨b,_⟩,c⟩:=Lo.1 a.lim;refine⟨b,fun y f=> ?_,fun x e=>(c x e).1⟩;obtain⟨i,hi⟩:=eH f;have:=(KO.1 (a.cells i y hi)).1;simp only[gf,js,d8]at this;omega
theorem yI {w:Int} (h:w<=8) {v:Int} (a:v<2^w.toNat):v<256:=by
 have:=kZ (i:=w.toNat) (k:=8) aa;omega
theorem qi {p:Prog} (r:aN p=true) {sh:Int} (x:0<=sh/\sh<=1) {c:Config} (h:IsB p c): ∀n∈iX sh c,sh-1<=n/\n<256:=by
 obtain⟨B,k,v⟩:=mt r;intro n d;simp only[iX,cz,cy,dk]at d;rcases d with(d | ⟨a,m,rfl⟩) | ⟨b,j,d⟩
 ·obtain⟨i,hi⟩:=eH d;have g:=(zH.1 hi).1;rw[h.lm]at g;have f:=zI g;have:=h.mem i n _ hi f;have:=yI (k _ (zL f)) this.2;omega
 ·obtain⟨i,hi⟩:=eH m;have g:=(zH.1 hi).1;rw[h.la]at g;have f:=zI g;have:=h.at_ i a _ hi f;have:=v _ (zL f);omega
 ·have l:=h.ent b j;obtain⟨t,u⟩:=eH j;have z:=(h.buf t b u).1;simp only[d4,cj,dk]at d;rcases d with rfl | ⟨e,o,d⟩
  ·omega
  ·have hp:=l e o;simp only[dP,mf,cj,dk,ki,dU]at d;rcases d with rfl | ⟨q,s,d⟩
   ·have:=gX hp;omega
   ·obtain⟨A,y,f,_,v0,w⟩:=JG hp s;have g:=(zH.1 f).1;have:=yI (k _ (zL f)) w;rcases d with rfl | rfl<;>omega
def kQ (A V:Expr):List Int:=qR (A.sup 2++V.sup 2)
theorem O_ {p:Prog} (a:aN p=true) {y:Cell} (c:y∈p.cells):1<=y.w/\y.w<=8:=by
 have b:=uQ.1 (show p.ok by simpa[aN]using a);obtain⟨i,hi⟩:=eH c;have:=(KO.1 (b.cells i y hi)).1;simp only[gf,js,d8]at this;omega
theorem kai {p:Prog} {A V:Expr} (b:A.valid p.cells false=true) (d:V.valid p.cells false=true): ∀c∈kQ A V,0<=c/\c<p.cells.length:=by
 intro c a;rw[kQ,Jz,cz]at a;rcases a with a | a
 ·exact pP b 2 (.inl rfl) c a
 ·exact pP d 2 (.inl rfl) c a
theorem XX (A V:Expr):(kQ A V).length<=64:=by
 have a:=Xx (A.sup 2++V.sup 2);have b:=nC 2 A;have c:=nC 2 V;rw[zM]at a;rw[kQ];omega
def qB (l:List Int):List Int:=l.mergeSort fun x y=>decide (x<=y)
theorem YU (H:ae) (x n:Nat) (v:V) (l:List Int) (e:ax H x v 1 (ai l)) (g:l.length<2^40):
 ∃r h' a,DenR Γ G 74 [v] H n=some (r,h',a)/\r= .tup []/\ax h' x v 1 (ai (qB l))/\a=n:=by
 rcases e with⟨rfl,f⟩ | ⟨k,rfl,d,c⟩
 ·have b:l=[]:=by
   have:=bz List.length f;rw[aC]at this;exact fu this
  subst b;exact⟨_,_,_,pN Γ74 rfl rfl rfl,rfl,.inl ⟨rfl,by rw[qB,List.mergeSort_nil];rfl⟩,rfl⟩
 ·rw[aC]
  refine⟨_,upd H k (some (.rows 1 (ai (qB l)) false)),n,pN Γ74 rfl rfl (by
   simp only[jo,c,wm,zD,JR]
   rw[ah (by exact⟨trivial,aa⟩)];rfl),rfl,.inr ⟨k,by rw[aC,qB,tc],d,by rw[cV]⟩,rfl⟩
theorem W2 (H:ae) (x n:Nat) (v:V) (l:List Int) (d:ax H x v 1 (ai l)) (g:l.length<2^40):
 ∃r h' a,DenR Γ G 75 [v] H n=some (r,h',a)/\r= .t (ints (Go.Lib.compact l))/\a=n:=by
 rcases d with⟨rfl,e⟩ | ⟨k,rfl,f,c⟩
 ·have b:l=[]:=by
   have:=bz List.length e;rw[aC]at this;exact fu this
  subst b;exact⟨_,_,_,pN Γ75 rfl rfl rfl,rfl,rfl⟩
 ·rw[aC]
  exact⟨_,_,_,pN Γ75 rfl rfl (by
   simp only[jo,c,wm,zD,JR]
   rw[ah ⟨trivial,aa⟩]),rfl,rfl⟩
theorem ax.cellsV {h:ae} {x:Nat} {v:V} {a:Nat} {rows:List (List V)} (o:ax h x v a rows):V.cells v=some [v]:=by
 rcases o with⟨rfl,_⟩ | ⟨k,rfl,_,_⟩<;>rfl
theorem ax.upd' {h:ae} {x k:Nat} {v:V} {a:Nat} {rows:List (List V)} {o':Option O} (o:ax h x v a rows) (e:x<=k):ax (updC h k o') (k+3) v a rows:=by
 rcases o with o | ⟨q,b,d,c⟩
 ·exact .inl o
 ·exact .inr ⟨q,b,aa,by rw[aq,ac aa];exact c⟩
theorem ka1 {s:List Int} {c:Nat} (h:c<s.length):(ai s)[c]? =some [vi s[c]]:=by simp[ai,h]
theorem ka0 (s:List Int) (c:Nat) (v:Int):(ai s).set c [.t (.int .i64 v)]=ai (s.set c v):=by simp[ai,o8]
theorem Yi {h:ae} {k len:Nat} {s:List Int} {a:Bool} (d:h k=some (.rows 1 (ai s) a)) (e:len=s.length):toT1 h (.ms k 0 len)=some (.t (ints s)):=by
 have b:=mA h 999 (s.map fun n=>[ti n]) (iG _)
 have c:toT h 1000 (.ms k 0 len)=some (ints s):=by
  rw[toT,d];simp only[rd,gy,ij];rw[ah (by rw[aC];omega),c6 (by rw[aC];omega)];simp only[zC,zD];rw[show ai s=(s.map fun n=>[ti n]).map (·.map V.t)from rfl,b];rfl
 simp only[toT1,c,cZ]
theorem Zy (p:Prog) (hs:p.sane) (M:aN p=true) {t j:Nat} {x:Thread} {l:Loop} {A:Expr} (hx:p.threads[t]? =some x) (hl:x.loops[j]? =some l) (K:LoopF p x l A):
 Den Γ G 336 [(zP p),vi t,vi j]=some (.tup [vi (if cO p (kQ A l.variant)>12 then 0 else zr p (kQ A l.variant) A l.variant),vi (if cO p (kQ A l.variant)>12 then 2 else 0)]):=by
 have hv:=wt p hs M hx hl;obtain⟨hd,Pk⟩: ∃n:Nat,l.head=n:=⟨l.head.toNat,by have:=K.h0;omega⟩
 have Y:=K.hA;rw[Pk,kW]at Y
 refine aD (q:=bT hv hx hl Pk Y ?_);refine bf (xh A _ _) ?_;rintro r1 h1 n1 ⟨a3,a2,rfl,w,d,Fj,AT⟩;have C:=w.valOf;have q2:=d.valOf;refine aJ C q2 ?_;refine bf (xh l.variant _ _) ?_;rintro r2 h2 n2 ⟨b3,b2,rfl,B,e,Fh,AF⟩;have q3:=B.valOf;have q4:=e.valOf;have oa2':ax h2 n2 a2 1 (ai (A.sup 2)):=d.keep aa fun k hk _=>(AF k aa).1
 have W:=d.cellsV;have X:=e.cellsV;unfold V.cells at W X;refine bT q2 q3 q4 W X ?_;have RD:=nC 2 A;have RB:=nC 2 l.variant;refine bf (XR (A.sup 2) (l.variant.sup 2) aa aa _ _ (n2+2) a2 b2 (by rw[aq,ah rfl]) aa (oa2'.upd' aa) (e.upd' aa)) ?_;clear d w e B oa2' AT AF C q2 q3 q4 W X;rintro r h3 n3 ho;have C:=ho.valOf;refine aw C ?_;refine bf (YU _ _ _ _ _ ho (by simp;omega)) ?_;rintro r4 h4 n4 ⟨rfl,Qm,Qt⟩;refine aw C ?_;refine bf (W2 _ _ _ _ _ Qm (by rw[qB,tc];simp;omega)) ?_;rintro r5 h5 n5 ⟨rfl,Qs⟩;rw[show Go.Lib.compact (qB (A.sup 2++l.variant.sup 2))=kQ A l.variant from rfl]
 generalize hC:kQ A l.variant=L
 have E:=kai K.vA K.vV;have Pu:=XX A l.variant;rw[hC]at E Pu;have S: ∀(c:Int) (y:Cell),p.cells[c.toNat]? =some y->1<=y.w/\y.w<=8/\wOf p c=y.w.toNat:=fun c y b=>⟨(O_ M (zL b)).1,(O_ M (zL b)).2,by rw[wOf,b]⟩
 have LP: ∀i,cO p (L.take i)<=8*i:=by
  intro i
  induction i with
  | zero=>simp[cO]
  | succ i ih=>
    by_cases hi:i<L.length
    ·obtain⟨c,g,o⟩:=au hi;obtain⟨J,U⟩:=E c o;obtain⟨y,b,_⟩:=au (show c.toNat<p.cells.length from aa);obtain⟨_,w2,m⟩:=S c y b;rw[a_ g,wE,m];omega
    ·rw[c6 aa]at ih⊢;omega
 refine aA ?_;refine aS 151097280707754937450496 L.length (fun i f h z=>(f 64).v=vi i/\(f 15).v=vi (cO p (L.take i))) rfl ⟨am,by simp -dsimp only[go_sem,seval];rfl⟩ ?_;rintro i f u H q bs hi ⟨R,D⟩;have hw:=aB i aa;refine aw R ?_;refine aR R ?_ ?_<;>intro h
 ·obtain⟨c,g,o⟩:=au ‹i<L.length›;obtain⟨J,U⟩:=E c o;obtain⟨y,b,_⟩:=au (show c.toNat<p.cells.length from aa);obtain⟨w1,w2,m⟩:=S c y b;have v:=LP i
  have MO:IntKind.i64.wrap ((cO p (L.take i):Int)+y.w)=cO p (L.take (i+1)):=by
   rw[a_ g,wE,m,Int.natCast_add,show((y.w.toNat:Nat):Int)=y.w by omega];exact bu aa
  refine bT R D g J b ?_;exact⟨aa,ak hw,ak MO⟩
 ·have:i=L.length:=aa
  subst this;rw[be]at D;refine aw D ?_
  by_cases v:cO p L>12
  ·have O:(cO p L:Int)>12:=aa
   rw[ah v,ah v];exact ak O
  ·have O: ¬(cO p L:Int)>12:=aa
   rw[ac v,ac v];have By:=(mt M).1;have e1:(p.cells.length:Int)<=4294967296:=aa
   have Bo:IntKind.i64.wrap (1*2^min (cO p L) 64)=((2^cO p L:Nat):Int):=by
    have:(2:Nat)^cO p L<=4096:=rB (n:=2) (j:=12) aa aa;rw[show min (cO p L) 64=cO p L from jb aa,xj,show(2:Int)^cO p L=((2^cO p L:Nat):Int)by simp]
    generalize(2:Nat)^cO p L=z at *
    exact bu aa
   have Co: ¬(cO p L:Int)<0:=aa
   refine de O e1 @iN D Bo Co ?_;clear Bo;have P3:(2:Nat)^cO p L<=4096:=rB (n:=2) (j:=12) aa aa;unfold zr
   generalize hZ:(2:Nat)^cO p L=Z at *
   refine aS 21778071482940022976029747207499580440576 Z (fun n f h z=>(f 85).v=vi n/\(f 18).v=vi (dp p L A l.variant n).2/\h (q+1+2+1+3)=some (.rows 1 (ai (dp p L A l.variant n).1) false)/\q+1+2+1+3<z) rfl ⟨am,by simp -dsimp only[go_sem,seval];rfl,by simp -dsimp only[go_sem,seval];simp[dp,ai],av⟩ ?_;rintro n f2 u2 H2 z2 bs2 hn ⟨I,P,Ck,BY⟩;have BO:=aB n aa;refine aw I ?_;refine aR I ?_ ?_<;>intro h
   ·refine aS 83076748498617202771107666373640192 L.length (fun i f h z=>(f 90).v=vi i/\(f 20).v=vi ((n:Int)/ 2^cO p (L.take i))/\h (q+1+2+1+3)=some (.rows 1 (ai (stM p (L.take i) n (dp p L A l.variant n).1)) false)/\q+1+2+1+3<z) rfl ⟨am,by simp -dsimp only[go_sem,seval];simp[cO],by simp -dsimp only[go_sem,seval];exact Ck,av⟩ ?_;rintro i f3 u3 H3 z3 bs3 C8 ⟨T,Ru,s,Qy⟩;have Gl:=aB i aa;refine aw T ?_;refine aR T ?_ ?_<;>intro h
    ·obtain⟨c,g,o⟩:=au ‹i<L.length›;obtain⟨J,U⟩:=E c o;obtain⟨y,b,_⟩:=au (show c.toNat<p.cells.length from aa);obtain⟨w1,w2,m⟩:=S c y b;have k1: ¬y.w<0:=aa
     have k2:IntKind.i64.wrap (1*2^min y.w.toNat 64)=2^y.w.toNat:=kaR aa;have k3:IntKind.i64.wrap (2^y.w.toNat-1)=2^y.w.toNat-1:=kaQ aa;have k4: ∀a:Int,IntKind.i64.wrap ((BitVec.ofInt IntKind.i64.bits a&&& BitVec.ofInt IntKind.i64.bits (2^y.w.toNat-1)).toNat)=a % 2^y.w.toNat:=fun a=>uw a y.w aa
     have k5: ∀a:Int,a.fdiv (2^min y.w.toNat 64)=a/ 2^y.w.toNat:=fun a=>kb2 aa
     have N:c.toNat<(stM p (L.take i) n (dp p L A l.variant n).1).length:=by rw[vj,xn];omega
     have B5:=ka1 N;simp -dsimp only[go_sem,seval,T,Ru,g,J,U,b,s,k1,k2,k3,k4,k5,B5,ka0];refine⟨aa,ak Gl,?_,?_,av⟩
     ·refine bN (a_ g) @wE m @Int.pow_add ?_;rw[Hp (Int.le_of_lt (iL _))]
     ·exact ds (a_ g) @Qj m
    ·have:i=L.length:=aa
     subst this;rw[be]at s;have Ac:=xn p L A l.variant n;have N:(stM p L n (dp p L A l.variant n).1).length=p.cells.length:=by rw[vj,Ac]
     have hT:=Yi (h:=H3) (len:=p.cells.length) s N.symm;have OA:=pf A (stM p L n (dp p L A l.variant n).1) (stM p L n (dp p L A l.variant n).1);have JY:=pf l.variant (stM p L n (dp p L A l.variant n).1) (stM p L n (dp p L A l.variant n).1);simp -dsimp only[go_sem,seval,Y,↓hT,OA];have Gv:(dp p L A l.variant (n+1)).1=stM p L n (dp p L A l.variant n).1:=by rw[uc];rfl
     by_cases F:A.eval (stM p L n (dp p L A l.variant n).1) (stM p L n (dp p L A l.variant n).1)=1
     ·have Q:(dp p L A l.variant (n+1)).2=if l.variant.eval (stM p L n (dp p L A l.variant n).1) (stM p L n (dp p L A l.variant n).1)>(dp p L A l.variant n).2 then l.variant.eval (stM p L n (dp p L A l.variant n).1) (stM p L n (dp p L A l.variant n).1)else(dp p L A l.variant n).2:=by
       rw[uc,rO];simp only[ah F]
      simp -dsimp only[go_sem,seval,F,P,↓hT,JY,I];refine⟨aa,ak BO,?_,by simp -dsimp only[go_sem,seval,Gv];exact s,av⟩;exact ak Q
     ·have Q:(dp p L A l.variant (n+1)).2=(dp p L A l.variant n).2:=by
       rw[uc,rO];simp only[ac F]
      refine aJ F I ?_;refine⟨aa,ak BO,bg Q P,by simp -dsimp only[go_sem,seval,Gv];exact s,av⟩
   ·have:n=Z:=aa
    subst this;exact ak P
theorem kba {h:ae} {x:Nat} {v:V} {l:List Int} (o:ax h x v 1 (ai l)):toT1 h v=some (.t (ints l)):=by
 have:=jD (es:=l.map fun n=>[ti n]) o (iG _);rcases o with⟨rfl,a⟩ | ⟨k,rfl,_,_⟩
 ·have:l=[]:=by simpa[ai]using a
  subst this;rfl
 ·simp only[toT1,this,cZ]
theorem XP {r:V} {h:ae} {vs:List V} {K:V->ae->Prop} {w:WK K} (a: ∀h',K r h'):fY (some r) false h vs K w:=by
 unfold fY;simp only;split
 ·exact a _
 ·exact⟨fun h=>Bool.noConfusion h,a _⟩
theorem Zp (k:Int) (l:List Entry) (i:Nat) (e:Entry) (g:l[i]? =some e) (C:l.length<2^20) (t: ∀x∈l,x.cells.length<2^20):
 Den Γ G 372 [vi k,.t (.sl (l.map Entry.enc)),vi i]=some (vb (dm k l i e)):=by
 have A:=(zH.1 g).1;have v:=zL g
 refine aD (q:=?_)
 by_cases n:i=0
 ·subst n;have a:dm k l 0 e=true:=by simp[dm]
  rw[a];refine aA ?_;refine bK ?_;exact am
 ·have s:(i:Int)>0:=aa
  by_cases q:k=2
  ·subst q;have a:dm 2 l i e= !jh (l.take i) e:=by simp[dm,n]
   rw[a];refine aw s ?_;refine a8 268419264 i (fun j f=>(f 7).v=vi j/\jh (l.take j) e=false) rfl rfl ⟨am,by simp[jh]⟩ ?_;rintro j f u x bs B ⟨p,m⟩;have z:=aB j aa
   by_cases r:j<i
   ·have c:=aW r;obtain⟨o,b,w⟩:=au (show j<l.length from aa);have d:=kbh o e (t o w) (t e v);cases h:lR o e
    ·rw[h]at d;refine de p c b g @Entry.enc.eq_1 d ?_;refine⟨aa,ak z,?_⟩;rw[a_ b,jh,vP];rw[jh]at m;simp[m,h]
    ·rw[h]at d
     have y:jh (l.take i) e=true:=by
      simp only[jh,lu];exact⟨o,by rw[GJ];exact⟨j,aa,(zH.1 b).2⟩,h⟩
     rw[y];exact pv p c b g @Entry.enc.eq_1 d
   ·have c:=aI r;have:j=i:=aa
    subst this;rw[m];exact bg p c
  ·have a:dm k l i e=false:=by simp[dm,n,q]
   rw[a];exact bg s q
theorem MY (a:List Int) (e:Entry) (K:a.length<2^31) (L:e.values.length=e.cells.length) (z: ∀c∈e.cells,0<=c/\c<a.length) (P:0<a.length) (S:e.cells.length<2^20):
 Den Γ G 373 [.t (ints a),.agg [.t (ints e.cells),.t (ints e.values)]]=some (.t (ints (d5 a e))):=by
 refine aD (q:=aA ?_);have E:=tW a K (fun _=>none) 0;obtain⟨r,h',O,o,b,_,_⟩:=E;refine qK (es:=a.map fun n=>[ti n]) rfl rfl ⟨r,h',O,o,b⟩ ?_;clear o b;intro v hp b _ _;have s:=b.valOf;refine aw s ?_;refine aS 268435008 e.cells.length (fun i f h x=>(f 6).v=vi i/\ax h x v 1 (ai (dZ a e i))) rfl ⟨am,by simp -dsimp only[go_sem,seval];exact b.le aa⟩ ?_;clear b;rintro i f u H x bs hi ⟨j,b⟩;have M:=aB i aa;have g: ∀i,(dZ a e i).length=a.length:=fun i=>tt _ _
 refine aw j ?_;refine aR j ?_ ?_<;>intro h
 ·obtain⟨c,p,B⟩:=au ‹i<e.cells.length›;obtain⟨d,q,_⟩:=au (show i<e.values.length from aa);obtain⟨F,Q⟩:=z c B;have N:(e.cells.zip e.values)[i]? =some (c,d):=oH.2 ⟨p,q⟩
  have D:dZ a e (i+1)=(dZ a e i).set c.toNat d:=by
   unfold dZ;rw[a_ N,iD];rfl
  rcases b with⟨_,I⟩ | ⟨k,rfl,R,J⟩
  ·exfalso;have:(ai (dZ a e i)).length=0:=by rw[I];rfl
   rw[aC,g]at this;omega
  ·have y:c<(((ai (dZ a e i)).length:Nat):Int):=by rw[aC,g];omega
   have A:=gz (l:=dZ a e i) (i:=c.toNat) (by rw[g];omega);have m:=dV (dZ a e i) c.toNat d;rw[<- D]at m;refine dG j p q F y J A ?_;refine⟨aa,ak M,.inr ⟨k,?_,av,?_⟩⟩
   ·rw[aC,aC,g,g]
   ·exact ak m
 ·have:i=e.cells.length:=aa
  subst this
  have w:dZ a e e.cells.length=d5 a e:=by
   unfold dZ d5;rw[c6 (by simp[L])]
  rw[w]at b;have C:=b.reify (iG _);have t:=b.resVal;simp only[Rg.resVal]at t;refine aJ s t ?_;exact C
structure RdI (h:Nat->Option O) (v:V) (l:List Int):Prop where
 val:valOf v=some v
 rd:toT1 h v=some (.t (ints l))
 res:resVal v=some v
 rf:Rg.reify h v=some (.t (ints l))
theorem RdI.tree (h:ae) (l:List Int):RdI h (.t (ints l)) l:=⟨rfl,rfl,rfl,rfl⟩
theorem RdI.own {h:ae} {x:Nat} {v:V} {l:List Int} (o:ax h x v 1 (ai l)):RdI h v l:=⟨o.valOf,kba o,o.resVal,o.reify (es:=l.map fun n=>[ti n]) (iG _)⟩
theorem Kx (p:Prog) (I:aN p=true) (c:Config) (m:IsB p c) (t:Nat) (J:t<p.threads.length):
 Den Γ G 357 [(.agg [.t (ints (c).mem),.t (ints (c).at_),.t (.sl ((c).buf.map (fun b=>[.sl (b.map Entry.enc)])))]),vi t]=some (.t (ints (aM c t))):=by
 have O:=(mt I).1;have S:=m.lm;obtain⟨b,g,P⟩:=au (show t<c.buf.length by rw[m.lb];exact J);have F:=RM g;obtain⟨R,C,_⟩:=m.buf t b g
 refine aD (q:=?_)
 simp -dsimp only[go_sem,seval,g];have E:=tW c.mem aa (fun _=>none) 0;obtain⟨r,h',L,q,a,_,_⟩:=E;refine qK (es:=c.mem.map fun n=>[ti n]) rfl rfl ⟨r,h',L,q,a⟩ ?_;clear q a;intro v hp a _ _;have N:=a.valOf;simp -dsimp only[go_sem,seval,N];refine aS 1073740896 b.length (fun i f h x=>(f 6).v=vi i/\RdI h (f 5).v ((b.take i).foldl d5 c.mem)) rfl ⟨am,by simp -dsimp only[go_sem,seval];exact .own a⟩ ?_;clear a;rintro i f u H x bs hi ⟨l,A⟩;have K:=aB i aa;obtain⟨w,M,y,z⟩:=A
 by_cases j:i<b.length
 ·have k:=aW j;obtain⟨e,s,B⟩:=au j;have d:=C e B;have D:=MY ((b.take i).foldl d5 c.mem) e (by rw[qn];omega) d.len (fun n o=>by have:=lG d o;rw[qn];omega) (by rw[qn];obtain⟨n,o⟩:=GM _ d.ne;have:=(lG d o).2.1;omega) (by have:=gX d;omega);simp -dsimp only[go_sem,seval,l,k,g,s,Entry.enc,w,↓M,D];refine XP fun Q=> ?_
  simp -dsimp only[go_sem,seval,l];refine⟨aa,ak K,?_⟩;simp -dsimp only[go_sem,seval,a_ s,iD,iy,o6];exact .tree _ _
 ·have k:=aI j;have:i=b.length:=aa
  subst this;rw[be]at z;simp only[Rg.resVal]at y;simp -dsimp only[go_sem,seval,l,k,g,w,y];rw[aM,F];exact z
end Rg
end
