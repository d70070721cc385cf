/- Part of the proof of laws of relyguardtop. No condition. -/
import Derived.Test.YtdmkjfdlieokcaaGreatDoorHartAO
import Derived.Test.YtdmkjfdlieokcaaGreatDoorHartAM
import Derived.Test.YtdmkjfdlieokcaaGreatDoorHartAN
import Derived.Test.YtdmkjfdlieokcaaGreatDoorHartAJ
set_option linter.unusedSimpArgs false
set_option linter.unusedVariables false
section
namespace Rg
open Go
theorem zfF {α:Type} {f:Nat->α->Int}: ∀{l:List α} {i:Nat},(zco f i l).1=0<-> ∀(j:Nat) (x:α),l[j]? =some x->f (i+j) x=0
 | [],i=>by simp[zco]
 | y::r,i=>by
   rw[zco];constructor
   ·intro h j x hj;split at h
    ·rename_i h0
     cases j with
     | zero=>simp at hj;subst hj;exact h0
     | succ j=>
       have:=(zfF (l:=r) (i:=i+1)).1 h j x (by simpa using hj);rwa[show i+1+j=i+(j+1)by omega]at this
    ·rename_i h0;exact absurd h h0
   ·intro h;have h0:f i y=0:=h 0 y rfl;rw[if_pos h0];refine(zfF (l:=r) (i:=i+1)).2 fun j x hj=> ?_
    have:=h (j+1) x (by simpa using hj);rwa[show i+(j+1)=i+1+j by omega]at this
theorem zlb {p:Prog}: ∀{l:List Thread} {i:Nat},(zep p i l).1=0<-> ∀(j:Nat) (x:Thread),l[j]? =some x->(zap p (i+j) x).1=0
 | [],i=>by simp[zep]
 | y::r,i=>by
   rw[zep];constructor
   ·intro h j x hj;split at h
    ·rename_i h0
     cases j with
     | zero=>simp at hj;subst hj;exact h0
     | succ j=>
       have:=(zlb (l:=r) (i:=i+1)).1 h j x (by simpa using hj);rwa[show i+1+j=i+(j+1)by omega]at this
    ·rename_i h0;exact absurd h h0
   ·intro h;have h0:(zap p i y).1=0:=h 0 y rfl;rw[if_pos h0];refine(zlb (l:=r) (i:=i+1)).2 fun j x hj=> ?_
    have:=h (j+1) x (by simpa using hj);rwa[show i+(j+1)=i+1+j by omega]at this
abbrev Prog.ok (p:Prog):Prop:=(zbM p).1=0
structure Rules (p:Prog):Prop where
 lim:(zaV p).1=0
 cells: ∀(i:Nat) (c:Cell),p.cells[i]? =some c->zci p i c=0
 modules: ∀(i:Nat) (m:Contract),p.modules[i]? =some m->zdH p i m=0
 locks: ∀(i:Nat) (l:Lock),p.locks[i]? =some l->zcM p i l=0
 threads: ∀(i:Nat) (x:Thread),p.threads[i]? =some x->(zap p i x).1=0
theorem zpi {p:Prog}:p.ok<->Rules p:=by
 unfold Prog.ok zbM;constructor
 ·intro h;split at h
  ·rename_i h0;exact absurd h h0
  ·rename_i h0;split at h
   ·rename_i h1;exact absurd h h1
   ·rename_i h1;split at h
    ·rename_i h2;exact absurd h h2
    ·rename_i h2;split at h
     ·rename_i h3;exact absurd h h3
     ·rename_i h3;simp only[Decidable.not_not]at h0 h1 h2 h3;exact⟨h0,by simpa[zce,zfF]using h1,by simpa[zbm,zfF]using h2,by simpa[zcT,zfF]using h3,by simpa[zlb]using h⟩
 ·rintro⟨h0,h1,h2,h3,h4⟩;have g1:zce p=0:=by unfold zce;rw[zfF];simpa using h1
  have g2:zbm p=0:=by unfold zbm;rw[zfF];simpa using h2
  have g3:zcT p=0:=by unfold zcT;rw[zfF];simpa using h3
  rw[if_neg (by simpa using h0),if_neg (by simpa using g1),if_neg (by simpa using g2),if_neg (by simpa using g3),zlb];simpa using h4
theorem zjE {p:Prog} {i:Nat} {c:Cell}:zci p i c=0<->zcj p c=false/\(p.cells.take i).any (fun d=>d.name.toList==c.name.toList)=false:=by
 unfold zci;cases zcj p c<;>cases(p.cells.take i).any (fun d=>d.name.toList==c.name.toList)<;>simp
theorem zkI {p:Prog}:(zaV p).1=0<->(p.cells.length<=32/\p.modules.length<=6/\p.locks.length<=4/\p.threads.length<=4)/\ ∀x∈p.threads,x.points<=48/\x.steps.length<=64/\x.loops.length<=8:=by
 unfold zaV;split
 ·rename_i h;constructor
  ·intro h;cases h
  ·rintro⟨h',_⟩;omega
 ·rename_i h;rw[zfF];constructor
  ·intro h2;refine⟨by omega,fun x hx=> ?_⟩;obtain⟨j,hj,rfl⟩:=List.mem_iff_getElem.1 hx;have:=h2 j _ (zI hj);cases hb:zaP p.threads[j]
   ·simp only[zaP,Bool.or_eq_false_iff,decide_eq_false_iff_not]at hb;omega
   ·simp[hb]at this
  ·rintro⟨_,h2⟩ j x hx;have:=h2 x (zL hx)
   have hb:zaP x=false:=by
    simp only[zaP,Bool.or_eq_false_iff,decide_eq_false_iff_not];omega
   simp[hb]
end Rg
end
section
set_option maxRecDepth 100000
namespace Rg
open Go
def Expr.text (e:Expr):List UInt8:=if e.formed then e.txt else []
end Rg
end
section
set_option maxRecDepth 100000
namespace Rg
open Go
end Rg
end
section
set_option maxRecDepth 100000
namespace Rg
open Go
def zBB (ws:List (List UInt8)):List UInt8:=Go.Lib.join ws [32]++[10]
end Rg
end
section
set_option maxRecDepth 100000
namespace Rg
open Go
def zBz (l:Loop):List (List UInt8):=[[108,111,111,112],num l.head,l.variant.text]
def loopX (l:Loop):List UInt8:=zBB (zBz l++l.body.map num)
end Rg
end
section
set_option maxRecDepth 100000
namespace Rg
open Go
theorem zGF.lt {h:Nat->Option O} {n k:Nat} {o:O} (hf:zGF h n) (hk:h k=some o):k<n:=by
 rcases Nat.lt_or_ge k n with h0 | h0
 ·exact h0
 ·have:=hf k h0;rw[hk]at this;cases this
theorem Bld.frame {h h':Nat->Option O} {k:Nat} {l:List UInt8} (hb:Bld h k l) (hf: ∀j x,h j=some (.raw x)->h' j=h j):Bld h' k l:=by
 rcases hb with⟨h1,h2⟩ | ⟨g,h1,h2,h3⟩
 ·exact .inl ⟨by rw[hf k _ h1];exact h1,h2⟩
 ·exact .inr ⟨g,by rw[hf k _ h1];exact h1,by rw[hf g _ h2];exact h2,h3⟩
end Rg
end
section
set_option maxRecDepth 100000
namespace Rg
open Go
end Rg
end
section
namespace Rg
open Go
end Rg
end
section
set_option maxRecDepth 100000
namespace Rg
open Go
end Rg
end
section
namespace Rg
open Go
end Rg
end
section
namespace Rg
open Go
end Rg
end
section
namespace Rg
open Go
structure Vis where
 c:Config
 fr:Int
 x:Choice
 deriving Inhabited
def zf9 (l:List Vis) (c:Config):Bool:=l.any fun v=>decide (v.c=c)
def ztH (lim:Nat) (l:List Vis) (v:Vis):Option (List Vis):=if zf9 l v.c then some l else if lim<=l.length then none else some (l++[v])
def zgc (lim:Nat):List Vis->List Vis->Option (List Vis)
 | l,[]=>some l
 | l,v::r=>(ztH lim l v).bind fun l'=>zgc lim l' r
def zjY (p:Prog) (k:Int) (c:Config) (i:Nat):List Vis:=(zaK p k c).map fun x=>⟨(zdk p k c x).1,i,x⟩
def goV (p:Prog) (k:Int) (lim:Nat):Nat->Nat->List Vis->Option (List Vis)
 | 0,_,l=>some l
 | f+1,i,l=>match l[i]? with
   | some v=>(zgc lim l (zjY p k v.c i)).bind fun l'=>goV p k lim f (i+1) l'
   | none=>some l
def v0 (p:Prog):Vis:=⟨zcm p,-1,⟨0,0,0⟩⟩
def zil (p:Prog) (k:Int) (lim:Nat):Option (List Vis):=goV p k lim (lim+1) 0 [v0 p]
theorem ztp {lim:Nat} {l l':List Vis} {v:Vis} (h:ztH lim l v=some l'):l.length<=l'.length/\(l.length<=lim->l'.length<=lim)/\(∃r,l'=l++r):=by
 unfold ztH at h;split at h
 ·cases h;exact⟨Nat.le_refl _,id,[],by simp⟩
 ·split at h
  ·cases h
  ·cases h;exact⟨by simp,fun _=>by simp;omega,_,rfl⟩
theorem ziB {lim:Nat}: ∀{r l l':List Vis},zgc lim l r=some l'->(l.length<=lim->l'.length<=lim)/\ ∃s,l'=l++s
 | [],l,l',h=>by cases h;exact⟨id,[],by simp⟩
 | v::r,l,l',h=>by
   simp only[zgc,zB]at h;obtain⟨m,hm,h⟩:=h;obtain⟨_,h1,s1,rfl⟩:=ztp hm;obtain⟨h2,s2,rfl⟩:=ziB h;exact⟨fun q=>h2 (h1 q),s1++s2,by simp⟩
structure VisOk (p:Prog) (k:Int) (l:List Vis) (i:Nat):Prop where
 le:i<=l.length
 nd:(l.map Vis.c).Nodup
 z:l[0]? =some (v0 p)
 is: ∀v∈l,IsK p k v.c
 pre: ∀(j:Nat) (v:Vis),0<j->l[j]? =some v-> ∃(q:Nat) (u:Vis),q<j/\l[q]? =some u/\v.fr=q/\v.x∈zaK p k u.c/\v.c=(zdk p k u.c v.x).1
 cl: ∀(j:Nat) (u:Vis),j<i->l[j]? =some u-> ∀x∈zaK p k u.c,∃v∈l,v.c=(zdk p k u.c x).1
theorem zeH {l:List Vis} {c:Config}:zf9 l c=true<-> ∃v∈l,v.c=c:=by simp[zf9]
theorem VisOk.add {p:Prog} (hf:zak p=true) {k:Int} {lim i q:Nat} {l l':List Vis} {u:Vis} {x:Choice} (h:VisOk p k l i) (hu:l[q]? =some u) (hx:x∈zaK p k u.c)
 (ha:ztH lim l ⟨(zdk p k u.c x).1,q,x⟩=some l'):VisOk p k l' i/\ ∃v∈l',v.c=(zdk p k u.c x).1:=by
 unfold ztH at ha;split at ha
 ·rename_i hs;cases ha;exact⟨h,zeH.1 hs⟩
 ·rename_i hs;split at ha
  ·cases ha
  cases ha;have Es:=zL hu;obtain⟨d,hn,hd⟩:=zgY hf (h.is u Es) hx;have Ed:=(zH.1 hu).1;have A5:=h.le;refine⟨⟨by simp;omega,?_,?_,?_,?_,?_⟩,⟨(zdk p k u.c x).1,q,x⟩,by simp,rfl⟩
  ·rw[List.map_append,List.nodup_append];refine⟨h.nd,by simp,?_⟩;intro a ha b hb Ca;simp only[List.map_cons,List.map_nil,List.mem_singleton]at hb;subst hb Ca;obtain⟨v,hv,e⟩:=List.mem_map.1 ha;exact hs (zeH.2 ⟨v,hv,e⟩)
  ·rw[List.getElem?_append_left (by omega)];exact h.z
  ·intro v hv;rcases List.mem_append.1 hv with hv | hv
   ·exact h.is v hv
   ·simp only[List.mem_singleton]at hv;subst hv;rw[hn];exact hd
  ·intro j v hj hv;rcases Nat.lt_or_ge j l.length with Ad | Bv
   ·rw[List.getElem?_append_left Ad]at hv;obtain⟨q',u',h1,h2,h3⟩:=h.pre j v hj hv;exact⟨q',u',h1,by rw[List.getElem?_append_left (by omega)];exact h2,h3⟩
   ·rw[List.getElem?_append_right Bv]at hv
    have:j-l.length=0:=by
     have:=(zH.1 hv).1;simp at this;omega
    rw[this]at hv;cases hv;exact⟨q,u,by omega,by rw[List.getElem?_append_left Ed];exact hu,rfl,hx,rfl⟩
  ·intro j u' hj Es y hy;rcases Nat.lt_or_ge j l.length with Ad | Bv
   ·rw[List.getElem?_append_left Ad]at Es;obtain⟨v,hv,e⟩:=h.cl j u' hj Es y hy;exact⟨v,by simp[hv],e⟩
   ·omega
theorem VisOk.adds {p:Prog} (hf:zak p=true) {k:Int} {lim i q:Nat} {u:Vis}: ∀{xs:List Choice} {l l':List Vis},VisOk p k l i->l[q]? =some u->(∀x∈xs,x∈zaK p k u.c)->
 zgc lim l (xs.map fun x=>⟨(zdk p k u.c x).1,q,x⟩)=some l'->VisOk p k l' i/\l'[q]? =some u/\(∀x∈xs,∃v∈l',v.c=(zdk p k u.c x).1)
 | [],l,l',h,hu,_,ha=>by cases ha;exact⟨h,hu,fun x hx=>by simp at hx⟩
 | y::xs,l,l',h,hu,hx,ha=>by
   simp only[List.map_cons,zgc,zB]at ha;obtain⟨m,hm,ha⟩:=ha;obtain⟨h1,v,hv,e⟩:=h.add hf hu (hx y (by simp)) hm;obtain⟨_,_,s,rfl⟩:=ztp hm;have Ed:=(zH.1 hu).1;obtain⟨h2,h3,h4⟩:=VisOk.adds hf h1 (by rw[List.getElem?_append_left Ed];exact hu) (fun x Dc=>hx x (by simp[Dc])) ha;refine⟨h2,h3,fun x Dc=> ?_⟩;rcases List.mem_cons.1 Dc with rfl | Dc
   ·obtain⟨s2,rfl⟩:=(ziB ha).2;exact⟨v,by simp only[List.mem_append]at hv⊢;exact .inl hv,e⟩
   ·exact h4 x Dc
theorem VisOk.go {p:Prog} (hf:zak p=true) {k:Int} {lim:Nat}: ∀{f i:Nat} {l l':List Vis},VisOk p k l i->l.length<=lim->lim+1<=f+i->goV p k lim f i l=some l'->VisOk p k l' l'.length/\l'.length<=lim
 | 0,i,l,l',h,hl,BJ,hg=>by
   have:=h.le
   omega
 | f+1,i,l,l',h,hl,BJ,hg=>by
   rw[goV]at hg
   cases hv:l[i]? with
   | none=>
     rw[hv]at hg;cases hg
     have:i=l.length:=by
      have:=h.le;have:=List.getElem?_eq_none_iff.1 hv;omega
     exact⟨this▸h,hl⟩
   | some v=>
     rw[hv]at hg;simp only[zB]at hg;obtain⟨m,hm,hg⟩:=hg;obtain⟨h1,h2,h3⟩:=VisOk.adds hf h hv (fun x hx=>hx) hm;have N4:=(zH.1 h2).1;refine VisOk.go hf ⟨by omega,h1.nd,h1.z,h1.is,h1.pre,?_⟩ ((ziB hm).1 hl) (by omega) hg;intro j u hj hu x hx;rcases Nat.lt_or_ge j i with DP | DP
     ·exact h1.cl j u DP hu x hx
     ·have:j=i:=by omega
      subst this;rw[h2]at hu;cases hu;exact h3 x hx
theorem zoG {p:Prog} (hf:zak p=true) {k:Int} {lim:Nat} (h1:1<=lim) {l:List Vis} (h:zil p k lim=some l):VisOk p k l l.length/\l.length<=lim:=by
 refine VisOk.go hf ⟨by simp,by simp,rfl,?_,?_,fun j u hj=>by omega⟩ (by simpa using h1) (by omega) h
 ·intro v hv;simp only[List.mem_singleton]at hv;subst hv;exact zfq hf k
 ·intro j v hj hv;have:=(zH.1 hv).1;simp at this;omega
def zun (e:Entry):List Int:=(e.cells.zip e.values).flatMap fun q=>[q.1,q.2]
def zh0 (e:Entry):List Int:=(e.cells.length:Int)::zun e
def zik (b:List Entry):List Int:=(b.length:Int)::b.flatMap zh0
def zpn (sh:Int) (c:Config):List Int:=c.mem++c.at_.map (· +sh)++c.buf.flatMap zik
theorem zrZ: ∀{a b a' b' r r':List Int},a.length=b.length->a'.length=b'.length->a.length=a'.length->
 (a.zip b).flatMap (fun q=>[q.1,q.2])++r=(a'.zip b').flatMap (fun q=>[q.1,q.2])++r'->a=a'/\b=b'/\r=r'
 | [],[],[],[],r,r',_,_,_,h=>⟨rfl,rfl,by simpa using h⟩
 | x::a,y::b,x'::a',y'::b',r,r',h1,h2,h3,h=>by
   simp only[List.zip_cons_cons,List.flatMap_cons,List.cons_append,List.nil_append,List.cons.injEq]at h;obtain⟨rfl,rfl,h⟩:=h;obtain⟨rfl,rfl,rfl⟩:=zrZ (by simpa using h1) (by simpa using h2) (by simpa using h3) h
   exact⟨rfl,rfl,rfl⟩
 | [],_::_,_,_,_,_,h1,_,_,_=>by simp at h1
 | _::_,[],_,_,_,_,h1,_,_,_=>by simp at h1
 | _,_,[],_::_,_,_,_,h2,_,_=>by simp at h2
 | _,_,_::_,[],_,_,_,h2,_,_=>by simp at h2
 | [],_,_::_,_,_,_,_,_,h3,_=>by simp at h3
 | _::_,_,[],_,_,_,_,_,h3,_=>by simp at h3
theorem zw6 {e f:Entry} {r r':List Int} (he:e.values.length=e.cells.length) (hf:f.values.length=f.cells.length) (h:zh0 e++r=zh0 f++r'):e=f/\r=r':=by
 obtain⟨a,b⟩:=e;obtain⟨a',b'⟩:=f;simp only[zh0,zun,List.cons_append,List.cons.injEq]at h he hf;obtain⟨h1,h2,h3⟩:=zrZ he.symm hf.symm (by omega) h.2;exact⟨by rw[h1,h2],h3⟩
theorem zpH: ∀{b b':List Entry} {r r':List Int},(∀e∈b,e.values.length=e.cells.length)->(∀e∈b',e.values.length=e.cells.length)->b.length=b'.length->
 b.flatMap zh0++r=b'.flatMap zh0++r'->b=b'/\r=r'
 | [],[],r,r',_,_,_,h=>⟨rfl,by simpa using h⟩
 | e::b,f::b',r,r',h1,h2,h3,h=>by
   simp only[List.flatMap_cons,zQ]at h;obtain⟨rfl,h'⟩:=zw6 (h1 e (by simp)) (h2 f (by simp)) h;obtain⟨rfl,rfl⟩:=zpH (b:=b) (b':=b') (fun x hx=>h1 x (by simp[hx])) (fun x hx=>h2 x (by simp[hx])) (by simpa using h3) h'
   exact⟨rfl,rfl⟩
 | [],_::_,_,_,_,_,h,_=>by simp at h
 | _::_,[],_,_,_,_,h,_=>by simp at h
theorem zxd {b b':List Entry} {r r':List Int} (h1: ∀e∈b,e.values.length=e.cells.length) (h2: ∀e∈b',e.values.length=e.cells.length) (h:zik b++r=zik b'++r'):b=b'/\r=r':=by
 simp only[zik,List.cons_append,List.cons.injEq]at h;exact zpH h1 h2 (by omega) h.2
theorem zpO: ∀{l l':List (List Entry)},(∀b∈l,∀e∈b,e.values.length=e.cells.length)->(∀b∈l',∀e∈b,e.values.length=e.cells.length)->l.length=l'.length->
 l.flatMap zik=l'.flatMap zik->l=l'
 | [],[],_,_,_,_=>rfl
 | b::l,b'::l',h1,h2,h3,h=>by
   simp only[List.flatMap_cons]at h;obtain⟨rfl,h'⟩:=zxd (h1 b (by simp)) (h2 b' (by simp)) h
   rw[zpO (l:=l) (l':=l') (fun x hx=>h1 x (by simp[hx])) (fun x hx=>h2 x (by simp[hx])) (by simpa using h3) h']
 | [],_::_,_,_,h,_=>by simp at h
 | _::_,[],_,_,h,_=>by simp at h
theorem IsB.ent {p:Prog} {c:Config} (h:IsB p c): ∀b∈c.buf,∀e∈b,Proper p e:=by
 intro b hb e he;obtain⟨t,ht⟩:=List.getElem?_of_mem hb;exact(h.buf t b ht).2.1 e he
theorem zpm {p:Prog} {sh:Int} {c d:Config} (hc:IsB p c) (hd:IsB p d) (h:zpn sh c=zpn sh d):c=d:=by
 obtain⟨m,a,b⟩:=c;obtain⟨m',a',b'⟩:=d;simp only[zpn,zQ]at h;have l1:m.length=m'.length:=hc.lm.trans hd.lm.symm;obtain⟨rfl,h'⟩:=List.append_inj h l1;have l2:a.length=a'.length:=hc.la.trans hd.la.symm;obtain⟨h2,h3⟩:=List.append_inj h' (by simpa using l2);have h2:a=a':=(List.map_inj_right fun x y e=>by omega).1 h2;subst h2;have l3:b.length=b'.length:=hc.lb.trans hd.lb.symm;have:=zpO (fun x hx e he=>(hc.ent x hx e he).len) (fun x hx e he=>(hd.ent x hx e he).len) l3 h3;simp only at this;rw[this]
theorem zbQ {p:Prog} (hf:zak p=true):p.cells.length<=32/\(∀y∈p.cells,y.w<=8)/\(∀x∈p.threads,x.points<=48):=by
 have hr:=zpi.1 (show p.ok by simpa[zak]using hf);obtain⟨⟨b1,_⟩,b5⟩:=zkI.1 hr.lim;refine⟨b1,fun y hy=> ?_,fun x hx=>(b5 x hx).1⟩;obtain⟨i,hi⟩:=List.getElem?_of_mem hy;have:=(zjE.1 (hr.cells i y hi)).1;simp only[zcj,Bool.or_eq_false_iff,decide_eq_false_iff_not]at this;omega
theorem zwE {w:Int} (h:w<=8) {v:Int} (hv:v<2^w.toNat):v<256:=by
 have:=zes (i:=w.toNat) (k:=8) (by omega);omega
theorem zdS {p:Prog} (hf:zak p=true) {sh:Int} (h0:0<=sh/\sh<=1) {c:Config} (hc:IsB p c): ∀n∈zpn sh c,sh-1<=n/\n<256:=by
 obtain⟨s1,s2,s3⟩:=zbQ hf;intro n hn;simp only[zpn,List.mem_append,List.mem_map,List.mem_flatMap]at hn;rcases hn with(hn | ⟨a,ha,rfl⟩) | ⟨b,hb,hn⟩
 ·obtain⟨i,hi⟩:=List.getElem?_of_mem hn;have Ad:=(zH.1 hi).1;rw[hc.lm]at Ad;have hy:=zI Ad;have:=hc.mem i n _ hi hy;have:=zwE (s2 _ (zL hy)) this.2;omega
 ·obtain⟨i,hi⟩:=List.getElem?_of_mem ha;have Ad:=(zH.1 hi).1;rw[hc.la]at Ad;have hy:=zI Ad;have:=hc.at_ i a _ hi hy;have:=s3 _ (zL hy);omega
 ·have ER:=hc.ent b hb;obtain⟨t,ht⟩:=List.getElem?_of_mem hb;have h3:=(hc.buf t b ht).1;simp only[zik,List.mem_cons,List.mem_flatMap]at hn;rcases hn with rfl | ⟨e,he,hn⟩
  ·omega
  ·have hp:=ER e he;simp only[zh0,zun,List.mem_cons,List.mem_flatMap,List.not_mem_nil,or_false]at hn;rcases hn with rfl | ⟨q,hq,hn⟩
   ·have:=zbd hp;omega
   ·obtain⟨q0,y,hy,_,v0,v1⟩:=ziY hp hq;have Ad:=(zH.1 hy).1;have:=zwE (s2 _ (zL hy)) v1;rcases hn with rfl | rfl<;>omega
theorem zaF.cellsV {h:Nat->Option O} {x:Nat} {v:V} {sz:Nat} {rows:List (List V)} (o:zaF h x v sz rows):V.cells v=some [v]:=by
 rcases o with⟨rfl,_⟩ | ⟨k,rfl,_,_⟩<;>rfl
end Rg
end
section
namespace Rg
open Go
end Rg
end
section
namespace Rg
open Go
end Rg
end
section
namespace Rg
open Go
end Rg
end
section
namespace Rg
open Go
noncomputable def envC:(Nat->Slot)->Nat->V:=(Classical.choice (⟨⟨fun sl t=>(sl t).v,rfl⟩⟩:Nonempty {g:(Nat->Slot)->Nat->V// g=fun sl t=>(sl t).v})).1
theorem zsV:envC=fun sl t=>(sl t).v:=(Classical.choice (⟨⟨fun sl t=>(sl t).v,rfl⟩⟩:Nonempty {g:(Nat->Slot)->Nat->V// g=fun sl t=>(sl t).v})).2
@[go_sem ↓]theorem zBO (sl:Nat->Slot) (t:Nat):envC sl t=(sl t).v:=by rw[zsV]
@[go_sem ↓]theorem zzA (f:Nat->V) (i j:Nat) (v:V):updC f i v j=pk (j==i) v (f j) ⟨0⟩:=by rw[zaL,zql];rfl
def zrK (env:Nat->V) (ps:List Nat) (vs:List V):Nat->Slot:=fun t=>⟨zhB env ps vs t,none,none⟩
noncomputable def rndS:(Nat->V)->List Nat->List V->Nat->Slot:=(Classical.choice (⟨⟨zrK,rfl⟩⟩:Nonempty {g:(Nat->V)->List Nat->List V->Nat->Slot// g=zrK})).1
theorem znO:rndS=zrK:=(Classical.choice (⟨⟨zrK,rfl⟩⟩:Nonempty {g:(Nat->V)->List Nat->List V->Nat->Slot// g=zrK})).2
@[go_sem ↓]theorem zzE (env:Nat->V) (t:Nat):(rndS env [] [] t).v=env t:=by rw[znO];rfl
@[go_sem ↓]theorem zyg (env:Nat->V) (p:Nat) (ps:List Nat) (v:V) (vs:List V) (t:Nat):(rndS env (p::ps) (v::vs) t).v=(rndS (updC env p v) ps vs t).v:=by rw[znO,zaL];rfl
section
variable {Γ:Nat->Option F} {G:Nat->List T}
def zBm (o:Option (V×(Nat->Option O)×Nat)) (k:Nat) (K:Ex->(Nat->Option O)->Nat->Prop) (_:WK K):Prop:=
 ∃r h' n',o=some (r,h',n')/\ ∃env ps bd st e,h' k=some (.loop env ps bd st)/\st.ends=some e/\K e (updC h' k (some .dead)) n'
@[go_sem ↓]theorem zAZ (x:Opd) (ps:List Nat) (bd:C) (Q:Ex->M->Prop) (sl:Nat->Slot) (u:Nat->Bool) (h:Nat->Option O) (n b:Nat) (w:W3 (.rangeF x ps bd) Q ⟨sl,u,h,n,b⟩):
 wC Γ G (.rangeF x ps bd) Q ⟨sl,u,h,n,b⟩ w=fnK (zaW G sl x) (fun g a c=>zBm (DenR Γ G g (a++[V.yl n]++c) (updC h n (some (.loop (envC sl) ps bd .ready))) (n+1)) n (fun e h' n'=>Q e ⟨sl,u,h',n',b⟩) ⟨0⟩) ⟨0⟩:=by
 unfold wC;rw[zbS,zaL,zsV];simp only[wpC,za2]
 cases zaW G sl x with
 | none=>rfl
 | some v=>
   simp only[zD,fnK]
   cases zfC v with
   | none=>rfl
   | some q=>
     obtain⟨g,a,c⟩:=q;simp only[zBm,zaL];apply propext;constructor
     ·rintro⟨r,h',n',hc,_,env',ps',bd',st,e,hl,he,hQ⟩;exact⟨r,h',n',zcI.2 hc,env',ps',bd',st,e,hl,he,hQ⟩
     ·rintro⟨r,h',n',hc,env',ps',bd',st,e,hl,he,hQ⟩;exact⟨r,h',n',zcI.1 hc,zxp (zcI.1 hc),env',ps',bd',st,e,hl,he,hQ⟩
theorem znN {o:Option (V×(Nat->Option O)×Nat)} {k:Nat} {K:Ex->(Nat->Option O)->Nat->Prop} {w:WK K} {P:Ex->(Nat->Option O)->Nat->Prop}
 (h: ∃r h' n',o=some (r,h',n')/\ ∃env ps bd st e,h' k=some (.loop env ps bd st)/\st.ends=some e/\P e h' n') (hk: ∀e h' n',P e h' n'->K e (updC h' k (some .dead)) n'):zBm o k K w:=by
 obtain⟨r,h',n',e1,env,ps,bd,st,e,e2,e3,hp⟩:=h;exact⟨r,h',n',e1,env,ps,bd,st,e,e2,e3,hk e h' n' hp⟩
def FiY (P:Ex->(Nat->Option O)->Nat->Prop) (e:Ex) (m:M):Prop:=P e m.heap m.nxt
@[go_sem ↓]theorem zCV (P:Ex->(Nat->Option O)->Nat->Prop) (e:Ex) (sl:Nat->Slot) (u:Nat->Bool) (h:Nat->Option O) (n b:Nat):FiY P e ⟨sl,u,h,n,b⟩=SpN (P e h n) ⟨0⟩:=rfl
def zy2 (o:Option O) (K:(Nat->V)->List Nat->C->Prop) (_:WK K):Prop:=match o with
 | some (.loop env ps bd .enter)=>K env ps bd
 | _=>False
@[go_sem]theorem zy1 (env:Nat->V) (ps:List Nat) (bd:C) (K:(Nat->V)->List Nat->C->Prop) (w:WK K):zy2 (some (.loop env ps bd .enter)) K w=K env ps bd:=rfl
variable (Γ G) in
def FiA (k:Nat) (cb:C) (Q:Ex->M->Prop):Ex->M->Prop
 | .normal,m=>zy2 (m.heap k) (fun env ps bd=>wC Γ G cb Q ⟨m.sl,m.used,updC m.heap k (some (.loop env ps bd .busy)),m.nxt,m.bas⟩ ⟨0⟩) ⟨0⟩
 | _,_=>False
@[go_sem ↓]theorem zCW (k:Nat) (cb:C) (Q:Ex->M->Prop) (sl:Nat->Slot) (u:Nat->Bool) (h:Nat->Option O) (n b:Nat):
 FiA Γ G k cb Q .normal ⟨sl,u,h,n,b⟩=zy2 (h k) (fun env ps bd=>wC Γ G cb Q ⟨sl,u,updC h k (some (.loop env ps bd .busy)),n,b⟩ ⟨0⟩) ⟨0⟩:=rfl
theorem zjy {k:Nat} {vs:List V} {h:Nat->Option O} {n:Nat} {env:Nat->V} {ps:List Nat} {ca cb:C} {P:Ex->(Nat->Option O)->Nat->Prop} (hk:h k=some (.loop env ps (.round ca cb) .ready)) (hl:vs.length=ps.length)
 (hb: ∀e h' n',P e h' n'-> ∃env' ps' bd',h' k=some (.loop env' ps' bd' .busy))
 (hw:wC Γ G ca (qOf Γ G [] (FiA Γ G k cb (qOf Γ G [] (FiY P)))) ⟨rndS env ps vs,fun _=>false,updC h k (some (.loop env ps (.round ca cb) .enter)),n,n⟩ ⟨0⟩):
 ∃e h' n',P e h' n'/\ ∃env' ps' bd',h' k=some (.loop env' ps' bd' .busy)/\DenY Γ G k vs h n=some (.t (.bool (decide (e=Ex.normal))),updC h' k (some (.loop env' ps' bd' e.toL)),n'):=by
 unfold wC at hw;rw[zbS,zcz,znO,zaL]at hw;obtain⟨e0,m1,hA,hF⟩:=zq7 hw
 cases e0 with
 | exit id=>exact hF.elim
 | ret=>exact hF.elim
 | normal=>
   have K2:zy2 (m1.heap k) (fun env ps bd=>wC Γ G cb (zqi Γ G [] (FiY P)) ⟨m1.sl,m1.used,updC m1.heap k (some (.loop env ps bd .busy)),m1.nxt,m1.bas⟩ ⟨0⟩) ⟨0⟩:=by
    exact hF
   unfold zy2 at K2;split at K2
   ·rename_i env1 ps1 bd1 AT;unfold wC at K2;rw[zbS,zaL]at K2;obtain⟨e,m',hB,hP⟩:=zq7 K2;obtain⟨env',ps',bd',Ah⟩:=hb _ _ _ hP;refine⟨e,m'.heap,m'.nxt,hP,env',ps',bd',Ah,zlM.2 ⟨env,ps,ca,cb,m1.st,env1,ps1,bd1,env',ps',bd',e,m'.st,hk,hl,hA,AT,hB,Ah,rfl,by rw[zaL];rfl,rfl⟩⟩
   ·exact K2.elim
end
end Rg
end
section
namespace Rg
open Go
def ztI (h:Nat->Option O) (n kL:Nat) (l:List Choice):Prop:= ∃v,h kL=some (.rows 1 [[v]] false)/\zaF h n v 3 (zbe l)
theorem zye {ky kL kT n t i:Nat} {h:Nat->Option O} {env:Nat->V} {l:List Choice} {e:Entry} (hk:h ky=some (.loop env [64,65] zk2 .ready)) (h9:env 9= .mp kL 0 0) (DL:env 10= .mp kT 0 0)
 (hT:h kT=some (.rows 1 [[vi t]] false)) (hL:ztI h n kL l) (EK:ky<n) (QW:kL<n) (QR:kT<n) (P8:ky≠kL) (P7:ky≠kT) (QY:kL≠kT) (Az:e.cells≠[]) (FZ:l.length<2^20):
 ∃h' n',DenY Γ G ky [vi i,.agg [.t (ints e.cells),.t (ints e.values)]] h n=some (vb true,h',n')/\h' ky=some (.loop env [64,65] zk2 .ready)/\h' kT=some (.rows 1 [[vi t]] false)/\ztI h' n' kL (l++[⟨t,-1,zcg e⟩])/\n<=n'/\
  (∀j,j<n->j≠ky->j≠kL->(∀sz rs fz,h j≠some (.rows sz rs fz))->h' j=h j):=by
 have:=zjy (Γ:=Γ) (G:=G) (vs:=[vi i,.agg [.t (ints e.cells),.t (ints e.values)]]) (n:=n) (P:=fun ex h' n'=>ex= .normal/\h' ky=some (.loop env [64,65] zk2 .busy)/\h' kT=some (.rows 1 [[vi t]] false)/\ztI h' n' kL (l++[⟨t,-1,zcg e⟩])/\n<=n'/\
  (∀j,j<n->j≠ky->j≠kL->(∀sz rs fz,h j≠some (.rows sz rs fz))->h' j=h j)) hk rfl (fun ex h' n' hP=>⟨_,_,_,hP.2.1⟩) (by
  obtain⟨v,hv,ho⟩:=hL;have n1:ky≠n+0:=by omega
  have n2:kL≠n+0:=by omega
  have n3:kT≠n+0:=by omega
  have n4:kL≠ky:=by omega
  have n5:kT≠ky:=by omega
  have CM:e.cells[0]? =some (zcg e):=by
   cases hc:e.cells with
   | nil=>exact absurd hc Az
   | cons a r=>simp[zcg,hc]
  have n6:n+0≠ky:=by omega
  have n7:n+0≠kL:=by omega
  have n8:n+0≠kT:=by omega
  have Bs:=ho.valOf
  have Ab: ∀(H:Nat->Option O) q,n<=q->(∀j,j<n->j≠ky->H j=h j)->zaF H q v 3 (zbe l):=fun H q hq hH=>by
   rcases ho with h1 | ⟨kv,h1,h2,h3⟩
   ·exact .inl h1
   ·refine .inr ⟨kv,h1,by omega,?_⟩;rw[hH kv h2 (by rintro rfl;rw[hk]at h3;simp at h3)];exact h3
  simp -dsimp only[go_sem,seval,h9,DL,hT,hv,n1,n2,n3,n4,n5,n6,n7,n8,CM,Bs]
  have AD: ∀(o1 o2 o3 o4 o5:Option O) (a b:Nat),rowsS (updC (updC (updC (updC (updC h ky o1) (n+0) o2) (n+0) o3) ky o4) (n+a+b) o5) v=some (zbe l):=fun o1 o2 o3 o4 o5 a b=>
   (Ab _ (n+a+b) (by omega) fun j hj I5=>by
     have u1:j≠n+0:=by omega
     have u2:j≠n+a+b:=by omega
     rw[zaa,if_neg u2,zaa,if_neg I5,zaa,if_neg u1,zaa,if_neg u1,zaa,if_neg I5]).rowsS
  simp -dsimp only[go_sem,seval,AD]
  refine zav (x:=n+2+8) (Ab _ _ (by omega) fun j hj I5=>by
   have u1:j≠n+0:=by omega
   have u2:j≠n+2+7:=by omega
   rw[zaa,if_neg u2,zaa,if_neg I5,zaa,if_neg u1,zaa,if_neg u1,zaa,if_neg I5]) (Nat.le_refl _) (by rw[zbX];omega) (by decide) rfl (zd0 _) ?_
  intro v2 hp hO Bn A8
  have AM: ∀j,(∀rs fz,h j≠some (.rows 3 rs fz))->j<n->zbg v j:=fun j hj Kq=>by
   rcases ho with⟨rfl,_⟩ | ⟨kv,rfl,h2,h3⟩
   ·intro i n h0;cases h0
   ·refine za3 ?_ _ _;rintro rfl;exact hj _ _ h3
  have O2:=hO;rcases hO with⟨_,CY⟩ | ⟨k2,rfl,HW,C4⟩
  ·simp at CY
  have FA:n+2+8<=k2:=by
   rcases Nat.lt_or_ge k2 (n+2+8)with h1 | h1
   ·exact absurd rfl (Bn k2 h1 0 _)
   ·exact h1
  have y0:=A8 ky (by omega) (AM ky (by rw[hk];simp) EK);have y1:=A8 kL (by omega) (AM kL (by rw[hv];simp) QW);have y2:=A8 kT (by omega) (AM kT (by rw[hT];simp) QR);have n9:kL≠n+2+7:=by omega
  have n10:ky≠n+2+7:=by omega
  have n11:kT≠n+2+7:=by omega
  simp only[zaa,n1,n2,n3,n4,n5,n9,n10,n11,if_false,if_true,hv,hT]at y0 y1 y2;simp -dsimp only[go_sem,seval,h9,y1];refine⟨rfl,?_,?_,⟨.ms k2 0 (zbe l++[[vi t,vi (-1),vi (zcg e)]]).length,?_,.inr ⟨k2,?_,?_,?_⟩⟩,?_,?_⟩
  ·simp -dsimp only[go_sem,seval,n4.symm,y0];rfl
  ·simp -dsimp only[go_sem,seval,QY.symm,y2]
  ·simp -dsimp only[go_sem,seval]
  ·rw[zcY]
  ·simp -dsimp only[go_sem,seval];omega
  ·have u1:k2≠kL:=by omega
   simp -dsimp only[go_sem,seval,u1];rw[C4,zcY]
  ·simp -dsimp only[go_sem,seval];omega
  ·intro j j1 j2 j3 j4;have u1:j≠n+0:=by omega
   have u2:j≠n+2+7:=by omega
   simp -dsimp only[go_sem,seval,j3]
   rw[A8 j (by omega) (AM j (fun rs fz=>j4 _ _ _) j1),zaa,if_neg u2,zaa,if_neg j2,zaa,if_neg u1,zaa,if_neg u1,zaa,if_neg j2])
 obtain⟨ex,h',n',⟨rfl,q1,q2,q3,q4,q5⟩,env',ps',bd',q6,q7⟩:=this;rw[q1]at q6;simp only[zA,O.loop.injEq]at q6;obtain⟨rfl,rfl,rfl,_⟩:=q6;refine⟨_,n',q7,by rw[zaa,if_pos rfl];rfl,by rw[zaa,if_neg P7.symm];exact q2,?_,q4,fun j j1 j2 j3 j4=>by rw[zaa,if_neg j2];exact q5 j j1 j2 j3 j4⟩;obtain⟨v,v1,v2⟩:=q3;refine⟨v,by rw[zaa,if_neg P8.symm];exact v1,?_⟩;rcases v2 with h1 | ⟨k2,h1,h2,h3⟩
 ·exact .inl h1
 ·exact .inr ⟨k2,h1,h2,by rw[zaa,if_neg (by rintro rfl;rw[q1]at h3;simp at h3)];exact h3⟩
theorem ztI.upd {h:Nat->Option O} {n kL ky:Nat} {l:List Choice} {env:Nat->V} {ps:List Nat} {bd:C} {st:LSt} (o:Option O) (a:ztI h n kL l) (hk:h ky=some (.loop env ps bd st)) (Az:ky≠kL):ztI (updC h ky o) n kL l:=by
 obtain⟨v,v1,v2⟩:=a;refine⟨v,by rw[zaa,if_neg Az.symm];exact v1,?_⟩;rcases v2 with h1 | ⟨k2,h1,h2,h3⟩
 ·exact .inl h1
 ·exact .inr ⟨k2,h1,h2,by rw[zaa,if_neg (by rintro rfl;rw[hk]at h3;simp at h3)];exact h3⟩
theorem zo1 {o:Option (V×(Nat->Option O)×Nat)} {k:Nat} {P:Ex->(Nat->Option O)->Nat->Prop} {Q:(Nat->Option O)->Nat->Prop} (h: ∃r h' n',o=some (r,h',n')/\Q h' n')
 (hQ: ∀h' n',Q h' n'-> ∃env ps bd st e,h' k=some (.loop env ps bd st)/\st.ends=some e/\P e h' n'): ∃r h' n',o=some (r,h',n')/\ ∃env ps bd st e,h' k=some (.loop env ps bd st)/\st.ends=some e/\P e h' n':=by
 obtain⟨r,h',n',h1,h2⟩:=h;exact⟨r,h',n',h1,hQ h' n' h2⟩
theorem zlK (p:Prog) (hs:p.sane) (hf:zak p=true) (k:Int) (hk:k=1\/k=2) (c:Config) (hc:IsB p c):Den Γ G 179 [(zP p),vi k,(.agg [.t (ints (c).mem),.t (ints (c).at_),.t (.sl ((c).buf.map (fun b=>[.sl (b.map Entry.enc)])))])]=some (.t (.sl ((zdt p k c).map Choice.enc))):=by
 obtain⟨⟨m1,m2,m3,m4⟩,l5⟩:=zal (zam hf).1;have l1:=hc.lm;have l2:=hc.la;have l3:=hc.lb;have Ga:=zpj p hs hf c hc k hk;have k0: ¬k=0:=by omega
 unfold stV at Ga
 (refine zag Γ179 rfl ?_;dsimp only[zIw])
 simp -dsimp only[go_sem,seval,k0,Ga];refine zaq 37797378607022281333760 c.at_.length (fun i f h x=>(f 33).v=vi i/\ztI h x 17 (zaU p k c i)/\18<=x) rfl ?_ ?_
 ·exact⟨by simp -dsimp only[go_sem,seval],⟨.t .nils,by simp -dsimp only[go_sem,seval],.inl ⟨rfl,rfl⟩⟩,by simp -dsimp only[go_sem,seval]⟩
 rintro i f u H z bs hi ⟨FL,hL,hz⟩;have hw:=zan i (by omega);simp -dsimp only[go_sem,seval,FL];refine zac (fun h=> ?_) (fun h=> ?_)<;>(try rw[h])<;>(try simp only[zah]at h)<;>(try simp -dsimp only[go_sem,seval,FL])
 ·obtain⟨x,hx,C1⟩:=zai (show i<p.threads.length by omega);have hv:=zoH p hf c hc i (by omega);obtain⟨_,AE,_⟩:=l5 x C1;simp -dsimp only[go_sem,seval,FL,hv,hx];refine zaq 2305772640469520384 x.steps.length (fun j f' h' x'=>(f' 46).v=vi j/\h' (z+1+1)=some (.rows 1 [[vi i]] false)/\ztI h' x' 17 (zaU p k c i++zcP p c i x j)/\z+3<=x') rfl ?_ ?_
  ·obtain⟨v,v1,v2⟩:=hL;have u1:17≠z+1+1:=by omega
   refine⟨by simp -dsimp only[go_sem,seval],by simp -dsimp only[go_sem,seval],⟨v,by simp -dsimp only[go_sem,seval,u1,v1],?_⟩,by simp -dsimp only[go_sem,seval];omega⟩;have e0:zcP p c i x 0=[]:=rfl;rw[e0,List.append_nil];rcases v2 with h1 | ⟨k2,h1,h2,h3⟩
   ·exact .inl h1
   ·have u2:k2≠z+1+1:=by omega
    exact .inr ⟨k2,h1,by simp -dsimp only[go_sem,seval];omega,by simp -dsimp only[go_sem,seval,u2,h3]⟩
  rintro j f' u' H' z' bs' hj ⟨K4,hT,Gg,Mk⟩;have Aw:=zan j (by omega);simp -dsimp only[go_sem,seval,K4];refine zac (fun h=> ?_) (fun h=> ?_)<;>(try rw[h])<;>(try simp only[zah]at h)<;>(try simp -dsimp only[go_sem,seval,K4,FL])
  ·obtain⟨s,F4,F3⟩:=zai ‹j<x.steps.length›;have Ch:=zh2 p hf k c hc i x hx j s F4;unfold stV at Ch;obtain⟨v,v1,v2⟩:=Gg;simp -dsimp only[go_sem,seval,K4,FL,hT,Ch,v1];refine zac (fun h=> ?_) (fun h=> ?_)<;>(try rw[h])<;>(try simp only[zah]at h)<;>(try simp -dsimp only[go_sem,seval,K4,FL,hT,v1])
   ·have Bs:=v2.valOf
    have FZ:(zaU p k c i++zcP p c i x j).length<2^20:=by
     have h1:=zc8 hf (k:=k) hc i;have h2:=zeG p c i x j;rw[zM];omega
    have A7:=zgr (p:=p) (c:=c) (t:=i) F4;rw[h,if_pos rfl]at A7
    have I1:zaF (updC H' (z'+1+2+5+4) (some (O.rows 3 [[V.t (T.int IntKind.i64 i),V.t (T.int IntKind.i64 j),V.t (T.int IntKind.i64 0)]] false))) (z'+1+2+5+5) v 3 (zbe (zaU p k c i++zcP p c i x j)):=by
     rcases v2 with h1 | ⟨k2,h1,h2,h3⟩
     ·exact .inl h1
     ·exact .inr ⟨k2,h1,by omega,by rw[zaa,if_neg (by omega)];exact h3⟩
    have AD:=I1.rowsS;simp -dsimp only[go_sem,seval,K4,FL,hT,v1,Bs,AD];refine zav I1 (Nat.le_refl _) (by rw[zbX];omega) (by decide) rfl (zd0 _) ?_;intro v3 hp hO Bn A8;rcases hO with⟨_,CY⟩ | ⟨k3,rfl,Q5,NI⟩
    ·simp at CY
    have Q4:z'+1+2+5+5<=k3:=by
     rcases Nat.lt_or_ge k3 (z'+1+2+5+5)with h1 | h1
     ·exact absurd rfl (Bn k3 h1 0 _)
     ·exact h1
    have AM: ∀q,(∀rs fz,H' q≠some (.rows 3 rs fz))->zbg v q:=fun q hq=>by
     rcases v2 with⟨rfl,_⟩ | ⟨kv,rfl,h2,h3⟩
     ·intro i n h0;cases h0
     ·refine za3 ?_ _ _;rintro rfl;exact hq _ _ h3
    have y1:=A8 17 (by omega) (AM 17 (by rw[v1];simp));have y2:=A8 (z+1+1) (by omega) (AM _ (by rw[hT];simp));rw[zaa,if_neg (by omega),v1]at y1;rw[zaa,if_neg (by omega),hT]at y2;have u1:z+1+1≠17:=by omega
    have u2:k3≠17:=by omega
    simp -dsimp only[go_sem,seval,K4,y1];refine⟨by omega,by simp -dsimp only[go_sem,seval,Aw],by simp -dsimp only[go_sem,seval,u1,y2],⟨.ms k3 0 (zbe (zaU p k c i++zcP p c i x j)++[[vi i,vi j,vi 0]]).length,by simp -dsimp only[go_sem,seval],.inr ⟨k3,?_,by simp -dsimp only[go_sem,seval];omega,?_⟩⟩,by simp -dsimp only[go_sem,seval];omega⟩
    ·rw[A7,<- zQ,zcY]
    ·simp -dsimp only[go_sem,seval,u2];rw[NI,A7,<- zQ,zcY]
   ·have A7:=zgr (p:=p) (c:=c) (t:=i) F4;rw[h]at A7;simp only[zG,if_false,List.append_nil]at A7;refine⟨by omega,by simp -dsimp only[go_sem,seval,Aw],by simp -dsimp only[go_sem,seval,hT],⟨v,by simp -dsimp only[go_sem,seval,v1],?_⟩,by simp -dsimp only[go_sem,seval];omega⟩;rw[A7];exact v2.le (by simp -dsimp only[go_sem,seval];omega)
  ·have H1:j=x.steps.length:=by omega
   subst H1;have Ao:=zph p k c i;unfold stV at Ao;simp -dsimp only[go_sem,seval,hT,FL,Ao]
   generalize hE:envC _=env
   have e9:env 9= .mp 17 0 0:=by rw[<- hE];simp -dsimp only[go_sem,seval]
   have e10:env 10= .mp (z+1+1) 0 0:=by rw[<- hE];simp -dsimp only[go_sem,seval]
   clear hE;have hb:=(hc.buf i _ (zb0 (c:=c) (t:=i) (by omega))).2.1
   have QX:(zaU p k c i++zcP p c i x x.steps.length).length<2^19:=by
    have h1:=zc8 hf (k:=k) hc i;have h2:=zeG p c i x x.steps.length;rw[zM];omega
   refine znN (P:=fun e h' n'=>e= .normal/\ztI (updC h' (z'+1+3) (some .dead)) n' 17 (zaU p k c (i+1))/\18<=n') ?_ ?_
   ·refine zo1 (zmN p hf k c hc i (by omega) (z'+1+3)
     (fun q h n=>h (z'+1+3)=some (.loop env [64,65] zk2 .ready)/\h (z+1+1)=some (.rows 1 [[vi i]] false)/\ztI h n 17 (zaU p k c i++zcP p c i x x.steps.length++zg7 k i (za1 c i) q)/\z'+1+4<=n)
     (fun _ _=>False) ?_ (fun _ _ _ h _=>h) ?_ _ _ ?_) ?_
    ·rintro q h n m ⟨a1,a2,⟨v,v1,v2⟩,a4⟩ GE;exact⟨a1,a2,⟨v,v1,v2.le GE⟩,by omega⟩
    ·rintro q e h n he ⟨a1,a2,a3,a4⟩;have A7:=zkV (k:=k) (t:=i) he;have RE:=(zH.1 he).1;have D4:=(hc.buf i _ (zb0 (c:=c) (t:=i) (by omega))).1;cases ho:zc2 k (za1 c i) q e
     ·rw[if_neg (by simp)];rw[ho,if_neg (by simp),List.append_nil]at A7;rw[A7];exact⟨a1,a2,a3,a4⟩
     ·rw[if_pos rfl];rw[ho,if_pos rfl]at A7;have RP:=zjw k i (za1 c i) q;obtain⟨h',n',b1,b2,b3,b4,b5,b6⟩:=zye (i:=q) (e:=e) a1 e9 e10 a2 a3 (by omega) (by omega) (by omega) (by omega) (by omega) (by omega) (hb e (zL he)).ne (by rw[zM];omega);refine⟨true,h',n',b1,?_⟩;rw[if_pos rfl,A7,<- zQ];exact⟨b2,b3,b4,by omega⟩
    ·obtain⟨v,v1,v2⟩:=Gg;have u1:z+1+1≠z'+1+3:=by omega
     have u2:17≠z'+1+3:=by omega
     refine⟨by rw[zaa,if_pos rfl],by rw[zaa,if_neg u1];exact hT,⟨v,by rw[zaa,if_neg u2];exact v1,?_⟩,by omega⟩;have e0:zg7 k i (za1 c i) 0=[]:=rfl;rw[e0,List.append_nil];rcases v2 with h1 | ⟨k2,h1,h2,h3⟩
     ·exact .inl h1
     ·exact .inr ⟨k2,h1,by omega,by rw[zaa,if_neg (by omega)];exact h3⟩
    ·rintro h' n' (hI | ⟨⟨⟩⟩);refine⟨env,[64,65],zk2,.ready,.normal,hI.1,rfl,rfl,?_,by omega⟩;rw[zez hx,<- zQ];exact hI.2.2.1.upd _ hI.1 (by omega)
   ·rintro e h' n' ⟨rfl,⟨v,v1,v2⟩,Fh⟩;simp -dsimp only[go_sem,seval,FL];refine⟨by omega,by simp -dsimp only[go_sem,seval,hw],⟨v,by simp -dsimp only[go_sem,seval,v1],?_⟩,by simp -dsimp only[go_sem,seval];omega⟩;exact v2.le (by simp -dsimp only[go_sem,seval];omega)
 ·have Cq:i=c.at_.length:=by omega
  subst Cq;obtain⟨v,v1,v2⟩:=hL;have Bs:=v2.valOf;have Bh:=v2.reify (zcN _);have v5:=v2.resVal;simp only[Rg.resVal]at v5;simp -dsimp only[go_sem,seval,v1,Bs,v5];rw[l2]at Bh;exact Bh
structure NxV (p:Prog) (k:Int) (c:Config) (t:Nat) (n:Int) (env:Nat->V) (ky k7 k8 k9 kS:Nat) (h:Nat->Option O) (x:Nat):Prop where
 e7:env 7= .mp k7 0 0
 e8:env 8= .mp k8 0 0
 e9:env 9= .mp k9 0 0
 e10:env 10= .mp kS 0 0
 hy:h ky=some (.loop env [57,58] zib .ready)
 h7:h k7=some (.rows 3 [[vi t,vi (-1),vi n]] false)
 h8:h k8=some (.rows 3 [[.t .nils,.t .nils,.t .nils]] false)
 h9:h k9=some (.rows 1 [[vi 0]] false)
 hS:h kS=some (.rows 8 [[.t (ints c.mem),.t (ints c.at_),.t (.sl (c.buf.map fun b=>[.sl (b.map Entry.enc)])),.t (.sl (p.cells.map Cell.enc)),.t (.sl (p.modules.map Contract.enc)),.t (.sl (p.locks.map Lock.enc)),.t (.sl (p.threads.map Thread.enc)),vi k]] false)
 ly:ky<x
 l7:k7<ky
 l8:k8<ky
 l9:k9<ky
 lS:kS<ky
 d78:k7≠k8
 d79:k7≠k9
 d7S:k7≠kS
 d89:k8≠k9
 d8S:k8≠kS
 d9S:k9≠kS
theorem zrJ {p:Prog} {k:Int} {c:Config} {t i:Nat} {n:Int} {env:Nat->V} {ky k7 k8 k9 kS:Nat} {h:Nat->Option O} {x:Nat} {e:Entry} (H:NxV p k c t n env ky k7 k8 k9 kS h x) (Az:e.cells≠[]) (hn:zcg e≠n):
 ∃h' n',DenY Γ G ky [vi i,.agg [.t (ints e.cells),.t (ints e.values)]] h x=some (vb true,h',n')/\NxV p k c t n env ky k7 k8 k9 kS h' n':=by
 have CM:e.cells[0]? =some (zcg e):=by
  cases hc:e.cells with
  | nil=>exact absurd hc Az
  | cons a r=>simp[zcg,hc]
 obtain⟨e7,e8,e9,e10,hy,h7,h8,h9,hS,ly,l7,l8,l9,lS,d78,d79,d7S,d89,d8S,d9S⟩:=H;have a1:k7≠x+1+0:=by omega
 have a2:k8≠x+1+0:=by omega
 have a3:k9≠x+1+0:=by omega
 have a4:kS≠x+1+0:=by omega
 have a5:ky≠x+1+0:=by omega
 have c1:x+1+0≠k7:=by omega
 have c2:x+1+0≠k8:=by omega
 have c3:x+1+0≠k9:=by omega
 have c4:x+1+0≠kS:=by omega
 have c5:x+1+0≠ky:=by omega
 have b1:k7≠ky:=by omega
 have b2:k8≠ky:=by omega
 have b3:k9≠ky:=by omega
 have b4:kS≠ky:=by omega
 have:=zjy (Γ:=Γ) (G:=G) (vs:=[vi i,.agg [.t (ints e.cells),.t (ints e.values)]]) (n:=x) (P:=fun ex h' n'=>ex= .normal/\h' ky=some (.loop env [57,58] zib .busy)/\x<=n'/\(∀j,j<ky->h' j=h j)) hy rfl (fun ex h' n' hP=>⟨_,_,_,hP.2.1⟩) (by
  simp -dsimp only[go_sem,seval,e7,h7,a1,a2,a3,a4,a5,b1,b2,b3,b4,c1,c2,c3,c4,c5,CM,hn];refine⟨rfl,by simp -dsimp only[go_sem,seval];rfl,by simp -dsimp only[go_sem,seval];omega,fun j hj=> ?_⟩;have u1:j≠ky:=by omega
  have u2:j≠x+1+0:=by omega
  simp -dsimp only[go_sem,seval,u1,u2])
 obtain⟨ex,h',n',⟨rfl,q1,q2,q3⟩,env',ps',bd',q6,q7⟩:=this;rw[q1]at q6;simp only[zA,O.loop.injEq]at q6;obtain⟨rfl,rfl,rfl,_⟩:=q6;have hj: ∀j o,j<ky->updC h' ky o j=h j:=fun j o hj=>by rw[zaa,if_neg (by omega)];exact q3 j hj
 exact⟨_,n',q7,e7,e8,e9,e10,by rw[zaa,if_pos rfl];rfl,by rw[hj _ _ l7];exact h7,by rw[hj _ _ l8];exact h8,by rw[hj _ _ l9];exact h9,by rw[hj _ _ lS];exact hS,by omega,l7,l8,l9,lS,d78,d79,d7S,d89,d8S,d9S⟩
theorem zqf {p:Prog} (hf:zak p=true) {k:Int} {c:Config} (hc:IsB p c) {t i:Nat} (ht:t<p.threads.length) {n:Int} {env:Nat->V} {ky k7 k8 k9 kS:Nat} {h:Nat->Option O} {x:Nat} {e:Entry} (H:NxV p k c t n env ky k7 k8 k9 kS h x)
 (he:(za1 c t)[i]? =some e) (Az:e.cells≠[]) (hn:zcg e=n):
 ∃h' n',DenY Γ G ky [vi i,.agg [.t (ints e.cells),.t (ints e.values)]] h x=some (vb false,h',n')/\h' ky=some (.loop env [57,58] zib (.done .ret))/\
  h' k8=some (.rows 3 [[.t (ints (za8 c t i).mem),.t (ints (za8 c t i).at_),.t (.sl ((za8 c t i).buf.map fun b=>[.sl (b.map Entry.enc)]))]] false)/\h' k9=some (.rows 1 [[vi 0]] false)/\ky<n':=by
 have CM:e.cells[0]? =some (zcg e):=by
  cases hc:e.cells with
  | nil=>exact absurd hc Az
  | cons a r=>simp[zcg,hc]
 have BI:=zqR p hf k c hc t ht i e he;unfold stV at BI;obtain⟨e7,e8,e9,e10,hy,h7,h8,h9,hS,ly,l7,l8,l9,lS,d78,d79,d7S,d89,d8S,d9S⟩:=H;have a1:k7≠x+1+0:=by omega
 have a2:k8≠x+1+0:=by omega
 have a3:k9≠x+1+0:=by omega
 have a4:kS≠x+1+0:=by omega
 have a5:ky≠x+1+0:=by omega
 have c1:x+1+0≠k7:=by omega
 have c2:x+1+0≠k8:=by omega
 have c3:x+1+0≠k9:=by omega
 have c4:x+1+0≠kS:=by omega
 have c5:x+1+0≠ky:=by omega
 have b1:k7≠ky:=by omega
 have b2:k8≠ky:=by omega
 have b3:k9≠ky:=by omega
 have b4:kS≠ky:=by omega
 have b6:ky≠k8:=by omega
 have b7:ky≠k9:=by omega
 have b8:k9≠k8:=by omega
 have:=zjy (Γ:=Γ) (G:=G) (vs:=[vi i,.agg [.t (ints e.cells),.t (ints e.values)]]) (n:=x) (P:=fun ex h' n'=>ex= .ret/\h' ky=some (.loop env [57,58] zib .busy)/\x<=n'/\
  h' k8=some (.rows 3 [[.t (ints (za8 c t i).mem),.t (ints (za8 c t i).at_),.t (.sl ((za8 c t i).buf.map fun b=>[.sl (b.map Entry.enc)]))]] false)/\h' k9=some (.rows 1 [[vi 0]] false)) hy rfl (fun ex h' n' hP=>⟨_,_,_,hP.2.1⟩) (by
  simp -dsimp only[go_sem,seval,e7,h7,a1,a2,a3,a4,a5,b1,b2,b3,b4,c1,c2,c3,c4,c5,CM,hn,e8,e9,e10,hS,BI,h8,h9,b6,b7,b8,d89]
  refine⟨rfl,by simp -dsimp only[go_sem,seval,b6,b7];rfl,by simp -dsimp only[go_sem,seval];omega,by simp -dsimp only[go_sem,seval,d89],by simp -dsimp only[go_sem,seval]⟩)
 obtain⟨ex,h',n',⟨rfl,q1,q2,q3,q4⟩,env',ps',bd',q6,q7⟩:=this;rw[q1]at q6;simp only[zA,O.loop.injEq]at q6;obtain⟨rfl,rfl,rfl,_⟩:=q6;exact⟨_,n',q7,by rw[zaa,if_pos rfl];rfl,by rw[zaa,if_neg b2];exact q3,by rw[zaa,if_neg b3];exact q4,by omega⟩
theorem zqo (p:Prog) (hs:p.sane) (hf:zak p=true) (k:Int) (hk:k=1\/k=2) (c:Config) (hc:IsB p c) (x:Choice):
 Den Γ G 180 [(zP p),vi k,(.agg [.t (ints (c).mem),.t (ints (c).at_),.t (.sl ((c).buf.map (fun b=>[.sl (b.map Entry.enc)])))]),(.agg [.t (ti (x).thread),.t (ti (x).step),.t (ti (x).cell)])]=some (.tup [(.agg [.t (ints ((zdL p k c x).1).mem),.t (ints ((zdL p k c x).1).at_),.t (.sl (((zdL p k c x).1).buf.map (fun b=>[.sl (b.map Entry.enc)])))]),vi (zdL p k c x).2]):=by
 obtain⟨⟨m1,m2,m3,m4⟩,l5⟩:=zal (zam hf).1;have l1:=hc.lm;have l2:=hc.la;have l3:=hc.lb;have Ga:=zpj p hs hf c hc k hk;have k0: ¬k=0:=by omega
 unfold stV at Ga
 (refine zag Γ180 rfl ?_;dsimp only[zIv])
 by_cases hr:x.thread<0\/(p.threads.length:Int)<=x.thread\/x.step< -1
 ·have hN:zdL p k c x=(zd9,110):=by rw[zdL,if_pos hr]
  rw[hN];simp only[zd9,List.map_nil]
  by_cases r1:x.thread<0
  ·simp -dsimp only[go_sem,seval,k0,Ga,r1];rfl
  ·by_cases r2:x.thread>=(p.threads.length:Int)
   ·simp -dsimp only[go_sem,seval,k0,Ga,r1,r2];rfl
   ·have r3:x.step< -1:=by omega
    simp -dsimp only[go_sem,seval,k0,Ga,r1,r2,r3];rfl
 ·have r1: ¬x.thread<0:=by omega
  have r2: ¬x.thread>=(p.threads.length:Int):=by omega
  have r3: ¬x.step< -1:=by omega
  by_cases hm:x.step= -1
  ·have et:((x.thread.toNat:Nat):Int)=x.thread:=by omega
   have Ao:=zph p k c x.thread.toNat;rw[et]at Ao;unfold stV at Ao;simp -dsimp only[go_sem,seval,k0,Ga,r1,r2,r3,hm,Ao]
   generalize hE:envC _=env
   have e7:=congrFun hE 7;have e8:=congrFun hE 8;have e9:=congrFun hE 9;have e10:=congrFun hE 10;clear hE;simp -dsimp only[go_sem,seval]at e7 e8 e9 e10;have ht:x.thread.toNat<p.threads.length:=by omega
   have EV:=(hc.buf x.thread.toNat _ (zb0 (c:=c) (t:=x.thread.toNat) (by omega))).2.1
   refine znN (P:=fun e h' n'=>(e= .normal/\zlF k (za1 c x.thread.toNat) x.cell=none/\h' 3=some (.rows 3 [[.t .nils,.t .nils,.t .nils]] false)/\h' 4=some (.rows 1 [[vi 0]] false))\/
    (e= .ret/\ ∃i,zlF k (za1 c x.thread.toNat) x.cell=some i/\
      h' 3=some (.rows 3 [[.t (ints (za8 c x.thread.toNat i).mem),.t (ints (za8 c x.thread.toNat i).at_),.t (.sl ((za8 c x.thread.toNat i).buf.map fun b=>[.sl (b.map Entry.enc)]))]] false)/\h' 4=some (.rows 1 [[vi 0]] false))) ?_ ?_
   ·rw[<- et]
    refine zo1 (zmN p hf k c hc x.thread.toNat ht 42
     (fun q h n=>NxV p k c x.thread.toNat x.cell env 42 2 3 4 14 h n/\ ∀j e,j<q->(za1 c x.thread.toNat)[j]? =some e-> ¬(zc2 k (za1 c x.thread.toNat) j e=true/\zcg e=x.cell))
     (fun h n=> ∃i,zlF k (za1 c x.thread.toNat) x.cell=some i/\h 42=some (.loop env [57,58] zib (.done .ret))/\
       h 3=some (.rows 3 [[.t (ints (za8 c x.thread.toNat i).mem),.t (ints (za8 c x.thread.toNat i).at_),.t (.sl ((za8 c x.thread.toNat i).buf.map fun b=>[.sl (b.map Entry.enc)]))]] false)/\h 4=some (.rows 1 [[vi 0]] false)) ?_ (fun _ _ _ h _=>h) ?_ _ _ ?_) ?_
    ·rintro q h n m ⟨a1,a2⟩ GE;exact⟨{ a1 with ly:=by have:=a1.ly;omega },a2⟩
    ·rintro q e h n he ⟨a1,a2⟩;have BH:=EV e (zL he);cases ho:zc2 k (za1 c x.thread.toNat) q e
     ·rw[if_neg (by simp)];refine⟨a1,fun j e' hj JC=> ?_⟩;rcases Nat.lt_or_ge j q with h1 | h1
      ·exact a2 j e' h1 JC
      ·have:j=q:=by omega
       subst this;rw[he]at JC;cases JC;rw[ho];simp
     ·rw[if_pos rfl]
      by_cases hh:zcg e=x.cell
      ·obtain⟨h',n',b1,b2,b3,b4,b5⟩:=zqf hf hc ht a1 he BH.ne hh;refine⟨false,h',n',b1,?_⟩;rw[if_neg (by simp)];exact⟨q,by rw[<- hh];exact zpA EV he ho,b2,b3,b4⟩
      ·obtain⟨h',n',b1,b2⟩:=zrJ (i:=q) a1 BH.ne hh;refine⟨true,h',n',b1,?_⟩;rw[if_pos rfl];refine⟨b2,fun j e' hj JC=> ?_⟩;rcases Nat.lt_or_ge j q with h1 | h1
       ·exact a2 j e' h1 JC
       ·have:j=q:=by omega
        subst this;rw[he]at JC;cases JC;exact fun h=>hh h.2
    ·refine⟨⟨e7.symm,e8.symm,e9.symm,e10.symm,by simp -dsimp only[go_sem,seval],by simp -dsimp only[go_sem,seval,et,hm],by simp -dsimp only[go_sem,seval],by simp -dsimp only[go_sem,seval],by simp -dsimp only[go_sem,seval],by omega,by omega,by omega,by omega,by omega,by omega,by omega,by omega,by omega,by omega,by omega⟩,fun j _ hj=>by omega⟩
    ·rintro h' n' (⟨a1,a2⟩ | ⟨i,b1,b2,b3,b4⟩)
     ·refine⟨env,[57,58],zib,.ready,.normal,a1.hy,rfl,.inl ⟨rfl,?_,a1.h8,a1.h9⟩⟩;unfold zlF;rw[List.find?_eq_none];intro j hj;rw[List.mem_range]at hj;rw[zI hj];intro h;simp only[zF,decide_eq_true_eq]at h;exact a2 j _ hj (zI hj) h
     ·exact⟨env,[57,58],zib,.done .ret,.ret,b2,rfl,.inr ⟨rfl,i,b1,b3,b4⟩⟩
   ·rintro e h' n' (⟨rfl,g1,g2,g3⟩ | ⟨rfl,i,g1,g2,g3⟩)
    ·have hN:zdL p k c x=(zd9,110):=by rw[zdL,if_neg hr,if_pos hm,g1]
     rw[hN];simp only[zd9,List.map_nil];simp -dsimp only[go_sem,seval,g2,g3];rfl
    ·have hN:zdL p k c x=(za8 c x.thread.toNat i,0):=by rw[zdL,if_neg hr,if_pos hm,g1]
     rw[hN];simp -dsimp only[go_sem,seval,g2,g3]
  ·have et:((x.thread.toNat:Nat):Int)=x.thread:=by omega
   have es:((x.step.toNat:Nat):Int)=x.step:=by omega
   have t0:0<=x.thread:=by omega
   have s0:0<=x.step:=by omega
   obtain⟨th,BG,PQ⟩:=zai (show x.thread.toNat<p.threads.length by omega);have hv:=zoH p hf c hc x.thread.toNat (by omega);rw[et]at hv
   by_cases c0:x.cell=0
   ·by_cases c1:x.step>=(th.steps.length:Int)
    ·have hN:zdL p k c x=(zd9,110):=by
      rw[zdL,if_neg hr,if_neg hm];have:zgf p x=none:=by simp[zgf,BG];omega
      rw[this]
     rw[hN];simp only[zd9,List.map_nil];simp -dsimp only[go_sem,seval,k0,Ga,r1,r2,r3,hm,hv,BG,t0,c0,c1];rfl
    ·obtain⟨s,Iu,F3⟩:=zai (show x.step.toNat<th.steps.length by omega);have Ff:zgf p x=some s:=by simp[zgf,BG,Iu]
     have Ch:=zh2 p hf k c hc x.thread.toNat th BG x.step.toNat s Iu;rw[et,es]at Ch;unfold stV at Ch;cases he:zaN p c x.thread.toNat s
     ·have hN:zdL p k c x=(zd9,110):=by
       rw[zdL,if_neg hr,if_neg hm,Ff];simp[he]
      rw[hN];rw[he]at Ch;simp only[zd9,List.map_nil];simp -dsimp only[go_sem,seval,k0,Ga,r1,r2,r3,hm,hv,BG,t0,c0,c1,Ch];rfl
     ·have hN:zdL p k c x=(zdN p c x.thread.toNat s,0):=by
       rw[zdL,if_neg hr,if_neg hm,Ff];simp[he,c0]
      rw[hN];rw[he]at Ch;have AP:=zsT p hf k c hc x.thread.toNat th BG x.step.toNat s Iu x (by cases x;simp_all);unfold stV at AP;simp -dsimp only[go_sem,seval,k0,Ga,r1,r2,r3,hm,hv,BG,t0,c0,c1,Ch];rw[c0]at AP;simp -dsimp only[go_sem,seval,AP]
   ·have hN:zdL p k c x=(zd9,110):=by
     rw[zdL,if_neg hr,if_neg hm];split
     ·simp[c0]
     ·rfl
    rw[hN];simp only[zd9,List.map_nil];simp -dsimp only[go_sem,seval,k0,Ga,r1,r2,r3,hm,hv,BG,t0,c0];rfl
end Rg
end
section
namespace Rg
open Go
end Rg
end
section
namespace Rg
open Go
def zdv (l:List Int):List (List V):=l.map fun n=>[.t (.int .u8 n)]
def zxR (l:List Int):ByteArray:=⟨(l.map fun n=>UInt8.ofNat n.toNat).toArray⟩
theorem zeJ (l:List Int):(zdv l).length=l.length:=by simp[zdv]
theorem zeK (l m:List Int):zdv (l++m)=zdv l++zdv m:=by simp[zdv]
theorem zeL (l:List Int):((zdv l).all fun r=>decide (r.length=1))=true:=by simp[zdv]
theorem zfd: ∀{l:List Int},(∀n∈l,0<=n/\n<256)->bytesOf (zdv l)=some (l.map fun n=>UInt8.ofNat n.toNat)
 | [],_=>rfl
 | n::l,h=>by
   have h1:=h n (by simp);rw[zdv,List.map_cons,bytesOf,if_pos h1,show(l.map fun n=>[V.t (.int .u8 n)])=zdv l from rfl,zfd fun m hm=>h m (by simp[hm])];rfl
theorem zoM {l m:List Int} (hl: ∀n∈l,0<=n/\n<256) (hm: ∀n∈m,0<=n/\n<256) (h:zxR l=zxR m):l=m:=by
 have h1:(l.map fun n=>UInt8.ofNat n.toNat)=m.map fun n=>UInt8.ofNat n.toNat:=by
  have:=congrArg ByteArray.data h;exact Array.toList_inj.2 this |>fun e=>by simpa[zxR]using e
 clear h
 induction l generalizing m with
 | nil=>cases m with
   | nil=>rfl
   | cons _ _=>simp at h1
 | cons a l ih=>
   cases m with
   | nil=>simp at h1
   | cons b m=>
     simp only[List.map_cons,List.cons.injEq]at h1;have ha:=hl a (by simp);have hb:=hm b (by simp)
     have e:a.toNat=b.toNat:=by
      have:=congrArg UInt8.toNat h1.1;simp only[UInt8.toNat_ofNat']at this;omega
     rw[ih (fun n hn=>hl n (by simp[hn])) (fun n hn=>hm n (by simp[hn])) h1.2]
     congr 1
     omega
def b2 (l:List Int):List Int:=l.flatMap fun n=>[n % 256,n/ 256 % 256]
theorem zum (e:Entry) (h:e.values.length=e.cells.length):(zun e).length=2*e.cells.length:=by
 have : ∀l:List (Int×Int),(l.flatMap fun q=>[q.1,q.2]).length=2*l.length:=by
  intro l
  induction l with
  | nil=>rfl
  | cons a l ih=>simp only[List.flatMap_cons,zM,List.length_cons,List.length_nil]at ih⊢;omega
 rw[zun,this,List.length_zip];omega
theorem zfD {α:Type} {f:α->List Int} {m:Nat}: ∀{l:List α},(∀x∈l,(f x).length<=m)->(l.flatMap f).length<=m*l.length
 | [],_=>by simp
 | x::l,h=>by
   have h1:=h x (by simp);have h2:=zfD (l:=l) fun y hy=>h y (by simp[hy])
   rw[List.flatMap_cons,zM,List.length_cons,Nat.mul_add];omega
theorem ziz {p:Prog} (hf:zak p=true) {c:Config} (hc:IsB p c) {b:List Entry} (hb:b∈c.buf):(∀e∈b,(zh0 e).length<=65)/\b.length<=3/\(zik b).length<=196:=by
 have h1: ∀e∈b,(zh0 e).length<=65:=fun e he=>by
  have hp:=hc.ent b hb e he;have:=zbd hp;have:=(zbQ hf).1;rw[zh0,List.length_cons,zum e hp.len];omega
 obtain⟨t,ht⟩:=List.getElem?_of_mem hb;have h3:=(hc.buf t b ht).1;have h2:=zfD h1;refine⟨h1,h3,?_⟩;rw[zik,List.length_cons];have:65*b.length<=65*3:=Nat.mul_le_mul_left _ h3;omega
def ziD (c:Config):ByteArray:=zxR (zpn 1 c)
theorem ztS {p:Prog} (hf:zak p=true) {c d:Config} (hc:IsB p c) (hd:IsB p d) (h:ziD c=ziD d):c=d:=by
 refine zpm hc hd (zoM (fun n hn=> ?_) (fun n hn=> ?_) h)
 ·have:=zdS hf (sh:=1) (by omega) hc n hn;omega
 ·have:=zdS hf (sh:=1) (by omega) hd n hn;omega
theorem zuD (p:Prog) (hf:zak p=true) (c:Config) (hc:IsB p c):Den Γ G 394 [(.agg [.t (ints (c).mem),.t (ints (c).at_),.t (.sl ((c).buf.map (fun b=>[.sl (b.map Entry.enc)])))])]=some (.t (.str (ziD c))):=by
 obtain⟨⟨m1,m2,m3,m4⟩,_⟩:=zal (zam hf).1;have By:=(zbQ hf).1;have l1:=hc.lm;have l2:=hc.la;have l3:=hc.lb;have Ck:zpn 1 c=c.mem++c.at_.map (· +1)++c.buf.flatMap zik:=rfl;have Jb: ∀n∈zpn 1 c,0<=n/\n<256:=fun n hn=>by have:=zdS hf (sh:=1) (by omega) hc n hn;omega
 have Hu: ∀n,0<=n/\n<256->IntKind.u8.wrap n=n:=fun n h=>by show n % 256=n;omega
 have r1: ∀n∈c.mem,0<=n/\n<256:=fun n hn=>Jb n (by rw[Ck];simp[hn])
 have r2: ∀n∈c.at_,0<=n+1/\n+1<256:=fun n hn=>Jb (n+1) (by rw[Ck];simp only[List.mem_append,List.mem_map];exact .inl (.inr ⟨n,hn,rfl⟩))
 have r3: ∀b∈c.buf,∀n∈zik b,0<=n/\n<256:=fun b hb n hn=>Jb n (by rw[Ck];simp only[List.mem_append,List.mem_flatMap];exact .inr ⟨b,hb,hn⟩)
 (refine zag Γ394 rfl ?_;dsimp only[zzP])
 simp -dsimp only[go_sem,seval];refine zaq 134086696 c.mem.length (fun i f h x=>(f 17).v=vi i/\zaF h x (f 3).v 1 (zdv (c.mem.take i))) rfl ⟨by simp -dsimp only[go_sem,seval],.inl ⟨by simp -dsimp only[go_sem,seval],rfl⟩⟩ ?_
 ·rintro i f u H x bs hi ⟨h4,Ab⟩;have hw:=zan i (by omega);have v1:=Ab.valOf;have v3:=Ab.r3
  by_cases Ad:i<c.mem.length
  ·have Af:=eq_true Ad;obtain⟨n,hn,GE⟩:=zai Ad;have Lf:=Hu n (r1 n GE);simp -dsimp only[go_sem,seval,h4,Af,hn,v1,v3,Lf];refine zav (Ab.upd (by omega) _) (by omega) (by rw[zeJ,List.length_take];omega) (by decide) rfl (zeL _) ?_;intro v hp hO _ _;have w1:=hO.valOf;simp -dsimp only[go_sem,seval,w1,h4];refine⟨by omega,by simp -dsimp only[go_sem,seval,hw],?_⟩;simp -dsimp only[go_sem,seval];rw[zaf hn,zeK];exact hO.le (by omega)
  ·have Af:=eq_false Ad;have:i=c.mem.length:=by omega
   subst this;rw[List.take_length]at Ab;simp -dsimp only[go_sem,seval,h4,Af];refine zaq 2197949513864 c.at_.length (fun i f h x=>(f 30).v=vi i/\zaF h x (f 3).v 1 (zdv (c.mem++(c.at_.take i).map (· +1)))) rfl ⟨by simp -dsimp only[go_sem,seval],by simp -dsimp only[go_sem,seval,List.take_zero,List.map_nil,List.append_nil];exact Ab.le (by omega)⟩ ?_;clear Ab v1 v3;rintro i f u H x bs hi ⟨h5,Ab⟩;have hw:=zan i (by omega);have v1:=Ab.valOf;have v3:=Ab.r3
   by_cases Ad:i<c.at_.length
   ·have Af:=eq_true Ad;obtain⟨n,hn,GE⟩:=zai Ad;have Lf:=Hu _ (r2 n GE);have Qo:IntKind.i64.wrap (n+1)=n+1:=zaH (by have:=r2 n GE;omega);simp -dsimp only[go_sem,seval,h5,Af,hn,v1,v3,Qo,Lf];refine zav (Ab.upd (by omega) _) (by omega) (by rw[zeJ,zM,List.length_map,List.length_take];omega) (by decide) rfl (zeL _) ?_;intro v hp hO _ _;have w1:=hO.valOf;simp -dsimp only[go_sem,seval,w1,h5];refine⟨by omega,by simp -dsimp only[go_sem,seval,hw],?_⟩;simp -dsimp only[go_sem,seval];rw[zaf hn,List.map_append,<- zQ,zeK];exact hO.le (by omega)
   ·have Af:=eq_false Ad;have:i=c.at_.length:=by omega
    subst this;rw[List.take_length]at Ab;simp -dsimp only[go_sem,seval,h5,Af]
    have O4: ∀t,t<=c.buf.length->((c.mem++c.at_.map (· +1))++(c.buf.take t).flatMap zik).length<=100+196*t:=fun t ht=>by
     have:=zfD (l:=c.buf.take t) fun b hb=>(ziz hf hc (List.mem_of_mem_take hb)).2.2
     rw[List.length_take]at this;rw[zM,zM,List.length_map];have:196*min t c.buf.length=196*t:=by rw[Nat.min_eq_left ht]
     omega
    refine zaq 618970019642672545263532552 c.buf.length (fun i f h x=>(f 44).v=vi i/\zaF h x (f 3).v 1 (zdv ((c.mem++c.at_.map (· +1))++(c.buf.take i).flatMap zik))) rfl ⟨by simp -dsimp only[go_sem,seval],by simp -dsimp only[go_sem,seval,List.take_zero,List.flatMap_nil,List.append_nil];exact Ab.le (by omega)⟩ ?_;clear Ab v1 v3;rintro t f u H x bs ht ⟨h6,Ab⟩;have hw:=zan t (by omega);have v1:=Ab.valOf;have v3:=Ab.r3;have O3:=O4 t ht
    by_cases Ad:t<c.buf.length
    ·have Af:=eq_true Ad;obtain⟨b,hb,EW⟩:=zai Ad;obtain⟨e1,e2,e3⟩:=ziz hf hc EW;have BH:=hc.ent b EW;have rb:=r3 b EW;have QN:=Hu _ (rb b.length (by simp[zik]))
     generalize hL:(c.mem++c.at_.map (· +1))++(c.buf.take t).flatMap zik=L at *
     simp -dsimp only[go_sem,seval,h6,Af,hb,v1,v3,QN];refine zav (Ab.upd (by omega) _) (by omega) (by rw[zeJ];omega) (by decide) rfl (zeL _) ?_;intro v hp hO _ _;rw[<- show zdv [(b.length:Int)]=[[.t (.int .u8 (b.length:Int))]]from rfl,<- zeK]at hO;have w1:=hO.valOf;simp -dsimp only[go_sem,seval,w1,h6];refine zaq 309485009749287474686867464 b.length (fun i f h x=>(f 56).v=vi i/\zaF h x (f 3).v 1 (zdv ((L++[(b.length:Int)])++(b.take i).flatMap zh0))) rfl ⟨by simp -dsimp only[go_sem,seval],by simp -dsimp only[go_sem,seval,List.take_zero,List.flatMap_nil,List.append_nil];exact hO.le (by omega)⟩ ?_;clear hO w1;rintro i f3 u3 H3 x3 bs3 C8 ⟨h7,hO⟩;have Gl:=zan i (by omega);have w1:=hO.valOf;have w3:=hO.r3
     have IF:((L++[(b.length:Int)])++(b.take i).flatMap zh0).length<=101+196*t+65*i:=by
      have:=zfD (l:=b.take i) fun e he=>e1 e (List.mem_of_mem_take he)
      rw[List.length_take]at this;rw[zM,zM,List.length_singleton];have:65*min i b.length=65*i:=by rw[Nat.min_eq_left C8]
      omega
     by_cases EJ:i<b.length
     ·have CT:=eq_true EJ;obtain⟨e,he,Cn⟩:=zai EJ;have CC:=BH e Cn;have BL:=zbd CC;have E6:=CC.len;have re: ∀n∈zh0 e,0<=n/\n<256:=fun n hn=>rb n (by simp only[zik,List.mem_cons,List.mem_flatMap];exact .inr ⟨e,Cn,hn⟩)
      have QE:=Hu _ (re e.cells.length (by simp[zh0]))
      generalize O7:(L++[(b.length:Int)])++(b.take i).flatMap zh0=L2 at *
      simp -dsimp only[go_sem,seval,h7,CT,he,Entry.enc,w1,w3,QE];refine zav (hO.upd (by omega) _) (by omega) (by rw[zeJ];omega) (by decide) rfl (zeL _) ?_;intro v hp Cz _ _;rw[<- show zdv [(e.cells.length:Int)]=[[.t (.int .u8 (e.cells.length:Int))]]from rfl,<- zeK]at Cz;have w2:=Cz.valOf;simp -dsimp only[go_sem,seval,w2,h7];refine zaq 154741324319051816951099400 e.cells.length (fun j f h x=>(f 70).v=vi j/\zaF h x (f 3).v 1 (zdv ((L2++[(e.cells.length:Int)])++((e.cells.zip e.values).take j).flatMap fun q=>[q.1,q.2]))) rfl ⟨by simp -dsimp only[go_sem,seval],by simp -dsimp only[go_sem,seval,List.take_zero,List.flatMap_nil,List.append_nil];exact Cz.le (by omega)⟩ ?_;clear Cz w2;rintro j f4 u4 H4 x4 bs4 hj ⟨h9,Cz⟩;have Kd:=zan j (by omega);have w2:=Cz.valOf;have w4:=Cz.r3
      have O5:((L2++[(e.cells.length:Int)])++((e.cells.zip e.values).take j).flatMap fun q=>[q.1,q.2]).length<=102+196*t+65*i+2*j:=by
       have:=zfD (f:=fun q:Int×Int=>[q.1,q.2]) (m:=2) (l:=(e.cells.zip e.values).take j) fun q _=>by simp
       rw[List.length_take,List.length_zip]at this;rw[zM,zM,List.length_singleton];omega
      by_cases EH:j<e.cells.length
      ·have CS:=eq_true EH;obtain⟨n,hn,_⟩:=zai EH;obtain⟨v,hv,_⟩:=zai (show j<e.values.length by omega);have hz:(e.cells.zip e.values)[j]? =some (n,v):=List.getElem?_zip_eq_some.2 ⟨hn,hv⟩;have Mj:=zL hz;have Lf:=Hu _ (re n (by simp only[zh0,zun,List.mem_cons,List.mem_flatMap];exact .inr ⟨_,Mj,by simp⟩));have PK:=Hu _ (re v (by simp only[zh0,zun,List.mem_cons,List.mem_flatMap];exact .inr ⟨_,Mj,by simp⟩))
       generalize O6:((L2++[(e.cells.length:Int)])++((e.cells.zip e.values).take j).flatMap fun q=>[q.1,q.2])=L3 at *
       simp -dsimp only[go_sem,seval,h9,CS,hn,hv,w2,w4,Lf,PK];refine zpb (Cz.upd (by omega) _) (by omega) (by rw[zeJ];simp;omega) (by decide) rfl (zeL _) ?_;intro v2 hp Gf _ _;rw[<- show zdv [n,v]=[[.t (.int .u8 n)],[.t (.int .u8 v)]]from rfl,<- zeK]at Gf;have w5:=Gf.valOf;simp -dsimp only[go_sem,seval,h9,w5];refine⟨by omega,by simp -dsimp only[go_sem,seval,Kd],?_⟩;simp -dsimp only[go_sem,seval];rw[zaf hz,List.flatMap_append,<- zQ,O6];exact Gf.le (by omega)
      ·have CS:=eq_false EH;have:j=e.cells.length:=by omega
       subst this;simp -dsimp only[go_sem,seval,h9,CS,h7];refine⟨by omega,by simp -dsimp only[go_sem,seval,Gl],?_⟩;simp -dsimp only[go_sem,seval];rw[zaf he,List.flatMap_append,<- zQ,O7,show [e].flatMap zh0=[(e.cells.length:Int)]++(e.cells.zip e.values).flatMap (fun q=>[q.1,q.2])by simp[zh0,zun]];rw[List.take_of_length_le (by rw[List.length_zip];omega),zQ]at Cz;refine Cz.le ?_;omega
     ·have CT:=eq_false EJ;have:i=b.length:=by omega
      subst this;rw[List.take_length]at hO;simp -dsimp only[go_sem,seval,h7,h6,CT];refine⟨by omega,by simp -dsimp only[go_sem,seval,hw],?_⟩;simp -dsimp only[go_sem,seval];rw[zaf hb,List.flatMap_append,<- zQ,hL,show [b].flatMap zik=[(b.length:Int)]++b.flatMap zh0 by simp[zik]];rw[zQ]at hO;refine hO.le ?_;omega
    ·have Af:=eq_false Ad;have:t=c.buf.length:=by omega
     subst this;rw[List.take_length,<- Ck]at Ab;have AD:=Ab.rowsS;have ET:=zfd Jb;simp -dsimp only[go_sem,seval,h6,Af,v1,AD,ET];rfl
end Rg
end
section
namespace Rg
open Go
end Rg
end
section
namespace Rg
open Go
end Rg
end
section
namespace Rg
open Go
end Rg
end
section
namespace Rg
open Go
section
end
end Rg
end
section
namespace Rg
open Go
def mapL {α:Type} (kf:α->ByteArray) (vf:α->V) (l:List α):List (T×V):=l.map fun a=>(T.str (kf a),vf a)
theorem zi7 {α:Type} (kf:α->ByteArray) (vf:α->V) (l:List α) (a:α):mapL kf vf (l++[a])=mapL kf vf l++[(T.str (kf a),vf a)]:=by simp[mapL]
theorem zuX {α:Type} (kf:α->ByteArray) (vf:α->V) (b:ByteArray): ∀l:List α,zbo (.str b) (mapL kf vf l)=some ((l.find? fun a=>b==kf a).map vf)
 | []=>rfl
 | a::l=>by
   rw[mapL,List.map_cons,zbo,zeu,List.find?_cons];cases h:(b==kf a)
   ·simp only[];exact zuX kf vf b l
   ·rfl
theorem zzI {α:Type} (kf:α->ByteArray) (vf:α->V) (b:ByteArray) (v:V): ∀l:List α,(∀a∈l,(b==kf a)=false)->zbF (.str b) v (mapL kf vf l)=some (mapL kf vf l++[(.str b,v)])
 | [],_=>rfl
 | a::l,h=>by
   rw[mapL,List.map_cons,zbF,zeu,h a (by simp)];simp only[];rw[show(l.map fun a=>(T.str (kf a),vf a))=mapL kf vf l from rfl,zzI kf vf b v l fun x hx=>h x (by simp[hx])];rfl
theorem zkf {a b:ByteArray}:(a==b)=true<->a=b:=by
 rw[zjF];constructor
 ·intro h;have:=(beq_iff_eq).1 h;rw[ByteArray.toList_eq,ByteArray.toList_eq]at this;have h2:a.data=b.data:=Array.toList_inj.1 this;cases a;cases b;simp_all
 ·rintro rfl;simp
theorem znL {p:Prog} (hf:zak p=true) {l:List Vis} (hl: ∀v∈l,IsB p v.c) {c:Config} (hc:IsB p c):(l.find? fun a=>ziD c==ziD a.c).isSome=zf9 l c:=by
 cases h:zf9 l c
 ·rw[Option.isSome_eq_false_iff,Option.isNone_iff_eq_none,List.find?_eq_none];intro v hv he;have:=ztS hf hc (hl v hv) (zkf.1 he);have hs:zf9 l c=true:=zeH.2 ⟨v,hv,this.symm⟩;rw[h]at hs;cases hs
 ·obtain⟨v,hv,rfl⟩:=zeH.1 h;rw[List.find?_isSome];exact⟨v,hv,zkf.2 rfl⟩
def zdg (l:List Vis):List (List V):=(l.map fun v=>Config.enc v.c).map (·.map V.t)
theorem zbD (l:List Vis):(zdg l).length=l.length:=by simp[zdg]
theorem zko (l:List Vis) (v:Vis):zdg (l++[v])=zdg l++[(Config.enc v.c).map V.t]:=by simp[zdg]
theorem zmr (l:List Vis):((zdg l).all fun r=>decide (r.length=3))=true:=by simp[zdg,Config.enc]
theorem zaF.offAt {h:Nat->Option O} {x:Nat} {v:V} {sz:Nat} {rows:List (List V)} (o:zaF h x v sz rows) {k:Nat} (hk: ∀rs,h k≠some (.rows sz rs false)):zbg v k:=by
 rcases o with⟨rfl,_⟩ | ⟨q,rfl,_,hq⟩
 ·intro i n h;cases h
 ·exact za3 (fun e=>hk _ (e▸hq)) _ _
end Rg
end
section
namespace Rg
open Go
def zue (c:Config):List V:=[.t (ints c.mem),.t (ints c.at_),.t (.sl (c.buf.map fun b=>[.sl (b.map Entry.enc)]))]
theorem zwo (c:Config):(Config.enc c).map V.t=zue c:=rfl
theorem zcV {h:Nat->Option O} {a b:Nat} {o1 o2:Option O} (h1:h a=o1) (h2:h b=o2) (Az:o1≠o2):a≠b:=by
 rintro rfl;exact Az (h1.symm.trans h2)
theorem zq2 {H:Nat->Option O} {n kL:Nat} {vL:V} {l:List Vis} (d:Vis) (hk:H kL=some (.rows 1 [[vL]] false)) (ho:zaF H n vL 3 (zdg l)) (hn:kL<n) (hl:l.length<2^30):
 ∃r h' n',DenR Γ G 376 [.agg (zue d.c),.mp kL 0 0] H n=some (r,h',n')/\(r=vb false/\ ∃vL',h' kL=some (.rows 1 [[vL']] false)/\zaF h' n' vL' 3 (zdg (l++[d]))/\n<=n'/\(∀j,j<n->zbg vL' j)/\(∀j,j<n->j≠kL->zbg vL j->h' j=H j)):=by
 unfold zue
 (refine zay Γ376 rfl ?_;dsimp only[zz5])
 have v1:=ho.valOf;have v2:=ho.r2;have n1:kL≠n+2+2:=by omega
 simp -dsimp only[go_sem,seval,hk,v1,v2];refine zav (ho.upd (by omega) _) (by omega) (by rw[zbD];omega) (by decide) rfl (zmr _) ?_;intro v hp hO Bn A8;have w1:=hO.valOf;have w2:=hO.cellsV;unfold V.cells at w2;have Ql:zbg vL kL:=ho.offAt fun rs h=>by rw[hk]at h;cases h
 have y1:=A8 kL (by omega) Ql;rw[zaa,if_neg n1,hk]at y1;simp -dsimp only[go_sem,seval,w1,w2,y1];refine⟨rfl,v,by simp -dsimp only[go_sem,seval],?_,by simp -dsimp only[go_sem,seval];omega,fun j hj=>Bn j (by omega),fun j hj Lv FB=> ?_⟩
 ·rw[zko,zwo];refine zaF.keep (h:=At (updC H (n+2+2) (some (O.rows 3 [zue d.c] false))) hp) hO (by simp -dsimp only[go_sem,seval];omega) fun q q1 q2=> ?_
  have:q≠kL:=by
   rintro rfl;exact q2 (Bn q (by omega))
  simp -dsimp only[go_sem,seval,this];rfl
 ·simp -dsimp only[go_sem,seval,Lv];rw[A8 j (by omega) FB,zaa,if_neg (by omega)]
def zxt (v:Vis):List V:=zue v.c++[vi v.fr,vi v.x.thread,vi v.x.step,vi v.x.cell]
def zgS (l:List Vis):List (List V):=l.map zxt
theorem zoZ {l:List Vis} {i:Nat} {v:Vis} (h:l[i]? =some v):(zgS l)[i]? =some [.t (ints v.c.mem),.t (ints v.c.at_),.t (.sl (v.c.buf.map fun b=>[.sl (b.map Entry.enc)])),vi v.fr,vi v.x.thread,vi v.x.step,vi v.x.cell]:=by simp[zgS,zxt,zue,h]
theorem zcZ (l:List Vis):(zgS l).length=l.length:=by simp[zgS]
theorem zrI (l:List Vis):((zgS l).all fun r=>decide (r.length=7))=true:=by simp[zgS,zxt,zue]
theorem zyd {h:Nat->Option O} {n ky k3 k4 k5 kS kL kV i lim:Nat} {env:Nat->V} {x1 x2 x3 x4 x5 vL:V} {l lst:List Vis} {d:Vis} (hk:h ky=some (.loop env [11] zfh .ready)) (e3:env 3= .mp k3 0 0) (e4:env 4= .mp k4 0 0) (e5:env 5= .mp k5 0 0)
 (h3:h k3=some (.rows 1 [[.mp kS 0 0]] false)) (h4:h k4=some (.rows 1 [[vi lim]] false)) (h5:h k5=some (.rows 1 [[.fn 376 [] [.mp kL 0 0]]] false)) (hS:h kS=some (.rows 6 [[x1,x2,x3,x4,x5,.ms kV 0 l.length]] false))
 (hV:h kV=some (.rows 7 (zgS l) false)) (hd:l[i]? =some d) (hL:h kL=some (.rows 1 [[vL]] false)) (oL:zaF h n vL 3 (zdg lst)) (FZ:lst.length<2^30)
 (by_:ky<n) (b3:k3<n) (b4:k4<n) (b5:k5<n) (bS:kS<n) (bV:kV<n) (bL:kL<n) (hi:(i:Int)≠lim):
 ∃h' n',DenY Γ G ky [vi i] h n=some (vb true,h',n')/\h' ky=some (.loop env [11] zfh .ready)/\(∃vL',h' kL=some (.rows 1 [[vL']] false)/\zaF h' n' vL' 3 (zdg (lst++[d]))/\(∀j,j<n->zbg vL' j))/\n<=n'/\
  (∀j,j<n->j≠ky->j≠kL->zbg vL j->h' j=h j):=by
 have:=zjy (Γ:=Γ) (G:=G) (vs:=[vi i]) (n:=n) (P:=fun ex h' n'=>ex= .normal/\h' ky=some (.loop env [11] zfh .busy)/\(∃vL',h' kL=some (.rows 1 [[vL']] false)/\zaF h' n' vL' 3 (zdg (lst++[d]))/\(∀j,j<n->zbg vL' j))/\n<=n'/\
  (∀j,j<n->j≠ky->j≠kL->zbg vL j->h' j=h j)) hk rfl (fun ex h' n' hP=>⟨_,_,_,hP.2.1⟩) (by
  have n3:k3≠ky:=zcV h3 hk (by simp);have n4:k4≠ky:=zcV h4 hk (by simp);have n5:k5≠ky:=zcV h5 hk (by simp);have nS:kS≠ky:=zcV hS hk (by simp);have nV:kV≠ky:=zcV hV hk (by simp);have nL:kL≠ky:=zcV hL hk (by simp);have Ap:=zoZ hd;have AV:=(zH.1 hd).1;have i0:(0:Int)<=(i:Int):=by omega
  have i1:(i:Int)<(l.length:Int):=by omega
  simp -dsimp only[go_sem,seval,e3,e4,e5,h3,h4,h5,hS,hV,n3,n4,n5,nS,nV,nL,hi,Ap,i0,i1,zcZ];have OZ:zbg vL ky:=oL.offAt fun rs h=>by rw[hk]at h;cases h
  refine zas (zq2 d (l:=lst) (vL:=vL) (by rw[zaa,if_neg nL,zaa,if_neg nL];exact hL) (oL.keep (by omega) fun q q1 q2=>by
   have:q≠ky:=by rintro rfl;exact q2 OZ
   rw[zaa,if_neg this,zaa,if_neg this]) (by omega) FZ) ?_
  rintro r h' n' ⟨rfl,vL',a1,a2,a3,a4,a5⟩;have ay:=a5 ky (by omega) (Ne.symm nL) OZ;rw[zaa,if_pos rfl]at ay;simp -dsimp only[go_sem,seval];refine⟨rfl,ay,⟨vL',a1,a2,fun j hj=>a4 j (by omega)⟩,by omega,fun j j1 j2 j3 j4=> ?_⟩
  rw[a5 j (by omega) j3 j4,zaa,if_neg j2,zaa,if_neg j2])
 obtain⟨ex,h',n',⟨rfl,q1,⟨vL',q2,q3,q3'⟩,q4,q5⟩,env',ps',bd',q6,q7⟩:=this;rw[q1]at q6;simp only[zA,O.loop.injEq]at q6;obtain⟨rfl,rfl,rfl,_⟩:=q6;have nL:kL≠ky:=zcV hL hk (by simp);refine⟨_,n',q7,by rw[zaa,if_pos rfl];rfl,⟨vL',by rw[zaa,if_neg nL];exact q2,?_,q3'⟩,q4,fun j j1 j2 j3 j4=>by rw[zaa,if_neg j2];exact q5 j j1 j2 j3 j4⟩
 exact q3.keep (Nat.le_refl _) fun q r1 r2=>by
  have:q≠ky:=by rintro rfl;exact r2 (q3.offAt fun rs h=>by rw[q1]at h;cases h)
  rw[zaa,if_neg this]
theorem zyc {h:Nat->Option O} {n ky k4 k6 k7 i:Nat} {env:Nat->V} {z6 z7:Int} (hk:h ky=some (.loop env [11] zfh .ready)) (e4:env 4= .mp k4 0 0) (e6:env 6= .mp k6 0 0) (e7:env 7= .mp k7 0 0)
 (h4:h k4=some (.rows 1 [[vi i]] false)) (h6:h k6=some (.rows 1 [[vi z6]] false)) (h7:h k7=some (.rows 1 [[vi z7]] false)) (IJ:k6≠k7):
 ∃h' n',DenY Γ G ky [vi i] h n=some (vb false,h',n')/\h' ky=some (.loop env [11] zfh (.done .ret))/\h' k6=some (.rows 1 [[vi 0]] false)/\h' k7=some (.rows 1 [[vi 2]] false)/\n<=n':=by
 have:=zjy (Γ:=Γ) (G:=G) (vs:=[vi i]) (n:=n) (P:=fun ex h' n'=>ex= .ret/\h' ky=some (.loop env [11] zfh .busy)/\h' k6=some (.rows 1 [[vi 0]] false)/\h' k7=some (.rows 1 [[vi 2]] false)/\n<=n') hk rfl (fun ex h' n' hP=>⟨_,_,_,hP.2.1⟩) (by
  have n4:k4≠ky:=zcV h4 hk (by simp);have n6:k6≠ky:=zcV h6 hk (by simp);have n7:k7≠ky:=zcV h7 hk (by simp);simp -dsimp only[go_sem,seval,e4,e6,e7,h4,h6,h7,n4,n6,n7,IJ,IJ.symm]
  refine⟨rfl,by simp -dsimp only[go_sem,seval,Ne.symm n6,Ne.symm n7];rfl,by simp -dsimp only[go_sem,seval,IJ],by simp -dsimp only[go_sem,seval],by simp -dsimp only[go_sem,seval];omega⟩)
 obtain⟨ex,h',n',⟨rfl,q1,q2,q3,q4⟩,env',ps',bd',q6,q7⟩:=this;rw[q1]at q6;simp only[zA,O.loop.injEq]at q6;obtain⟨rfl,rfl,rfl,_⟩:=q6;have n6:k6≠ky:=zcV h6 hk (by simp);have n7:k7≠ky:=zcV h7 hk (by simp);exact⟨_,n',q7,by rw[zaa,if_pos rfl];rfl,by rw[zaa,if_neg n6];exact q2,by rw[zaa,if_neg n7];exact q3,q4⟩
end Rg
end
section
namespace Rg
open Go
structure RK where
 ky:Nat
 k3:Nat
 k4:Nat
 k5:Nat
 k6:Nat
 k7:Nat
 kL:Nat
 kS:Nat
 kSV:Nat
 kY:Nat
 kSe:Nat
 kM:Nat
structure RI (K:RK) (p:Prog) (k:Int) (lim:Nat) (env:Nat->V) (h:Nat->Option O) (x:Nat) (l lst:List Vis) (vV vL:V):Prop where
 hk:h K.ky=some (.loop env [11] zfh .ready)
 e3:env 3= .mp K.k3 0 0
 e4:env 4= .mp K.k4 0 0
 e5:env 5= .mp K.k5 0 0
 e6:env 6= .mp K.k6 0 0
 e7:env 7= .mp K.k7 0 0
 h3:h K.k3=some (.rows 1 [[.mp K.kS 0 0]] false)
 h4:h K.k4=some (.rows 1 [[vi lim]] false)
 h5:h K.k5=some (.rows 1 [[.fn 376 [] [.mp K.kL 0 0]]] false)
 h6:h K.k6=some (.rows 1 [[vi 0]] false)
 h7:h K.k7=some (.rows 1 [[vi 0]] false)
 n67:K.k6≠K.k7
 hSV:h K.kSV=some (.rows 1 [[.mp K.kS 0 0]] false)
 hY:h K.kY=some (.rows 1 [[.yl K.ky]] false)
 hSe:h K.kSe=some (.rows 1 [[.mm K.kM]] false)
 hM:h K.kM=some (.map (mapL (fun v:Vis=>ziD v.c) (fun _=>vb true) l))
 hS:h K.kS=some (.rows 6 [[.t (.sl (p.cells.map Cell.enc)),.t (.sl (p.modules.map Contract.enc)),.t (.sl (p.locks.map Lock.enc)),.t (.sl (p.threads.map Thread.enc)),vi k,vV]] false)
 oV:zaF h x vV 7 (zgS l)
 hL:h K.kL=some (.rows 1 [[vL]] false)
 oL:zaF h x vL 3 (zdg lst)
 bd:K.ky<x/\K.k3<x/\K.k4<x/\K.k5<x/\K.k6<x/\K.k7<x/\K.kL<x/\K.kS<x/\K.kSV<x/\K.kY<x/\K.kSe<x/\K.kM<x
theorem zyr {h:Nat->Option O} {x:Nat} {v:V} {sz:Nat} {rows:List (List V)} (o:zaF h x v sz rows):(∀k i j,v≠ .mp k i j)/\(∀n,v≠vi n)/\(∀f a b,v≠ .fn f a b)/\(∀k,v≠ .yl k)/\(∀k,v≠ .mm k):=by
 rcases o with⟨rfl,_⟩ | ⟨k,rfl,_⟩<;>simp
section
variable {K:RK} {p:Prog} {k:Int} {lim:Nat} {env:Nat->V} {h h' : Nat->Option O} {x x' : Nat} {l lst l' lst' : List Vis} {vV vL vV' vL' : V}
theorem RI.offL (R:RI K p k lim env h x l lst vV vL) {q:Nat} (hq: ∀rs,h q≠some (.rows 3 rs false)):zbg vL q:=R.oL.offAt hq
theorem RI.offV (R:RI K p k lim env h x l lst vV vL) {q:Nat} (hq: ∀rs,h q≠some (.rows 7 rs false)):zbg vV q:=R.oV.offAt hq
theorem RI.next (R:RI K p k lim env h x l lst vV vL) (hx:x<=x') (hh: ∀j,j<x->j≠K.kL->j≠K.kM->j≠K.kS->zbg vL j->zbg vV j->h' j=h j)
 (hM:h' K.kM=some (.map (mapL (fun v:Vis=>ziD v.c) (fun _=>vb true) l')))
 (hS:h' K.kS=some (.rows 6 [[.t (.sl (p.cells.map Cell.enc)),.t (.sl (p.modules.map Contract.enc)),.t (.sl (p.locks.map Lock.enc)),.t (.sl (p.threads.map Thread.enc)),vi k,vV']] false)) (oV:zaF h' x' vV' 7 (zgS l'))
 (hL:h' K.kL=some (.rows 1 [[vL']] false)) (oL:zaF h' x' vL' 3 (zdg lst')):RI K p k lim env h' x' l' lst' vV' vL':=by
 obtain⟨b1,b2,b3,b4,b5,b6,b7,b8,b9,b10,b11,b12⟩:=R.bd;obtain⟨o1,o2,o3,o4,o5⟩:=zyr R.oL
 have key: ∀j o,h j=o->j<x->(o≠some (.rows 1 [[vL]] false))->(∀es,o≠some (.map es))->(∀rs,o≠some (.rows 6 rs false))->(∀rs,o≠some (.rows 3 rs false))->(∀rs,o≠some (.rows 7 rs false))->h' j=o:=fun j o e1 e2 e3 e4 e5 e6 e7=>by
  rw[hh j e2 (zcV e1 R.hL e3) (zcV e1 R.hM (e4 _)) (zcV e1 R.hS (e5 _)) (R.offL fun rs=>e1▸e6 rs) (R.offV fun rs=>e1▸e7 rs),e1]
 refine⟨key _ _ R.hk b1 ?_ ?_ ?_ ?_ ?_,R.e3,R.e4,R.e5,R.e6,R.e7,key _ _ R.h3 b2 ?_ ?_ ?_ ?_ ?_,key _ _ R.h4 b3 ?_ ?_ ?_ ?_ ?_,key _ _ R.h5 b4 ?_ ?_ ?_ ?_ ?_,key _ _ R.h6 b5 ?_ ?_ ?_ ?_ ?_,key _ _ R.h7 b6 ?_ ?_ ?_ ?_ ?_,R.n67,
  key _ _ R.hSV b9 ?_ ?_ ?_ ?_ ?_,key _ _ R.hY b10 ?_ ?_ ?_ ?_ ?_,key _ _ R.hSe b11 ?_ ?_ ?_ ?_ ?_,hM,hS,oV,hL,oL,by omega⟩
 all_goals(first | (intro rs h;simp at h;done) | (intro h;simp at h;done) | (intro h;simp at h;first | exact o1 _ _ _ h.symm | exact o2 _ h.symm | exact o3 _ _ _ h.symm | exact o4 _ h.symm | exact o5 _ h.symm))
theorem RI.le (R:RI K p k lim env h x l lst vV vL) (hx:x<=x'):RI K p k lim env h x' l lst vV vL:=R.next hx (fun _ _ _ _ _ _ _=>rfl) R.hM R.hS (R.oV.le hx) R.hL (R.oL.le hx)
theorem RI.yield {d:Vis} (R:RI K p k lim env h x (l++[d]) l vV vL) (hl:l.length<2^30) (Az:l.length≠lim):
 ∃h' n' vL',DenY Γ G K.ky [vi l.length] h x=some (vb true,h',n')/\RI K p k lim env h' n' (l++[d]) (l++[d]) vV vL'/\x<=n':=by
 obtain⟨b1,b2,b3,b4,b5,b6,b7,b8,b9,b10,b11,b12⟩:=R.bd;rcases R.oV with⟨_,h0⟩ | ⟨kV,rfl,c1,c2⟩
 ·have:=congrArg List.length h0;rw[zcZ]at this;simp at this
 have hS:=R.hS;rw[zcZ]at hS;obtain⟨h',n',q1,q2,⟨vL',q3,q4,q5⟩,q6,q7⟩:=zyd (l:=l++[d]) (lst:=l) (d:=d) (i:=l.length) R.hk R.e3 R.e4 R.e5 R.h3 R.h4 R.h5 hS c2 (by simp) R.hL R.oL hl b1 b2 b3 b4 b8 c1 b7 (by omega);have nS:K.kS≠K.kL:=zcV R.hS R.hL (by simp);have nM:K.kM≠K.kL:=zcV R.hM R.hL (by simp);have nSy:K.kS≠K.ky:=zcV R.hS R.hk (by simp);have nMy:K.kM≠K.ky:=zcV R.hM R.hk (by simp);have nV:kV≠K.kL:=zcV c2 R.hL (by simp);have nVy:kV≠K.ky:=zcV c2 R.hk (by simp);refine⟨h',n',vL',q1,R.next q6 (fun j j1 j2 _ _ j4 _=> ?_) ?_ ?_ ?_ q3 q4,q6⟩
 ·by_cases I5:j=K.ky
  ·rw[I5,q2,R.hk]
  ·exact q7 j j1 I5 j2 j4
 ·rw[q7 _ b12 nMy nM (R.offL fun rs e=>by rw[R.hM]at e;cases e),R.hM]
 ·rw[q7 _ b8 nSy nS (R.offL fun rs e=>by rw[R.hS]at e;cases e),R.hS]
 ·exact .inr ⟨kV,rfl,by omega,by rw[q7 _ c1 nVy nV (R.offL fun rs e=>by rw[c2]at e;cases e)];exact c2⟩
def zoC (K:RK) (env:Nat->V) (h:Nat->Option O):Prop:=h K.ky=some (.loop env [11] zfh (.done .ret))/\h K.k6=some (.rows 1 [[vi 0]] false)/\h K.k7=some (.rows 1 [[vi 2]] false)
theorem RI.stop (R:RI K p k lim env h x l lst vV vL): ∃h' n',DenY Γ G K.ky [vi lim] h x=some (vb false,h',n')/\zoC K env h'/\x<=n':=by
 obtain⟨h',n',q1,q2,q3,q4,q5⟩:=zyc (n:=x) R.hk R.e4 R.e6 R.e7 R.h4 R.h6 R.h7 R.n67;exact⟨h',n',q1,⟨q2,q3,q4⟩,q5⟩
end
end Rg
end
