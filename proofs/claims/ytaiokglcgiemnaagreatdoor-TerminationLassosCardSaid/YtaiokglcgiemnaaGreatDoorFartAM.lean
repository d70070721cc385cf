/- Part of the proof of laws of relyguardlaw36. No condition. -/
import Derived.Test.YtaiokglcgiemnaaGreatDoorFartAL
set_option linter.unusedSimpArgs false
set_option linter.unusedVariables false
set_option linter.defProp false
section
namespace Rg
open Go
def a7 {α:Type} (f:Nat->α->Int):Nat->List α->Int×Int
 | _,[]=>(0,-1)
 | i,x::r=>if f i x=0 then a7 f (i+1) r else(f i x,i)
theorem iQ {α:Type} {l:List α} {i:Nat} {x:α} (h:l[i]? =some x):l.drop i=x::l.drop (i+1):=by
 obtain⟨hi,rfl⟩:=zH.1 h;exact vZ hi
theorem iL {α:Type} {f:Nat->α->Int} {l:List α} {i:Nat} {x:α} (h:l[i]? =some x) (a:f i x=0):a7 f i (l.drop i)=a7 f (i+1) (l.drop (i+1)):=by
 rw[iQ h,a7,ah a]
theorem g9 {α:Type} {f:Nat->α->Int} {l:List α} {i:Nat} {x:α} (h:l[i]? =some x) (a: ¬f i x=0):a7 f i (l.drop i)=(f i x,(i:Int)):=by
 rw[iQ h,a7,ac a]
theorem iT {α:Type} (f:Nat->α->Int) (l:List α):a7 f l.length (l.drop l.length)=(0,-1):=by
 rw[rH];rfl
theorem dz {α:Type} {P:α->Bool} {l:List α} {i:Nat} {x:α} (h:l[i]? =some x) (a:P x=true):(l.drop i).all P=(l.drop (i+1)).all P:=by
 rw[iQ h,ep,a,eq]
theorem dy {α:Type} {P:α->Bool} {l:List α} {i:Nat} {x:α} (h:l[i]? =some x) (a:P x=false):(l.drop i).all P=false:=by
 rw[iQ h,ep,a,im]
theorem dA {α:Type} (P:α->Bool) (l:List α):(l.drop l.length).all P=true:=by
 rw[rH];rfl
theorem xI {α:Type} {P:α->Bool} {l:List α} {i:Nat} {x:α} (h:l[i]? =some x) (a:P x=false):(l.drop i).any P=(l.drop (i+1)).any P:=by
 rw[iQ h,qq,a,we]
theorem xH {α:Type} {P:α->Bool} {l:List α} {i:Nat} {x:α} (h:l[i]? =some x) (a:P x=true):(l.drop i).any P=true:=by
 rw[iQ h,qq,a,sI]
theorem y9 {α:Type} (P:α->Bool) (l:List α):(l.drop l.length).any P=false:=by
 rw[rH];rfl
def lV (p:Prog) (sh:Bool) (t c:Int):Bool:=if sh then eZ p t c else bq p t c
def c9 (p:Prog) (e:Expr) (sh:Bool) (t:Int):Bool:=(e.sup 3).all (lV p sh t)&&(e.sup 2).all (lV p sh t)
def cE (p:Prog) (e:Expr) (pair:Bool) (t:Int):Bool:=e.valid p.cells pair&&decide (e.w=1)&&c9 p e true t
def eu (x:Thread):Bool:=decide (x.points>48)||decide ((x.steps.length:Int)>64)||decide ((x.loops.length:Int)>8)
def cK (p:Prog):Int×Int:=
 if(p.cells.length:Int)>32\/(p.modules.length:Int)>6\/(p.locks.length:Int)>4\/(p.threads.length:Int)>4 then(2,-1)
 else a7 (fun _ x=>if eu x then 2 else 0) 0 p.threads
def gh (p:Prog) (c:Cell):Bool:=
 !ee c.name||decide (c.w<1)||decide (c.w>8)||decide (c.init<0)||decide (c.init>=2^c.w.toNat)||decide (c.thread< -1)||decide (c.thread>=p.threads.length) || !inR c.module p.modules.length
def gg (p:Prog) (i:Nat) (c:Cell):Int:=
 if gh p c then 1 else if(p.cells.take i).any (fun d=>d.name.toList==c.name.toList)then 41 else 0
def dY (p:Prog):Int:=(a7 (gg p) 0 p.cells).1
def hD (p:Prog) (i:Nat) (m:Contract):Int:=
 if !ee m.name || !ee m.owner then 1
 else if(p.modules.take i).any (fun d=>d.name.toList==m.name.toList)then 41
 else if(!m.rely.absent&& !cE p m.rely true (-1)) || !cE p m.guar true (-1)then 60
 else if !fY m.frame || !m.frame.all (bq p (-1))then 1 else 0
def fp (p:Prog):Int:=(a7 (hD p) 0 p.modules).1
def cL (p:Prog) (c:Int) (f:Cell->Bool):Bool:=match p.cells[c.toNat]? with
 | some x=>f x
 | none=>false
def ix (p:Prog) (i:Nat) (l:Lock):Int:=
 if !bq p (-1) l.cell || !cL p l.cell (fun x=>decide (x.w=1))||cL p l.cell Cell.ghost || !inR l.module p.modules.length then 1
 else if(p.locks.take i).any (fun d=>decide (d.cell=l.cell))then 1
 else if !cE p l.inv false (-1)then 60 else 0
def fG (p:Prog):Int:=(a7 (ix p) 0 p.locks).1
def c8 (p:Prog) (set:List Assign) (i:Nat) (a:Assign):Int:=
 if !inR a.cell p.cells.length||(set.take i).any (fun b=>decide (b.cell=a.cell))then 70
 else if !a.to.valid p.cells false || !cL p a.cell (fun x=>decide (a.to.w=x.w))then 60 else 0
def fW (p:Prog) (s:Step) (sh:Bool) (t:Int):Bool:=c9 p s.guard sh t&&s.set.all fun a=>c9 p a.to sh t
def gl (p:Prog) (t:Int) (s:Step):Bool:=s.guard.one&&decide (s.set=[])&&decide (s.target≠t)&&inR s.target p.threads.length
def pL (p:Prog) (t:Int):Bool:=match p.threads[t.toNat]? with
 | some x=>x.asleep
 | none=>false
def mI (p:Prog) (t:Int) (s:Step):Bool:=match s.set with
 | []=>false
 | a::r=>c9 p s.guard false t&&bq p t a.cell&& !cL p a.cell Cell.ghost&&decide (a.to.op=2)&&bq p (-1) a.to.n&& !cL p a.to.n Cell.ghost&&
    r.all fun b=>bq p t b.cell&&cL p b.cell Cell.ghost&&c9 p b.to false t
def mG (p:Prog) (t:Int) (s:Step):Bool:=match s.set with
 | []=>false
 | a::r=>fW p s false t&&bq p (-1) a.cell&& !cL p a.cell Cell.ghost&&r.all fun b=>cL p b.cell Cell.ghost&&eZ p t b.cell
def da (p:Prog) (t:Int) (s:Step):Bool:=
 if s.kind=1 then fW p s false t&&s.set.all fun a=>bq p t a.cell
 else if s.kind=2 then mI p t s
 else if s.kind=3 then mG p t s
 else if s.kind=4 then fW p s true t&&s.set.all fun a=>eZ p t a.cell
 else if s.kind=5 then s.guard.one&&decide (s.set=[])
 else if s.kind=6 then gl p t s&&pL p s.target
 else gl p t s
def kO (p:Prog) (n:Int) (s:Step):Bool:=
 decide (s.kind<1)||decide (s.kind>7) || !inR s.fr (n-1) || !inR s.to n || !inR s.module p.modules.length||(s.release&&decide (s.kind≠3))||(decide (s.target≠0)&& !(decide (s.kind=6)||decide (s.kind=7)))
def cG (p:Prog) (t n:Int) (s:Step):Int:=
 if kO p n s then 70
 else if !s.guard.valid p.cells false||decide (s.guard.w≠1)then 60
 else if ¬(a7 (c8 p s.set) 0 s.set).1=0 then(a7 (c8 p s.set) 0 s.set).1
 else if da p t s then 0 else 70
def dM (p:Prog) (t n:Int) (l:Loop):Int:=
 if !inR l.head n || !fY l.body || !l.body.all (fun k=>inR k n&&decide (k≠l.head))then 1
 else if !l.variant.valid p.cells false || !c9 p l.variant true t then 60 else 0
def bI (p:Prog) (i:Nat) (x:Thread):Int×Int:=
 if !ee x.name then(1,-1)
 else if(p.threads.take i).any (fun d=>d.name.toList==x.name.toList)then(41,-1)
 else if x.points<1\/ ¬(x.asserts.length:Int)=x.points\/ ¬(x.modules.length:Int)=x.points then(1,-1)
 else if !x.modules.all (fun m=>inR m p.modules.length)then(1,-1)
 else if !x.asserts.all (fun e=>cE p e false i)then(60,-1)
 else if ¬(a7 (fun _ s=>cG p i x.points s) 0 x.steps).1=0 then a7 (fun _ s=>cG p i x.points s) 0 x.steps
 else((a7 (fun _ l=>dM p i x.points l) 0 x.loops).1,-1)
def eT (p:Prog):Nat->List Thread->Int×Int×Int
 | _,[]=>(0,-1,-1)
 | i,x::r=>if(bI p i x).1=0 then eT p (i+1) r else((bI p i x).1,(i:Int),(bI p i x).2)
def dj (p:Prog):Int×Int×Int:=
 if ¬(cK p).1=0 then((cK p).1,(cK p).2,-1)
 else if ¬dY p=0 then(dY p,-1,-1)
 else if ¬fp p=0 then(fp p,-1,-1)
 else if ¬fG p=0 then(fG p,-1,-1)
 else eT p 0 p.threads
theorem PB {p:Prog} {l:List Thread} {i:Nat} {x:Thread} (h:l[i]? =some x) (a:(bI p i x).1=0):eT p i (l.drop i)=eT p (i+1) (l.drop (i+1)):=by
 rw[iQ h,eT,ah a]
theorem Pz {p:Prog} {l:List Thread} {i:Nat} {x:Thread} (h:l[i]? =some x) (a: ¬(bI p i x).1=0):eT p i (l.drop i)=((bI p i x).1,(i:Int),(bI p i x).2):=by
 rw[iQ h,eT,ac a]
theorem Sz (p:Prog) (l:List Thread):eT p l.length (l.drop l.length)=(0,-1,-1):=by
 rw[rH];rfl
structure Prog.sane (p:Prog):Prop where
 cells:p.cells.length<2^48
 modules:p.modules.length<2^48
 locks:p.locks.length<2^48
 threads:p.threads.length<2^48
 cname: ∀c∈p.cells,c.name.size<2^50
 mname: ∀m∈p.modules,m.name.size<2^50/\m.owner.size<2^50/\m.frame.length<2^48
 thr: ∀t∈p.threads,t.name.size<2^50/\t.asserts.length<2^48/\t.modules.length<2^48/\t.steps.length<2^48/\t.loops.length<2^48
 sets: ∀t∈p.threads,∀s∈t.steps,s.set.length<2^48
 loops: ∀t∈p.threads,∀l∈t.loops,l.body.length<2^48
end Rg
end
section
-- FULL
namespace Rg
open Go
theorem SN {p:Prog} (d: ∀c∈p.cells,-1<=c.thread) (sh:Bool) (t c:Int) (f: -1<=t) (e:sh=true\/0<=t) (b:0<=c):qQ p sh t c=lV p sh t c:=by
 unfold qQ lV eZ bq;rcases g:p.cells[c.toNat]? with _ | x
 ·cases sh<;>simp
 ·have:=d x (zL g);simp only[b,jt,eq]
  have a:(decide (0<=x.thread))= !decide (x.thread= -1):=by
   by_cases h:x.thread= -1
   ·simp[h]
   ·simp[h];omega
  rw[a];cases sh
  ·have f:0<=t:=ak e
   by_cases h:x.thread= -1
   ·simp[h];omega
   ·simp[h]
  ·by_cases h:x.thread= -1
   ·simp[h]
   ·simp[h]
theorem us {α:Type} {P Q:α->Bool} {l:List α} (h: ∀x∈l,P x=Q x):l.all P=l.all Q:=by
 induction l with
 | nil=>rfl
 | cons x r b=>rw[ep,ep,h x af,b fun y a=>h y (by simp[a])]
theorem SB {op:Int} {e:Expr} {c:Int} (h:c∈e.sup op):0<=c/\e.formed=true/\ ∃x∈e.lv,x.op=op/\x.n.toNat=c.toNat:=by
 unfold Expr.sup at h;split at h
 ·rename_i i;obtain⟨j,d,rfl⟩:=cv.1 h;refine⟨aa,i,?_⟩;obtain⟨_,d⟩:=ge.1 d
  have f: ∀(l:List Expr) (s:List Bool),(l.foldl (bW op) s).getD j false=true->s.getD j false=true\/ ∃x∈l,x.op=op/\x.n.toNat=j:=by
   intro l
   induction l with
   | nil=>intro s h;exact .inl h
   | cons x l o=>
     intro s h;rw[eQ]at h;rcases o _ h with h | ⟨y,n,a,b⟩
     ·unfold bW at h;split at h
      ·rename_i k
       by_cases g:x.n.toNat=j
       ·exact .inr ⟨x,af,k,g⟩
       ·left;simpa[List.getD,cu,g]using h
      ·exact .inl h
     ·exact .inr ⟨y,by simp[n],a,b⟩
  rcases f _ _ d with h | ⟨x,m,a,b⟩
  ·have:(List.replicate 32 false).getD j false=false:=by
    rw[List.getD,nj];split<;>rfl
   rw[this]at h;simp at h
  ·exact⟨x,m,a,ak b⟩
 ·simp at h
theorem pM {p:Prog} {e:Expr} {pair:Bool} (h:e.valid p.cells pair=true):yZ p e:=by
 intro op f c i;obtain⟨g,d,x,j,b,k⟩:=SB i;refine⟨g,?_⟩;unfold Expr.valid at h;rw[d,eq,Tp (fun x=>Lh p.cells pair) 40 e (nw d)]at h;have:=zN.1 h x j;unfold dK at this;rcases f with rfl | rfl
 ·simp only[b]at this;rcases a:p.cells[x.n.toNat]? with _ | y
  ·simp[a]at this
  ·have:=(zH.1 a).1;omega
 ·simp only[b]at this;rcases a:p.cells[x.n.toNat]? with _ | y
  ·simp[a]at this
  ·have:=(zH.1 a).1;omega
theorem uo {p:Prog} (d: ∀c∈p.cells,-1<=c.thread) {e:Expr} (a:yZ p e) (sh:Bool) (t:Int) (g: -1<=t) (f:sh=true\/0<=t):
 Den Γ G 115 [(zP p),(.agg [.t (ti (e).op),.t (ti (e).w),.t (ti (e).n),.t (.sl ((e).kids.map (Expr.enc)))]),vb sh,vi t]=some (vb (c9 p e sh t)):=by
 rw[Zk p e sh t a,nq,c9];rw[us (l:=e.sup 3) fun c b=>SN d sh t c g f (a 3 (.inr rfl) c b).1];rw[us (l:=e.sup 2) fun c b=>SN d sh t c g f (a 2 (.inl rfl) c b).1]
theorem uc {p:Prog} (f: ∀c∈p.cells,-1<=c.thread) (e:Expr) (pair:Bool) (t:Int) (g: -1<=t):
 Den Γ G 112 [(zP p),(.agg [.t (ti (e).op),.t (ti (e).w),.t (ti (e).n),.t (.sl ((e).kids.map (Expr.enc)))]),vb pair,vi t]=some (vb (cE p e pair t)):=by
 refine aB (q:=?_)
 have b:=ub e p.cells pair;cases a:e.valid p.cells pair
 ·rw[a]at b;refine jV b ?_;simp[cE,a]
 ·rw[a]at b;have d:=uo f (pM a) true t g (.inl rfl);refine jV b ?_;refine zV d ?_ ?_<;>intro h
  ·simp[cE,a,h]
  ·simp[cE,a,h]
theorem kbo:Den Γ G 157 []=some (.agg [vi 1,vi 1,vi 1,.t (.sl [])]):=by
 refine aB (q:=?_)
 have a:=r8 1 1;exact G7 a
theorem Xx (p:Prog) (o:p.sane):Den Γ G 84 [(zP p)]=some (.tup [vi (cK p).1,vi (cK p).2]):=by
 (refine pr Γ84 rfl ?_;dsimp only[f84])
 simp -dsimp [go_sem]
 by_cases e:(p.cells.length:Int)>32\/(p.modules.length:Int)>6\/(p.locks.length:Int)>4\/(p.threads.length:Int)>4
 ·have a:cK p=(2,-1):=by rw[cK,ah e]
  rw[a]
  repeat'(refine bp (fun h=> ?_) (fun h=> ?_)<;>(try rw[h])<;>(try simp only[bg]at h)<;>(try simp -dsimp [go_sem]))
  all_goals(try omega)
 ·have a:cK p=a7 (fun _ x=>if eu x then 2 else 0) 0 p.threads:=by rw[cK,ac e]
  have j: ¬(p.cells.length:Int)>32:=aa
  have k: ¬(p.modules.length:Int)>6:=aa
  have l: ¬(p.locks.length:Int)>4:=aa
  have m: ¬(p.threads.length:Int)>4:=aa
  simp -dsimp [go_sem,j,k,l,m];refine aZ 72057593769492540 p.threads.length (fun i f=>(f 4).v=vi i/\cK p=a7 (fun _ x=>if eu x then 2 else 0) i (p.threads.drop i)) rfl rfl ⟨by simp -dsimp [go_sem],a⟩ ?_;clear a;rintro i f u q bb hi ⟨c,a⟩;have n:=ay i aa;simp -dsimp [go_sem,c];refine bp (fun h=> ?_) (fun h=> ?_)<;>(try rw[h])<;>(try simp only[bg]at h)<;>(try simp -dsimp [go_sem])
  ·obtain⟨x,d,_⟩:=au ‹i<p.threads.length›;have b:eu x=true->cK p=(2,(i:Int)):=fun g=>by rw[a,g9 d (by simp[g])];simp[g]
   simp -dsimp [go_sem,c,d]
   repeat'(refine bp (fun h=> ?_) (fun h=> ?_)<;>(try rw[h])<;>(try simp only[bg]at h)<;>(try simp -dsimp [go_sem,c]))
   ·rw[b (by simp[eu, *])];simp
   ·rw[b (by simp[eu, *])];simp
   ·rw[b (by simp[eu, *])];simp
   ·refine⟨aa,by simp -dsimp [go_sem,n],?_⟩;rw[a,iL d (by simp[eu, *])]
  ·have:i=p.threads.length:=aa
   subst this;rw[a,iT];simp
end Rg
end
section
-- FULL
namespace Rg
open Go
theorem qd {α:Type} {P:α->Bool} {l:List α} {i j:Nat} {x:α} (b:l[j]? =some x) (a:j<i) (h:P x=true):(l.take i).any P=true:=by
 rw[lC];exact⟨x,zL (by rw[zO,ah a];exact b),h⟩
theorem rn {α:Type} {P:α->Bool} {l:List α} {j:Nat} {x:α} (a:l[j]? =some x):(l.take (j+1)).any P=((l.take j).any P||P x):=by
 rw[a8 a,vW];simp
theorem X5 (p:Prog) (v:p.sane):Den Γ G 85 [(zP p)]=some (vi (dY p)):=by
 (refine pr Γ85 rfl ?_;dsimp only[f85])
 simp -dsimp [go_sem];refine aZ 2417851639229258349412348 p.cells.length (fun i f=>(f 3).v=vi i/\dY p=(a7 (gg p) i (p.cells.drop i)).1) rfl rfl ⟨by simp -dsimp [go_sem],rfl⟩ ?_;rintro i f u O bb hi ⟨a,m⟩;have K:=v.cells;have I:=ay i aa;simp -dsimp [go_sem,a];refine bp (fun h=> ?_) (fun h=> ?_)<;>(try rw[h])<;>(try simp only[bg]at h)<;>(try simp -dsimp [go_sem,a])
 ·obtain⟨c,b,y⟩:=au ‹i<p.cells.length›
  have w:gh p c=true->dY p=1:=fun H=>by
   have:gg p i c=1:=by simp[gg,H]
   rw[m,g9 b (by simp[this])];exact this
  have l:=uv c.name (v.cname c y);have g:=iR c.module p.modules.length
  by_cases e:gh p c=true
  ·rw[w e]
   by_cases M:c.w<=8
   ·have hp:=pa c.w aa;simp -dsimp [go_sem,a,b,l]
    repeat'(refine bp (fun h=> ?_) (fun h=> ?_)<;>(try rw[h])<;>(try simp only[bg]at h)<;>(try simp -dsimp [go_sem,a,hp,g]))
    all_goals(exfalso;simp only[gh,eH,eE,aQ]at e;grind)
   ·have F:c.w>8:=aa
    simp -dsimp [go_sem,a,b,l,F]
    repeat'(refine bp (fun h=> ?_) (fun h=> ?_)<;>(try rw[h])<;>(try simp only[bg]at h)<;>(try simp -dsimp [go_sem,a,g]))
    all_goals(exfalso;omega)
  ·have s:=e;simp only[gh,eH,eE,aQ,ld]at s;obtain⟨⟨⟨⟨⟨⟨⟨n,b2⟩,z⟩,A⟩,B⟩,C⟩,D⟩,o⟩:=s;have n:ee c.name=true:=by simpa using n
   have o:inR c.module p.modules.length=true:=by simpa using o
   rw[n]at l;rw[o]at g;have hp:=pa c.w aa;simp -dsimp [go_sem,a,b,l,b2,z,A,hp,B,C,D,g];refine aZ 2417704065276668672999460 i (fun k t=>(t 5).v=vi k/\(p.cells.take k).any (fun d=>d.name.toList==c.name.toList)=false) rfl rfl ⟨by simp -dsimp [go_sem],af⟩ ?_;rintro k t P J E N ⟨j,r⟩;have x:=ay k aa;simp -dsimp [go_sem,a,j];refine bp (fun h=> ?_) (fun h=> ?_)<;>(try rw[h])<;>(try simp only[bg]at h)<;>(try simp -dsimp [go_sem,a,j])
   ·obtain⟨d,q,L⟩:=au (show k<p.cells.length from aa);simp -dsimp [go_sem,a,j,q];refine bp (fun h=> ?_) (fun h=> ?_)<;>(try rw[h])<;>(try simp only[bg]at h)<;>(try simp -dsimp [go_sem,a,j])
    ·have:gg p i c=41:=by
      rw[gg,ac e,ah (qd q ‹k<i› (by simpa using h))]
     rw[m,g9 b (by simp[this])];exact this.symm
    ·refine⟨aa,by simp -dsimp [go_sem,x],?_⟩;rw[rn q,r];simpa using h
   ·have:k=i:=aa
    subst this;refine⟨aa,by simp -dsimp [go_sem,I],?_⟩;rw[m,iL b (by rw[gg,ac e,ac (by simp[r])])]
 ·have:i=p.cells.length:=aa
  subst this;rw[m,iT]
theorem J0 {p:Prog} (h:dY p=0): ∀c∈p.cells,gh p c=false:=by
 have d: ∀(l:List Cell) (i:Nat),(a7 (gg p) i l).1=0-> ∀c∈l,gh p c=false:=by
  intro l
  induction l with
  | nil=>intro i _ c a;simp at a
  | cons x r f=>
    intro i h c a;rw[a7]at h;split at h
    ·rename_i b;rcases cj.1 a with rfl | a
     ·cases e:gh p c
      ·rfl
      ·simp[gg,e]at b
     ·exact f _ h c a
    ·rename_i b;exact absurd h b
 exact d p.cells 0 h
theorem xh {p:Prog} {c:Cell} (h:gh p c=false):ee c.name=true/\1<=c.w/\c.w<=8/\0<=c.init/\c.init<2^c.w.toNat/\ -1<=c.thread/\c.thread<p.threads.length/\inR c.module p.modules.length=true:=by
 simp only[gh,ju,nh,en]at h;obtain⟨⟨⟨⟨⟨⟨⟨a,b2⟩,d⟩,e⟩,f⟩,g⟩,i⟩,b⟩:=h;exact⟨a,aa,aa,aa,aa,aa,aa,b⟩
theorem xf {p:Prog} (h:dY p=0): ∀c∈p.cells,-1<=c.thread:=fun c a=>(xh (J0 h c a)).2.2.2.2.2.1
theorem mu {p:Prog} {c t:Int} {x:Cell} (a:0<=c) (b:p.cells[c.toNat]? =some x):bq p t c=decide (x.thread=t):=by
 simp[bq,a,b]
theorem Xm (p:Prog) (L:p.sane) (U:dY p=0):Den Γ G 86 [(zP p)]=some (vi (fp p)):=by
 (refine pr Γ86 rfl ?_;dsimp only[f86])
 simp -dsimp [go_sem];have B:=xf U;refine aZ 39614081257132168796771975164 p.modules.length (fun i f=>(f 3).v=vi i/\fp p=(a7 (hD p) i (p.modules.drop i)).1) rfl rfl ⟨by simp -dsimp [go_sem],rfl⟩ ?_;rintro i f u kk bb hi ⟨a,w⟩;have He:=L.modules;have hw:=ay i aa;simp -dsimp [go_sem,a];refine bp (fun h=> ?_) (fun h=> ?_)<;>(try rw[h])<;>(try simp only[bg]at h)<;>(try simp -dsimp [go_sem,a])
 ·obtain⟨c,v,S⟩:=au ‹i<p.modules.length›;obtain⟨s1,s2,s3⟩:=L.mname c S
  have e: ∀k:Int,k≠0->hD p i c=k->fp p=k:=fun k J o=>by
   rw[w,g9 v (by rw[o];exact J)];exact o
  have hl:=uv c.name s1;have V:=uv c.owner s2;simp -dsimp [go_sem,a,v,hl];refine bp (fun h=> ?_) (fun h=> ?_)<;>(try rw[h])<;>(try simp only[bg]at h)<;>(try simp -dsimp [go_sem,a,V])
  ·rw[e 1 aG (by simp[hD,h])]
  ·refine bp (fun h=> ?_) (fun h=> ?_)<;>(try rw[h])<;>(try simp only[bg]at h)<;>(try simp -dsimp [go_sem,a])
   ·rw[e 1 aG (by simp[hD,h])]
   ·have E:ee c.name=true:=bB
    have F:ee c.owner=true:=bB
    refine aZ 8795556151332 i (fun k H=>(H 5).v=vi k/\(p.modules.take k).any (fun d=>d.name.toList==c.name.toList)=false) rfl rfl ⟨by simp -dsimp [go_sem],af⟩ ?_;rintro k H u' kk' Y J ⟨q,z⟩;have R:=ay k aa;simp -dsimp [go_sem,a,q];refine bp (fun h=> ?_) (fun h=> ?_)<;>(try rw[h])<;>(try simp only[bg]at h)<;>(try simp -dsimp [go_sem,a,q])
    ·obtain⟨d,b,X⟩:=au (show k<p.modules.length from aa);simp -dsimp [go_sem,a,q,b];refine bp (fun h=> ?_) (fun h=> ?_)<;>(try rw[h])<;>(try simp only[bg]at h)<;>(try simp -dsimp [go_sem,a,q])
     ·rw[e 41 aG (by rw[hD,ac (by simp[E,F]),ah (qd b ‹k<i› (by simpa using h))])]
     ·refine⟨aa,by simp -dsimp [go_sem,R],?_⟩;rw[rn b,z];simpa using h
    ·have:k=i:=aa
     subst this;have r:=Xj c.rely;have s:=uc B c.rely true (-1) aa;have n:=uc B c.guar true (-1) aa
     have g:hD p k c=if(!c.rely.absent&& !cE p c.rely true (-1)) || !cE p c.guar true (-1)then 60 else if !fY c.frame || !c.frame.all (bq p (-1))then 1 else 0:=by
      rw[hD,ac (by simp[E,F]),ac (by simp[z])]
     by_cases K:((!c.rely.absent&& !cE p c.rely true (-1)) || !cE p c.guar true (-1))=true
     ·rw[e 60 aG (by rw[g,ah K])];simp -dsimp [go_sem,a,r]
      repeat'(refine bp (fun h=> ?_) (fun h=> ?_)<;>(try rw[h])<;>(try simp only[bg]at h)<;>(try simp -dsimp [go_sem,a,s,n]))
      all_goals(exfalso;simp_all)
     ·have O: ∀(Q:Prop),(c.rely.absent=true->cE p c.guar true (-1)=true->Q)->(c.rely.absent=false->cE p c.rely true (-1)=true->cE p c.guar true (-1)=true->Q)->Q:=fun Q q1 q2=>by
       cases h1:c.rely.absent<;>cases h2:cE p c.rely true (-1)<;>cases a:cE p c.guar true (-1)<;>simp_all
      rw[ac K]at g;refine O _ (fun N y=> ?_) (fun N y r3=> ?_)
      all_goals(
       (try rw[N]at r)
       (try rw[y]at s)
       (try rw[y]at n)
       (try rw[r3]at n)
       simp -dsimp [go_sem,a,r,s,n];refine aZ 2475880076264917540584554564 c.frame.length (fun j I=>(I 6).v=vi j/\c.frame.all (bq p (-1))=(c.frame.drop j).all (bq p (-1))) rfl rfl ⟨by simp -dsimp [go_sem],rfl⟩ ?_;rintro j I u2 kk2 Z hj ⟨l,m⟩;have T:=ay j aa;simp -dsimp [go_sem,a,l];refine bp (fun h=> ?_) (fun h=> ?_)<;>(try rw[h])<;>(try simp only[bg]at h)<;>(try simp -dsimp [go_sem,a,l])
       ·obtain⟨d,b,X⟩:=au (show j<c.frame.length from aa);have P:=iR d p.cells.length
        have A:bq p (-1) d=false->1=fp p:=fun o=>by
         rw[e 1 aG (by rw[g,m,dy b o];simp)]
        simp -dsimp [go_sem,a,l,b,P];refine bp (fun h=> ?_) (fun h=> ?_)<;>(try rw[h])<;>(try simp only[bg]at h)<;>(try simp -dsimp [go_sem,a,l])
        ·exact A (tE h)
        ·obtain⟨D,x,M⟩:=gf h;have C:=mu (t:= -1) D M;simp -dsimp [go_sem,a,l,b,D,M];refine bp (fun h=> ?_) (fun h=> ?_)<;>(try rw[h])<;>(try simp only[bg]at h)<;>(try simp -dsimp [go_sem,a,l])
         ·exact A (by rw[C];simpa using h)
         ·refine⟨aa,by simp -dsimp [go_sem,T],?_⟩;rw[m,dz b (by rw[C];simpa using h)]
       ·have:j=c.frame.length:=aa
        subst this;rw[dA]at m;rw[m]at g;have W:=Mg c.frame aa;simp -dsimp [go_sem,a,W];refine bp (fun h=> ?_) (fun h=> ?_)<;>(try rw[h])<;>(try simp only[bg]at h)<;>(try simp -dsimp [go_sem,a])
        ·rw[e 1 aG (by rw[g];simp[h])]
        ·refine⟨aa,by simp -dsimp [go_sem,hw],?_⟩
         rw[w,iL v (by rw[g];simp[h])])
 ·have:i=p.modules.length:=aa
  subst this;rw[w,iT]
end Rg
end
section
-- FULL
namespace Rg
open Go
theorem fh {p:Prog} {c:Int} {x:Cell} {g:Cell->Bool} (a:p.cells[c.toNat]? =some x):cL p c g=g x:=by simp[cL,a]
theorem ZF (p:Prog) (N:p.sane) (F:dY p=0):Den Γ G 87 [(zP p)]=some (vi (fG p)):=by
 (refine pr Γ87 rfl ?_;dsimp only[f87])
 simp -dsimp [go_sem];have H:=xf F;refine aZ 4835703278458516698824700 p.locks.length (fun i f=>(f 3).v=vi i/\fG p=(a7 (ix p) i (p.locks.drop i)).1) rfl rfl ⟨by simp -dsimp [go_sem],rfl⟩ ?_;rintro i f u T bb hi ⟨a,s⟩;have Q:=N.locks;have O:=ay i aa;simp -dsimp [go_sem,a];refine bp (fun h=> ?_) (fun h=> ?_)<;>(try rw[h])<;>(try simp only[bg]at h)<;>(try simp -dsimp [go_sem,a])
 ·obtain⟨l,c,R⟩:=au ‹i<p.locks.length›
  have m: ∀k:Int,k≠0->ix p i l=k->fG p=k:=fun k C B=>by
   rw[s,g9 c (by rw[B];exact C)];exact B
  have D:=iR l.cell p.cells.length;have q:=iR l.module p.modules.length;simp -dsimp [go_sem,a,c,D];refine bp (fun h=> ?_) (fun h=> ?_)<;>(try rw[h])<;>(try simp only[bg]at h)<;>(try simp -dsimp [go_sem,a])
  ·rw[m 1 aG (by simp[ix,tE h])]
  ·obtain⟨n,x,e⟩:=gf h;have z:=mu (t:= -1) n e;have y:=fh (g:=fun x=>decide (x.w=1)) e;have w:=fh (g:=Cell.ghost) e;simp -dsimp [go_sem,a,c,n,e]
   by_cases b:(!bq p (-1) l.cell || !cL p l.cell (fun x=>decide (x.w=1))||cL p l.cell Cell.ghost || !inR l.module p.modules.length)=true
   ·rw[m 1 aG (by rw[ix,ah b])];rw[z,y,w]at b
    repeat'(refine bp (fun h=> ?_) (fun h=> ?_)<;>(try rw[h])<;>(try simp only[bg]at h)<;>(try simp -dsimp [go_sem,a,c,n,e,q]))
    all_goals(exfalso;simp_all)
   ·have j:ix p i l=if(p.locks.take i).any (fun d=>decide (d.cell=l.cell))then 1 else if !cE p l.inv false (-1)then 60 else 0:=by rw[ix,ac b]
    rw[z,y,w]at b;simp only[eH,eE,en,ld,sO,z_,rG]at b;obtain⟨⟨⟨J,b2⟩,K⟩,L⟩:=b;rw[L]at q;simp -dsimp [go_sem,a,c,n,e,J,b2,K,q];refine aZ 151106504079791792062500 i (fun k A=>(A 5).v=vi k/\(p.locks.take k).any (fun d=>decide (d.cell=l.cell))=false) rfl rfl ⟨by simp -dsimp [go_sem],af⟩ ?_;rintro k A U P M C ⟨o,v⟩;have E:=ay k aa;simp -dsimp [go_sem,a,o];refine bp (fun h=> ?_) (fun h=> ?_)<;>(try rw[h])<;>(try simp only[bg]at h)<;>(try simp -dsimp [go_sem,a,o])
    ·obtain⟨d,r,S⟩:=au (show k<p.locks.length from aa);simp -dsimp [go_sem,a,o,r];refine bp (fun h=> ?_) (fun h=> ?_)<;>(try rw[h])<;>(try simp only[bg]at h)<;>(try simp -dsimp [go_sem,a,o])
     ·rw[m 1 aG (by rw[j,ah (qd r ‹k<i› (by simpa using h))])]
     ·refine⟨aa,by simp -dsimp [go_sem,E],?_⟩;rw[rn r,v];simpa using h
    ·have:k=i:=aa
     subst this;rw[v]at j;have I:=uc H l.inv false (-1) aa;simp -dsimp [go_sem,a,I];refine bp (fun h=> ?_) (fun h=> ?_)<;>(try rw[h])<;>(try simp only[bg]at h)<;>(try simp -dsimp [go_sem,a])
     ·rw[m 60 aG (by rw[j];simp[h])]
     ·refine⟨aa,by simp -dsimp [go_sem,O],?_⟩;rw[s,iL c (by rw[j];simp[h])]
 ·have:i=p.locks.length:=aa
  subst this;rw[s,iT]
theorem SA {e:Expr} (h:e.one=true) (op:Int) (f:op≠1):e.sup op=[]:=by
 simp only[Expr.one,aQ]at h;obtain⟨i,j,k,b⟩:=h;rw[List.eq_nil_iff_forall_not_mem];intro c d;obtain⟨_,_,x,a,g,_⟩:=SB d;rw[Expr.lv_eq,ah b]at a;simp only[bD]at a;subst a;omega
theorem kbl {p:Prog} {e:Expr} (h:e.one=true) (sh:Bool) (t:Int):c9 p e sh t=true:=by
 rw[c9,SA h 3 aG,SA h 2 aG];rfl
def mF (p:Prog) (t:Int) (s:Step):Prop:=c9 p s.guard (decide (s.kind=4)) t=true/\
 ∀(j:Nat) (a:Assign),s.set[j]? =some a->((0<j\/s.kind≠2)->c9 p a.to (decide (s.kind=4)) t=true)/\(bq p t a.cell=true\/bq p (-1) a.cell=true)
theorem ZH {p:Prog} {t:Int} {s:Step} (h:da p t s=true) (v:1<=s.kind/\s.kind<=7):mF p t s:=by
 unfold da at h;split at h
 ·rename_i k;simp only[fW,zF,zN]at h;refine⟨by simpa[k]using h.1.1,fun j a d=>⟨fun _=>by simpa[k]using h.1.2 a (zL d),.inl (h.2 a (zL d))⟩⟩
 ·split at h
  ·rename_i k;unfold mI at h;split at h
   ·simp at h
   ·rename_i a r i;simp only[zF,zN]at h;obtain⟨⟨⟨⟨⟨⟨f,g⟩,l⟩,n⟩,m⟩,u⟩,o⟩:=h;refine⟨by simpa[k]using f,fun j b c=> ?_⟩;rw[i]at c
    cases j with
    | zero=>simp at c;subst c;exact⟨fun q=>by simp[k]at q,.inl g⟩
    | succ j=>
      simp only[lE]at c;have:=o b (zL c);exact⟨fun _=>by simpa[k]using this.2,.inl this.1.1⟩
  ·split at h
   ·rename_i k;unfold mG at h;split at h
    ·simp at h
    ·rename_i a r i;simp only[fW,zF,zN]at h;obtain⟨⟨⟨⟨f,g⟩,l⟩,n⟩,m⟩:=h;refine⟨by simpa[k]using f,fun j b c=>⟨fun _=>by simpa[k]using g b (zL c),?_⟩⟩;rw[i]at c
     cases j with
     | zero=>simp at c;subst c;exact .inr l
     | succ j=>
       simp only[lE]at c;have:=(m b (zL c)).2;simp only[eZ,eH]at this;exact this.symm
   ·split at h
    ·rename_i k;simp only[fW,zF,zN]at h;refine⟨by simpa[k]using h.1.1,fun j a d=>⟨fun _=>by simpa[k]using h.1.2 a (zL d),?_⟩⟩;have:=h.2 a (zL d);simp only[eZ,eH]at this;exact this.symm
    ·have e:s.guard.one=true/\s.set=[]:=by
      split at h
      ·simpa using h
      ·split at h
       ·simp only[gl,zF,aQ]at h;exact h.1.1.1
       ·simp only[gl,zF,aQ]at h;exact h.1.1
     refine⟨kbl e.1 _ _,fun j a d=>by rw[e.2]at d;simp at d⟩
theorem xQ {p:Prog} {t:Int} {s:Step} (h:mF p t s) (d:s.kind≠2):fW p s (decide (s.kind=4)) t=true:=by
 simp only[fW,zF,zN];refine⟨h.1,fun a b=> ?_⟩;obtain⟨j,c,rfl⟩:=sY.1 b;exact(h.2 j _ (zI c)).1 (.inr d)
theorem RS {p:Prog} {t:Int} {s:Step} (h:mF p t s) {a:Assign} (b:a∈s.set):eZ p t a.cell=true:=by
 obtain⟨j,c,rfl⟩:=sY.1 b;have:=(h.2 j _ (zI c)).2;simp only[eZ,eH];exact this.symm
theorem VB {p:Prog} {t:Int} {s:Step} (h:mF p t s) (b:s.kind=1):da p t s=s.set.all fun a=>bq p t a.cell:=by
 have:=xQ h aa;rw[da,ah b];simp only[b]at this;rw[show(decide ((1:Int)=4))=false from rfl]at this;rw[this,eq]
theorem VC {p:Prog} {t:Int} {s:Step} (h:mF p t s) (d:s.kind=2) {a:Assign} {r:List Assign} (e:s.set=a::r):
 da p t s=(bq p t a.cell&& !cL p a.cell Cell.ghost&&decide (a.to.op=2)&&bq p (-1) a.to.n&& !cL p a.to.n Cell.ghost&&r.all fun b=>bq p t b.cell&&cL p b.cell Cell.ghost):=by
 have c:=h.1;simp only[d]at c;rw[show(decide ((2:Int)=4))=false from rfl]at c;rw[da,ac aa,ah d,mI,e];simp only[c,eq]
 congr 1
 refine us fun b f=> ?_
 obtain⟨j,g,rfl⟩:=sY.1 f;have:=(h.2 (j+1) r[j] (by rw[e];simp[g])).1 (.inl aa);simp only[d]at this;rw[show(decide ((2:Int)=4))=false from rfl]at this;rw[this,fV]
theorem VD {p:Prog} {t:Int} {s:Step} (h:mF p t s) (e:s.kind=3) {a:Assign} {r:List Assign} (f:s.set=a::r):
 da p t s=(bq p (-1) a.cell&& !cL p a.cell Cell.ghost&&r.all fun b=>cL p b.cell Cell.ghost):=by
 have c:=xQ h aa;simp only[e]at c;rw[show(decide ((3:Int)=4))=false from rfl]at c;have g: ∀b∈r,eZ p t b.cell=true:=fun b d=>RS h (by rw[f];simp[d])
 rw[da,ac aa,ac aa,ah e,mG,f];simp only[c,eq]
 congr 1
 refine us fun b d=> ?_
 rw[g b d,fV]
theorem VE {p:Prog} {t:Int} {s:Step} (h:mF p t s) (c:s.kind=4):da p t s=true:=by
 have b:=xQ h aa;simp only[c,jt]at b;rw[da,ac aa,ac aa,ac aa,ah c,b,eq,zN];exact fun a d=>RS h d
theorem Tq {p:Prog} {t:Int} {s:Step} (a:s.kind=2\/s.kind=3) (b:s.set=[]):da p t s=false:=by
 rcases a with a | a
 ·rw[da,ac aa,ah a,mI,b]
 ·rw[da,ac aa,ac aa,ah a,mG,b]
def sp (p:Prog) (s:Step):Prop:=s.guard.valid p.cells false=true/\ ∀a∈s.set,inR a.cell p.cells.length=true/\a.to.valid p.cells false=true
theorem K3 {p:Prog} {e:Expr} (h:e.valid p.cells false=true) (c:e.op=2):inR e.n p.cells.length=true:=by
 have b:e.formed=true:=by unfold Expr.valid at h;simp only[zF]at h;exact h.1
 have d:=pO (kK (nw b));unfold Expr.valid at h;simp only[zF]at h;have:=Expr.allE_self h.2;unfold dK at this;simp only[c]at this;rcases a:p.cells[e.n.toNat]? with _ | y
 ·simp[a]at this
 ·have:=(zH.1 a).1;simp only[inR,aQ];omega
theorem Z_ (p:Prog) (Ez: ∀c∈p.cells,-1<=c.thread) (t:Int) (ht:0<=t) (s:Step) (Ac:s.set.length<2^48) (E:sp p s) (hk:1<=s.kind/\s.kind<=7):
 Den Γ G 137 [(zP p),vi t,(zS s)]=some (vb (da p t s)):=by
 refine aB (q:=?_)
 have hg:=uo Ez (pM E.1) (decide (s.kind=4)) t aa (.inr ht)
 have Be: ¬mF p t s->false=da p t s:=fun n=>by
  cases h:da p t s
  ·rfl
  ·exact absurd (ZH h hk) n
 refine aC hg ?_;refine gy ?_ ?_<;>intro h
 ·exact Be (fun n=>by rw[n.1]at h;simp at h)
 ·have FD:c9 p s.guard (decide (s.kind=4)) t=true:=bB
  refine aZ 1180591620717142869568 s.set.length (fun i f=>(f 9).v=vi i/\ ∀(j:Nat) (a:Assign),j<i->s.set[j]? =some a->((0<j\/s.kind≠2)->c9 p a.to (decide (s.kind=4)) t=true)/\(bq p t a.cell=true\/bq p (-1) a.cell=true)) rfl rfl ⟨am,fun j a X=>aa⟩ ?_;rintro i f u kk bb hi ⟨h9,CA⟩;have hw:=ay i aa;refine aC h9 ?_;refine aO h9 ?_ ?_<;>intro h
  ·obtain⟨a,A,C⟩:=au ‹i<s.set.length›;obtain⟨J,Bu⟩:=E.2 a C;have Y:=uo Ez (pM Bu) (decide (s.kind=4)) t aa (.inr ht);obtain⟨e,x,d⟩:=gf J;have K:=tL p a.cell t x e d;have M:=wB p a.cell x e d;have w:=mu (t:=t) e d;have H:=mu (t:= -1) e d
   repeat'(refine lj h9 A Y K M ?_ ?_<;>intro h)
   all_goals first
    | (refine Be (fun n=> ?_)
       have h1:=n.2 i a A;rw[w,H]at h1;have h2:=h1.1;have h3:=h1.2
       simp_all
       done)
    | (refine⟨aa,al hw,fun j b X o=> ?_⟩
       by_cases DP:j=i
       ·subst DP;rw[A]at o;cases o;rw[w,H]
        simp_all
        done
       ·exact CA j b aa o)
    | skip
  ·have Ks:i=s.set.length:=aa
   have W:mF p t s:=⟨FD,fun j a A=>CA j a (by rw[Ks];exact(zH.1 A).1) A⟩
   clear CA hg Be FD;have Dn:s.kind=1\/s.kind=2\/s.kind=3\/s.kind=4\/s.kind=5\/s.kind=6\/s.kind=7:=aa
   rcases Dn with k | k | k | k | k | k | k
   ·have m:=VB W k;refine aC k ?_;refine aZ 618951130176758658868709440 s.set.length (fun j D=>(D 11).v=vi j/\da p t s=(s.set.drop j).all fun a=>bq p t a.cell) rfl rfl ⟨am,m⟩ ?_;rintro j D u' Q O X ⟨S,v⟩;have L:=ay j aa;refine aC S ?_;refine aO S ?_ ?_<;>intro h
    ·obtain⟨a,A,C⟩:=au ‹j<s.set.length›;obtain⟨e,x,d⟩:=gf (E.2 a C).1;have K:=tL p a.cell t x e d;have w:=mu (t:=t) e d;refine bj S A K ?_;refine aO S ?_ ?_<;>intro h
     ·rw[v,dy A (by rw[w];simpa using h)]
     ·refine⟨aa,al L,?_⟩;rw[v,dz A (by rw[w];simpa using h)]
    ·have:j=s.set.length:=aa
     subst this;rw[v,dA]
   ·rcases l:s.set with _ | ⟨a,r⟩
    ·rw[Tq (.inl k) l];exact bh k l
    ·have m:=VC W k l;have q:s.set.length=r.length+1:=by rw[l];rfl
     have n:s.set[0]? =some a:=by rw[l];rfl
     have C:a∈s.set:=by rw[l];simp
     obtain⟨e,x,d⟩:=gf (E.2 a C).1;have K:=tL p a.cell t x e d;have w:=mu (t:=t) e d;have H:=fh (g:=Cell.ghost) d;have Az: ¬(((r.length+1:Nat):Int)=0):=aa
     refine cN k q Az n K ?_;refine lj k q n e d ?_ ?_<;>intro h
     ·rw[m,w];simp[h]
     ·have e1:x.thread=t:=bB
      refine lj k q n e d ?_ ?_<;>intro h
      ·rw[m,H];simp[h]
      ·have e2:x.ghost=false:=bB
       refine lj k q n e d ?_ ?_<;>intro h
       ·rw[m];simp[h]
       ·have e3:a.to.op=2:=bB
        obtain⟨V,y,F⟩:=gf (K3 (E.2 a C).2 e3);have M:=wB p a.to.n y V F;have q1:=mu (t:= -1) V F;have q2:=fh (g:=Cell.ghost) F;refine aC M ?_;refine dI V F ?_ ?_<;>intro h
        ·rw[m,q1];simp[h]
        ·have e4:y.thread= -1:=bB
         refine dI V F ?_ ?_<;>intro h
         ·rw[m,q2];simp[h]
         ·rw[w,H,q1,q2]at m;simp only[e1,e2,e3,e4,h,jt,lB,fV,eq]at m;refine aZ 748288836919625719212122688004754514023314867888192 r.length (fun j D=>(D 13).v=vi ((j+1:Nat):Int)/\da p t s=(r.drop j).all fun b=>bq p t b.cell&&cL p b.cell Cell.ghost) rfl rfl ⟨am,m⟩ ?_;rintro j D u' Q O X ⟨B,v⟩;have L:=ay (j+1) aa;refine aR B q ?_;refine dI B q ?_ ?_<;>intro h
          ·obtain⟨b,o,LN⟩:=au (show j<r.length from aa);have Bf:s.set[j+1]? =some b:=by rw[l];exact o
           obtain⟨P,z,I⟩:=gf (E.2 b (by rw[l];simp[LN])).1;have KR:=tL p b.cell t z P I;have z1:=mu (t:=t) P I;have R:=fh (g:=Cell.ghost) I;refine bj B o KR ?_
           repeat'(refine lq B o P I ?_ ?_<;>intro h)
           all_goals first
            | (rw[v,dy o (by rw[z1,R];simp[*])];done)
            | (refine⟨aa,al L,?_⟩
               rw[v,dz o (by rw[z1,R];simp[*])])
          ·have:j=r.length:=aa
           subst this;rw[v,dA]
   ·rcases l:s.set with _ | ⟨a,r⟩
    ·rw[Tq (.inr k) l];exact bh k l
    ·have m:=VD W k l;have q:s.set.length=r.length+1:=by rw[l];rfl
     have n:s.set[0]? =some a:=by rw[l];rfl
     have C:a∈s.set:=by rw[l];simp
     obtain⟨e,x,d⟩:=gf (E.2 a C).1;have M:=wB p a.cell x e d;have w:=mu (t:= -1) e d;have H:=fh (g:=Cell.ghost) d;have Az: ¬(((r.length+1:Nat):Int)=0):=aa
     refine cN k q Az n M ?_;refine lj k q n e d ?_ ?_<;>intro h
     ·rw[m,w];simp[h]
     ·have e1:x.thread= -1:=bB
      refine lj k q n e d ?_ ?_<;>intro h
      ·rw[m,H];simp[h]
      ·rw[w,H]at m;simp only[e1,h,jt,lB,fV,eq]at m;refine aZ 6581968012470941075173766043914016358599614643690763741118349376 r.length (fun j D=>(D 14).v=vi ((j+1:Nat):Int)/\da p t s=(r.drop j).all fun b=>cL p b.cell Cell.ghost) rfl rfl ⟨am,m⟩ ?_;rintro j D u' Q O X ⟨B,v⟩;have L:=ay (j+1) aa;refine aR B q ?_;refine dI B q ?_ ?_<;>intro h
       ·obtain⟨b,o,LN⟩:=au (show j<r.length from aa);have Bf:s.set[j+1]? =some b:=by rw[l];exact o
        obtain⟨P,z,I⟩:=gf (E.2 b (by rw[l];simp[LN])).1;have R:=fh (g:=Cell.ghost) I;refine cV B o P I ?_;refine aO B ?_ ?_<;>intro h
        ·rw[v,dy o (by rw[R];simp[h])]
        ·refine⟨aa,al L,?_⟩;rw[v,dz o (by rw[R];simp[h])]
       ·have:j=r.length:=aa
        subst this;rw[v,dA]
   ·rw[VE W k];exact al k
   all_goals(
    have Y:=kbo;have Z:=WY s.guard;have J:=iR s.target p.threads.length
    have U:da p t s=(if s.kind=5 then s.guard.one&&decide (s.set=[])else if s.kind=6 then gl p t s&&pL p s.target else gl p t s):=by
     rw[da,ac aa,ac aa,ac aa,ac aa]
    simp only[k]at U;rw[show decide (s.guard.op=1/\s.guard.w=1/\s.guard.n=1/\s.guard.kids=[])=s.guard.one from rfl]at Z
    by_cases hn:s.set=[]
    ·have T:s.set.length=0:=by rw[hn];rfl
     by_cases N:inR s.target p.threads.length=true
     ·have Lx:=N;simp only[inR,aQ]at Lx;obtain⟨t0,t1⟩:=Lx;obtain⟨y,F⟩: ∃y,p.threads[s.target.toNat]? =some y:=⟨_,zI aa⟩
      have Eo:pL p s.target=y.asleep:=by simp[pL,F]
      rw[N]at J;refine cV k T Y Z ?_
      repeat'(refine lq k J t0 F ?_ ?_<;>intro h)
      all_goals(
       rw[U]
       simp[gl, *])
     ·have N:inR s.target p.threads.length=false:=ak N
      rw[N]at J;refine cV k T Y Z ?_
      repeat'(refine dI k J ?_ ?_<;>intro h)
      all_goals(
       rw[U]
       simp[gl, *])
    ·have T:(s.set.length:Int)>0:=by have:=wn.2 hn;omega
     refine aR k T ?_;rw[U]
     simp[gl,hn])
end Rg
end
section
-- FULL
namespace Rg
open Go
theorem tC {p:Prog} {set:List Assign}: ∀{l:List Assign} {i:Nat},(a7 (c8 p set) i l).1=0-> ∀a∈l,inR a.cell p.cells.length=true/\a.to.valid p.cells false=true
 | [],_,_,a,c=>by simp at c
 | x::r,i,h,a,c=>by
   rw[a7]at h;split at h
   ·rename_i b;rcases cj.1 c with rfl | c
    ·unfold c8 at b;split at b
     ·simp at b
     ·rename_i d;split at b
      ·simp at b
      ·rename_i e;simp only[eH,ld,eE,rG]at d e;exact⟨d.1,e.1⟩
    ·exact tC h a c
   ·rename_i b;exact absurd h b
set_option maxHeartbeats 4000000 in
theorem Y1 (p:Prog) (Ez: ∀c∈p.cells,-1<=c.thread) (t:Int) (J:0<=t) (x:Thread) (S:p.threads[t.toNat]? =some x) (K7: -2^48<x.points/\x.points<2^48) (s:Step) (Ac:s.set.length<2^48):
 Den Γ G 114 [(zP p),vi t,(zS s)]=some (vi (cG p t x.points s)):=by
 (refine pr Γ114 rfl ?_;dsimp only[f114])
 have X:IntKind.i64.wrap (x.points-1)=x.points-1:=bt aa;have m:=iR s.fr (x.points-1);have H:=iR s.to x.points;have F:=iR s.module p.modules.length;have R:=ub s.guard p.cells false;simp -dsimp [go_sem,J,S]
 by_cases C:kO p x.points s=true
 ·rw[cG,ah C]
  repeat'(refine bp (fun h=> ?_) (fun h=> ?_)<;>(try rw[h])<;>(try simp only[bg]at h)<;>(try simp -dsimp [go_sem,J,S,X,m,H,F]))
  all_goals(exfalso;simp only[kO,eH,zF,eE,aQ]at C;simp_all;try omega)
 ·have K:cG p t x.points s=if !s.guard.valid p.cells false||decide (s.guard.w≠1)then 60 else if ¬(a7 (c8 p s.set) 0 s.set).1=0 then(a7 (c8 p s.set) 0 s.set).1 else if da p t s then 0 else 70:=by rw[cG,ac C]
  have W:kO p x.points s=false:=by simpa using C
  simp only[kO,ju,lF,nh,en]at W;obtain⟨⟨⟨⟨⟨⟨b1,b2⟩,b3⟩,b4⟩,b5⟩,b6⟩,b7⟩:=W;rw[b3]at m;rw[b4]at H;rw[b5]at F
  have V: ∀Q:Prop,(∀(z o A r w:Bool),decide (s.kind=6)=o->decide (s.kind=7)=A->decide (s.kind=3)=z->s.release=r->decide (s.target=0)=w->
   ((o=true/\r=false)\/(o=false/\A=true/\r=false)\/(o=false/\A=false/\w=true/\r=false)\/(o=false/\A=false/\w=true/\r=true/\z=true))->Q)->Q:=fun Q q=>by
   refine q _ _ _ _ _ rfl rfl rfl rfl rfl ?_;simp only[aQ,en]
   by_cases h6:s.kind=6<;>by_cases h7:s.kind=7<;>by_cases h3:s.kind=3<;>cases hr:s.release<;>by_cases hz:s.target=0<;>simp_all
  refine V _ (fun z o A r w e6 e7 N er ez hc=> ?_);have n:s.guard.valid p.cells false=true->s.guard.w=1->cG p t x.points s=if ¬(a7 (c8 p s.set) 0 s.set).1=0 then(a7 (c8 p s.set) 0 s.set).1 else if da p t s then 0 else 70:=fun g1 g2=>by rw[K,ac (by simp[g1,g2])]
  have L:(s.guard.valid p.cells false=false\/ ¬s.guard.w=1)->cG p t x.points s=60:=fun g=>by rw[K,ah (by rcases g with g | g<;>simp[g])]
  have M:1<=s.kind/\s.kind<=7:=aa
  have j:(decide ¬s.kind=3)= !z:=by rw[<- N];simp
  have l:(decide ¬s.target=0)= !w:=by rw[<- ez];simp
  rcases hc with⟨rfl,rfl⟩ | ⟨rfl,rfl,rfl⟩ | ⟨rfl,rfl,rfl,rfl⟩ | ⟨rfl,rfl,rfl,rfl,rfl⟩
  all_goals(try cases w)
  all_goals(try cases z)
  all_goals(try(exfalso;simp only[aQ]at N e6 e7;omega))
  all_goals(
   (try simp only[iA,lB]at j l)
   simp -dsimp [go_sem,J,S,X,m,H,F,b1,b2,e6,e7,j,l,er,R]
   repeat'(refine bp (fun h=> ?_) (fun h=> ?_)<;>(try rw[h])<;>(try simp only[bg]at h)<;>(try simp -dsimp [go_sem,R])))
  all_goals(try(rw[L (.inl ‹_›)];done))
  all_goals(try(rw[L (.inr ‹_›)];done))
  all_goals(
   have n:=n ‹_› ‹_›;have M1:s.guard.valid p.cells false=true:=bB
   clear V L K R m H F j l er N;refine aZ 89202980794122492256657863269248377299144256 s.set.length (fun i f=>(f 9).v=vi i/\a7 (c8 p s.set) 0 s.set=a7 (c8 p s.set) i (s.set.drop i)) rfl rfl ⟨by simp -dsimp [go_sem],rfl⟩ ?_;rintro i f u kk bb hi ⟨e,B⟩;have hw:=ay i aa;simp -dsimp [go_sem,e];refine bp (fun h=> ?_) (fun h=> ?_)<;>(try rw[h])<;>(try simp only[bg]at h)<;>(try simp -dsimp [go_sem,e])
   ·obtain⟨a,v,Cp⟩:=au ‹i<s.set.length›;have m:=iR a.cell p.cells.length
    have D: ∀k:Int,k≠0->c8 p s.set i a=k->cG p t x.points s=k:=fun k P h0=>by
     have h2:=B.trans (g9 v (by rw[h0];exact P));rw[n,h2,h0,ah P]
    simp -dsimp [go_sem,e,v,m];refine bp (fun h=> ?_) (fun h=> ?_)<;>(try rw[h])<;>(try simp only[bg]at h)<;>(try simp -dsimp [go_sem,e])
    ·rw[D 70 aG (by simp[c8,h])]
    ·have Y:inR a.cell p.cells.length=true:=bB
     obtain⟨Z,y,T⟩:=gf Y;refine aZ 1329065736508086659540415482270058560 i (fun k f'=>(f' 11).v=vi k/\(s.set.take k).any (fun b=>decide (b.cell=a.cell))=false) rfl rfl ⟨by simp -dsimp [go_sem],af⟩ ?_;rintro k f' u' kk' bb' P ⟨E,U⟩;have Aw:=ay k aa;simp -dsimp [go_sem,e,E];refine bp (fun h=> ?_) (fun h=> ?_)<;>(try rw[h])<;>(try simp only[bg]at h)<;>(try simp -dsimp [go_sem,e,E])
     ·obtain⟨d,O,JP⟩:=au (show k<s.set.length from aa);simp -dsimp [go_sem,e,E,O];refine bp (fun h=> ?_) (fun h=> ?_)<;>(try rw[h])<;>(try simp only[bg]at h)<;>(try simp -dsimp [go_sem,e,E])
      ·rw[D 70 aG (by rw[c8,ah (by rw[qd O ‹k<i› (by simpa using h)];simp)])]
      ·refine⟨aa,by simp -dsimp [go_sem,Aw],?_⟩;rw[rn O,U];simpa using h
     ·have:k=i:=aa
      subst this;have DT:=ub a.to p.cells false;have Id:=fh (g:=fun x=>decide (a.to.w=x.w)) T
      have I:c8 p s.set k a=if !a.to.valid p.cells false || !cL p a.cell (fun x=>decide (a.to.w=x.w))then 60 else 0:=by
       rw[c8,ac (by rw[Y,U];simp)]
      rw[Id]at I;simp -dsimp [go_sem,e,v,DT];refine bp (fun h=> ?_) (fun h=> ?_)<;>(try rw[h])<;>(try simp only[bg]at h)<;>(try simp -dsimp [go_sem,e,v,Z,T])
      ·rw[D 60 aG (by rw[I];simp[h])]
      ·have Ke:a.to.valid p.cells false=true:=bB
       refine bp (fun h=> ?_) (fun h=> ?_)<;>(try rw[h])<;>(try simp only[bg]at h)<;>(try simp -dsimp [go_sem,e,v,Z,T])
       ·rw[D 60 aG (by rw[I];simp[h])]
       ·refine⟨aa,by simp -dsimp [go_sem,hw],?_⟩;rw[B,iL v (by rw[I];simp[h,Ke])]
   ·have:i=s.set.length:=aa
    subst this;rw[iT]at B;rw[B,ac af]at n;have EL:=Z_ p Ez t J s Ac ⟨M1,tC (i:=0) (set:=s.set) (by rw[B])⟩ M;simp -dsimp [go_sem,EL];refine bp (fun h=> ?_) (fun h=> ?_)<;>(try rw[h])<;>(try simp only[bg]at h)<;>(try simp -dsimp [go_sem])
    ·rw[n];simp[h]
    ·rw[n];simp[h])
end Rg
end
section
-- FULL
namespace Rg
open Go
set_option maxHeartbeats 4000000 in
theorem XE (p:Prog) (C:p.sane) (By:dY p=0) (t:Nat) (x:Thread) (E:p.threads[t]? =some x) (K7:x.points<2^48):
 Den Γ G 88 [(zP p),vi t]=some (.tup [vi (bI p t x).1,vi (bI p t x).2]):=by
 (refine pr Γ88 rfl ?_;dsimp only[f88])
 have N:=xf By;have L:=zL E;obtain⟨s1,s2,s3,s4,s5⟩:=C.thr x L;have hl:=uv x.name s1;have W:(0:Int)<=(t:Int):=aa
 have Dd:t<p.threads.length:=(zH.1 E).1;have BL:=C.threads;have Dc:p.threads[(t:Int).toNat]? =some x:=by simpa using E
 simp -dsimp [go_sem,W,E,hl];refine bp (fun h=> ?_) (fun h=> ?_)<;>(try rw[h])<;>(try simp only[bg]at h)<;>(try simp -dsimp [go_sem])
 ·have:bI p t x=(1,-1):=by rw[bI,ah (by simp[h])]
  rw[this];simp
 ·have P:ee x.name=true:=bB
  refine aZ 274861129904 t (fun k f=>(f 7).v=vi k/\(p.threads.take k).any (fun d=>d.name.toList==x.name.toList)=false) rfl rfl ⟨by simp -dsimp [go_sem],af⟩ ?_;rintro k f u H bb hk ⟨A,J⟩;have c:=ay k aa;simp -dsimp [go_sem,A];refine bp (fun h=> ?_) (fun h=> ?_)<;>(try rw[h])<;>(try simp only[bg]at h)<;>(try simp -dsimp [go_sem,A])
  ·obtain⟨d,T,JP⟩:=au (show k<p.threads.length from aa);simp -dsimp [go_sem,A,T];refine bp (fun h=> ?_) (fun h=> ?_)<;>(try rw[h])<;>(try simp only[bg]at h)<;>(try simp -dsimp [go_sem,A])
   ·have:bI p t x=(41,-1):=by rw[bI,ac (by simp[P]),ah (qd T ‹k<t› (by simpa using h))]
    rw[this];simp
   ·refine⟨aa,by simp -dsimp [go_sem,c],?_⟩;rw[rn T,J];simpa using h
  ·have:k=t:=aa
   subst this
   by_cases V:x.points<1\/ ¬(x.asserts.length:Int)=x.points\/ ¬(x.modules.length:Int)=x.points
   ·have:bI p k x=(1,-1):=by rw[bI,ac (by simp[P]),ac (by simp[J]),ah V]
    rw[this]
    repeat'(refine bp (fun h=> ?_) (fun h=> ?_)<;>(try rw[h])<;>(try simp only[bg]at h)<;>(try simp -dsimp [go_sem]))
    all_goals(exfalso;omega)
   ·have g1: ¬x.points<1:=aa
    have g2:(x.asserts.length:Int)=x.points:=aa
    have g3:(x.modules.length:Int)=x.points:=aa
    have g:bI p k x=if !x.modules.all (fun m=>inR m p.modules.length)then(1,-1)
     else if !x.asserts.all (fun e=>cE p e false k)then(60,-1)
     else if ¬(a7 (fun _ s=>cG p k x.points s) 0 x.steps).1=0 then a7 (fun _ s=>cG p k x.points s) 0 x.steps
     else((a7 (fun _ l=>dM p k x.points l) 0 x.loops).1,-1):=by
     rw[bI,ac (by simp[P]),ac (by simp[J]),ac V]
    have Q:decide (¬(x.asserts.length:Int)=x.points)=false:=by simp[g2]
    have R:decide (¬(x.modules.length:Int)=x.points)=false:=by simp[g3]
    simp -dsimp [go_sem,g1,Q,R];refine aZ 18889321816290504999216 x.modules.length (fun i f=>(f 8).v=vi i/\x.modules.all (fun m=>inR m p.modules.length)=(x.modules.drop i).all (fun m=>inR m p.modules.length)) rfl rfl ⟨by simp -dsimp [go_sem],rfl⟩ ?_;rintro i f u H bb hi ⟨w,a⟩;have c:=ay i aa;simp -dsimp [go_sem,w];refine bp (fun h=> ?_) (fun h=> ?_)<;>(try rw[h])<;>(try simp only[bg]at h)<;>(try simp -dsimp [go_sem,w])
    ·obtain⟨m,b,_⟩:=au ‹i<x.modules.length›;have K:=iR m p.modules.length;simp -dsimp [go_sem,w,b,K];refine bp (fun h=> ?_) (fun h=> ?_)<;>(try rw[h])<;>(try simp only[bg]at h)<;>(try simp -dsimp [go_sem,w])
     ·have:bI p k x=(1,-1):=by rw[g,a,dy b h];simp
      rw[this];simp
     ·refine⟨aa,by simp -dsimp [go_sem,c],?_⟩;rw[a,dz b h]
    ·have:i=x.modules.length:=aa
     subst this;rw[dA]at a;rw[a]at g;simp only[iA,zG,aX]at g;clear a w c;refine aZ 1237921149819448796318270000 x.asserts.length (fun i f=>(f 9).v=vi i/\x.asserts.all (fun e=>cE p e false k)=(x.asserts.drop i).all (fun e=>cE p e false k)) rfl rfl ⟨by simp -dsimp [go_sem],rfl⟩ ?_;rintro i f u H bb hi ⟨y,a⟩;have c:=ay i aa;simp -dsimp [go_sem,y];refine bp (fun h=> ?_) (fun h=> ?_)<;>(try rw[h])<;>(try simp only[bg]at h)<;>(try simp -dsimp [go_sem,y])
     ·obtain⟨e,U,_⟩:=au ‹i<x.asserts.length›;have FS:=uc N e false k aa;simp -dsimp [go_sem,y,U,FS];refine bp (fun h=> ?_) (fun h=> ?_)<;>(try rw[h])<;>(try simp only[bg]at h)<;>(try simp -dsimp [go_sem,y])
      ·have:bI p k x=(60,-1):=by rw[g,a,dy U h];simp
       rw[this];simp
      ·refine⟨aa,by simp -dsimp [go_sem,c],?_⟩;rw[a,dz U h]
     ·have:i=x.asserts.length:=aa
      subst this;rw[dA]at a;rw[a]at g;simp only[iA,zG,aX]at g;clear a y c;refine aZ 649035869376814168186037142031408 x.steps.length (fun i f=>(f 10).v=vi i/\a7 (fun _ s=>cG p k x.points s) 0 x.steps=a7 (fun _ s=>cG p k x.points s) i (x.steps.drop i)) rfl rfl ⟨by simp -dsimp [go_sem],rfl⟩ ?_;rintro i f u H bb hi ⟨v,b⟩;have c:=ay i aa;simp -dsimp [go_sem,v];refine bp (fun h=> ?_) (fun h=> ?_)<;>(try rw[h])<;>(try simp only[bg]at h)<;>(try simp -dsimp [go_sem,v])
      ·obtain⟨s,M,F3⟩:=au ‹i<x.steps.length›;have Z:=Y1 p N k W x Dc ⟨aa,K7⟩ s (C.sets x L s F3);simp -dsimp [go_sem,v,M,Z];refine bp (fun h=> ?_) (fun h=> ?_)<;>(try rw[h])<;>(try simp only[bg]at h)<;>(try simp -dsimp [go_sem,v])
       ·have S:=b.trans (g9 M (by simpa using h));have:bI p k x=(cG p k x.points s,(i:Int)):=by rw[g,S,ah (by simpa using h)]
        rw[this];simp
       ·refine⟨aa,by simp -dsimp [go_sem,c],?_⟩;rw[b,iL M (by simpa using h)]
      ·have:i=x.steps.length:=aa
       subst this;rw[iT]at b;rw[b,ac af]at g;clear b v c;refine aZ 11972621413014756705275549042294937043455087350935600 x.loops.length (fun i f=>(f 12).v=vi i/\a7 (fun _ l=>dM p k x.points l) 0 x.loops=a7 (fun _ l=>dM p k x.points l) i (x.loops.drop i)) rfl rfl ⟨by simp -dsimp [go_sem],rfl⟩ ?_;rintro i f u H bb hi ⟨n,b⟩;have c:=ay i aa;simp -dsimp [go_sem,n];refine bp (fun h=> ?_) (fun h=> ?_)<;>(try rw[h])<;>(try simp only[bg]at h)<;>(try simp -dsimp [go_sem,n])
       ·obtain⟨l,O,Hy⟩:=au ‹i<x.loops.length›;have D4:=C.loops x L l Hy
        have o: ∀F:Int,F≠0->dM p k x.points l=F->bI p k x=(F,-1):=fun F Ah Y=>by
         have S:=b.trans (g9 (f:=fun _ l=>dM p k x.points l) O (by rw[Y];exact Ah));rw[g,S,Y]
        have K:=iR l.head x.points;have Et:=Mg l.body aa;simp -dsimp [go_sem,n,O,K];refine bp (fun h=> ?_) (fun h=> ?_)<;>(try rw[h])<;>(try simp only[bg]at h)<;>(try simp -dsimp [go_sem,n,Et])
        ·rw[o 1 aG (by simp[dM,h])];simp
        ·have f1:inR l.head x.points=true:=bB
         refine bp (fun h=> ?_) (fun h=> ?_)<;>(try rw[h])<;>(try simp only[bg]at h)<;>(try simp -dsimp [go_sem,n])
         ·rw[o 1 aG (by simp[dM,h])];simp
         ·have f2:fY l.body=true:=bB
          refine aZ 730750807776415717631811585530154072011383521328 l.body.length (fun j X=>(X 14).v=vi j/\l.body.all (fun q=>inR q x.points&&decide (q≠l.head))=(l.body.drop j).all (fun q=>inR q x.points&&decide (q≠l.head))) rfl rfl ⟨by simp -dsimp [go_sem],rfl⟩ ?_;rintro j X u' kk' bb' hj ⟨z,a⟩;have Aw:=ay j aa;simp -dsimp [go_sem,z];refine bp (fun h=> ?_) (fun h=> ?_)<;>(try rw[h])<;>(try simp only[bg]at h)<;>(try simp -dsimp [go_sem,z])
          ·obtain⟨q,B,_⟩:=au ‹j<l.body.length›;have NN:=iR q x.points;simp -dsimp [go_sem,z,B,NN]
           repeat'(refine bp (fun h=> ?_) (fun h=> ?_)<;>(try rw[h])<;>(try simp only[bg]at h)<;>(try simp -dsimp [go_sem,z,B]))
           all_goals first
            | (rw[o 1 aG (by rw[dM,ah (by rw[a,dy B (by simp_all)];simp)])];simp;done)
            | (refine⟨aa,by simp -dsimp [go_sem,Aw],?_⟩
               rw[a,dz B (by simp_all)])
          ·have:j=l.body.length:=aa
           subst this;rw[dA]at a
           have I:dM p k x.points l=if !l.variant.valid p.cells false || !c9 p l.variant true k then 60 else 0:=by
            rw[dM,ac (by rw[a,f1,f2];simp)]
           have D:=ub l.variant p.cells false;cases r:l.variant.valid p.cells false
           ·rw[r]at D;simp -dsimp [go_sem,n,D];rw[o 60 aG (by rw[I];simp[r])];simp
           ·rw[r]at D;have De:=uo N (pM r) true k aa (.inl rfl);simp -dsimp [go_sem,n,D,De];refine bp (fun h=> ?_) (fun h=> ?_)<;>(try rw[h])<;>(try simp only[bg]at h)<;>(try simp -dsimp [go_sem,n])
            ·rw[o 60 aG (by rw[I];simp[h])];simp
            ·refine⟨aa,by simp -dsimp [go_sem,c],?_⟩;rw[b,iL O (by rw[I];simp[h,r])]
       ·have:i=x.loops.length:=aa
        subst this;rw[iT]at b;rw[g,b];simp
end Rg
end
section
-- FULL
namespace Rg
open Go
theorem cR {p:Prog} (h:(cK p).1=0):(p.cells.length<=32/\p.modules.length<=6/\p.locks.length<=4/\p.threads.length<=4)/\ ∀x∈p.threads,x.points<=48/\x.steps.length<=64/\x.loops.length<=8:=by
 unfold cK at h;split at h
 ·simp at h
 ·rename_i b;refine⟨aa,?_⟩
  have d: ∀(l:List Thread) (i:Nat),(a7 (fun _ x=>if eu x then 2 else 0) i l).1=0-> ∀x∈l,eu x=false:=by
   intro l
   induction l with
   | nil=>intro i _ c a;simp at a
   | cons x r f=>
     intro i h c a;rw[a7]at h;cases b:eu x
     ·rw[b,ah af]at h;rcases cj.1 a with rfl | a
      ·exact b
      ·exact f _ h c a
     ·rw[b,ac af]at h;simp at h
  intro x e;have:=d _ 0 h x e;simp only[eu,ju,en]at this;omega
theorem wN (p:Prog) (b:p.sane):Den Γ G 65 [(zP p)]=some (.tup [vi (dj p).1,vi (dj p).2.1,vi (dj p).2.2]):=by
 refine aB (q:=?_)
 have q:=Xx p b;refine jV q ?_;refine vE ?_ ?_<;>intro h
 ·have c: ¬(cK p).1=0:=ak h
  have:dj p=((cK p).1,(cK p).2,-1):=by rw[dj,ah c]
  rw[this];simp
 ·have c:(cK p).1=0:=ak h
  obtain⟨⟨y,z,A,B⟩,v⟩:=cR c
  have a:dj p=if ¬dY p=0 then(dY p,-1,-1)else if ¬fp p=0 then(fp p,-1,-1)else if ¬fG p=0 then(fG p,-1,-1)else eT p 0 p.threads:=by
   rw[dj,ac (ak c)]
  have m:=X5 p b;refine bN ?_;refine jV m ?_;refine vE ?_ ?_<;>intro h
  ·have:dj p=(dY p,-1,-1):=by rw[a,ah (ak h)]
   rw[this];simp
  ·have d:dY p=0:=ak h
   have n:=Xm p b d;have o:=ZF p b d;rw[ac (ak d)]at a;refine bN ?_;refine jV n ?_;refine vE ?_ ?_<;>intro h
   ·have:dj p=(fp p,-1,-1):=by rw[a,ah (ak h)]
    rw[this];simp
   ·have r:fp p=0:=ak h
    rw[ac (ak r)]at a;refine bN ?_;refine jV o ?_;refine vE ?_ ?_<;>intro h
    ·have:dj p=(fG p,-1,-1):=by rw[a,ah (ak h)]
     rw[this];simp
    ·have s:fG p=0:=ak h
     rw[ac (ak s)]at a;refine bN ?_;refine GJ ?_;refine aZ 288229276640085788 p.threads.length (fun i f=>(f 8).v=vi i/\dj p=eT p i (p.threads.drop i)) rfl rfl ⟨mP,a⟩ ?_;rintro i f u w bb hi ⟨e,g⟩;have t:=ay i aa;refine jV e ?_;refine zV e ?_ ?_<;>intro h
     ·obtain⟨x,j,l⟩:=au ‹i<p.threads.length›;have k:=XE p b d i x j (by have:=(v x l).1;omega);refine sF e k ?_;refine zV e ?_ ?_<;>intro h
      ·rw[g,Pz j (ak h)];simp
      ·refine⟨aa,G7 t,?_⟩;rw[g,PB j (ak h)]
     ·have:i=p.threads.length:=aa
      subst this;rw[g,Sz];simp
def eJ (l:List ByteArray):List (T×V):=l.map fun b=>(T.str b,V.agg [])
def mf (l:List Int):List (T×V):=l.map fun b=>(ti b,V.agg [])
theorem yj (a b:ByteArray):(a==b)=(a.toList==b.toList):=by
 rw[ByteArray.toList_eq,ByteArray.toList_eq];show(a.data==b.data)=_;rw[Array.beq_toList]
@[go_sem]theorem zBI (b:ByteArray):lX 2 (.t (.str b))=some (.str b):=rfl
@[go_sem]theorem zBJ (k:IntKind) (n:Int):lX 0 (.t (.int k n))=some (.int k n):=rfl
theorem Ty (b:ByteArray): ∀l:List ByteArray,dL (.str b) (eJ l)=some (if l.any (fun c=>c.toList==b.toList)then some (.agg [])else none)
 | []=>rfl
 | c::l=>by
   rw[eJ,aU,dL,eW,yj];rw[show(b.toList==c.toList)=(c.toList==b.toList)from Bool.beq_comm];cases h:(c.toList==b.toList)
   ·simp only[];rw[show(l.map fun b=>(T.str b,V.agg []))=eJ l from rfl,Ty b l,qq,h,we]
   ·simp[h]
theorem RZ (b:ByteArray): ∀l:List ByteArray,l.any (fun c=>c.toList==b.toList)=false->c_ (.str b) (.agg []) (eJ l)=some (eJ (l++[b]))
 | [],_=>rfl
 | c::l,h=>by
   rw[qq,ju]at h;rw[eJ,aU,c_,eW,yj,show(b.toList==c.toList)=(c.toList==b.toList)from Bool.beq_comm,h.1];simp only[];rw[show(l.map fun b=>(T.str b,V.agg []))=eJ l from rfl,RZ b l h.2];rfl
theorem TC (b:ByteArray): ∀l:List ByteArray,∃es,c_ (.str b) (.agg []) (eJ l)=some es
 | []=>⟨_,rfl⟩
 | c::l=>by
   rw[eJ,aU,c_,eW];cases h:(b==c)
   ·simp only[];rw[show(l.map fun b=>(T.str b,V.agg []))=eJ l from rfl];obtain⟨es,a⟩:=TC b l;exact⟨_,by rw[a];rfl⟩
   ·exact⟨_,rfl⟩
theorem yI (b:Int): ∀l:List Int,dL (ti b) (mf l)=some (if l.any (fun c=>decide (c=b))then some (.agg [])else none)
 | []=>rfl
 | c::l=>by
   rw[mf,aU,dL,eW,ah rfl]
   by_cases h:c=b
   ·subst h;simp
   ·have e:(b==c)=false:=by simpa using fun h'=>h h'.symm
    rw[e];simp only[];rw[show(l.map fun b=>(ti b,V.agg []))=mf l from rfl,yI b l,qq];simp[h]
theorem wW (b:Int): ∀l:List Int,l.any (fun c=>decide (c=b))=false->c_ (ti b) (.agg []) (mf l)=some (mf (l++[b]))
 | [],_=>rfl
 | c::l,h=>by
   rw[qq,ju]at h;have e:(b==c)=false:=by simpa using fun h'=>(ak h.1: ¬c=b) h'.symm
   rw[mf,aU,c_,eW,ah rfl,e];simp only[];rw[show(l.map fun b=>(ti b,V.agg []))=mf l from rfl,wW b l h.2];rfl
theorem MH (k:Nat) (b:ByteArray) (l:List ByteArray) (H:ae) (n:Nat) (f:H k=some (.map (eJ l))):
 ∃r h' g,DenR Γ G 97 [.mm k,.t (.str b)] H n=some (r,h',g)/\(n<=g/\r=vb (l.any (fun c=>c.toList==b.toList)))/\
  ∃es,h'=updC H k (some (.map es))/\(l.any (fun c=>c.toList==b.toList)=false->es=eJ (l++[b])):=by
 refine bO (q:=?_)
 have a:=Ty b l;cases e:l.any (fun c=>c.toList==b.toList)
 ·rw[e]at a;have d:=RZ b l e;simp -dsimp only[go_sem,seval,f,a,d,kf,gJ,ml,zG,aT,aX];refine⟨⟨av,am⟩,_,am,fun _=>rfl⟩
 ·rw[e]at a;obtain⟨es,d⟩:=TC b l;simp -dsimp only[go_sem,seval,f,a,d,kf,gJ,ml,zG,aT,aX];refine⟨⟨av,am⟩,es,am,fun h=>by simp at h⟩
theorem OO (k:Nat) (b:ByteArray) (l:List ByteArray) (H:ae) (n:Nat) (f:H k=some (.map (eJ l))):
 ∃r h' a,DenR Γ G 97 [.mm k,.t (.str b)] H n=some (r,h',a)/\r=vb (l.any (fun c=>c.toList==b.toList))/\(l.any (fun c=>c.toList==b.toList)=false->h' k=some (.map (eJ (l++[b])))):=by
 obtain⟨r,h',a,d,⟨_,g⟩,es,rfl,e⟩:=MH k b l H n f;exact⟨r,_,a,d,g,fun h=>by rw[e h,aq,ah rfl]⟩
theorem aw.toT1 {h:ae} {x:Nat} {v:V} {l:List Int} (o:aw h x v 1 (ai l)):Rg.toT1 h v=some (.t (ints l)):=by
 have:=i8 o (iI _);rcases o with⟨rfl,a⟩ | ⟨k,rfl,_,_⟩
 ·have:l=[]:=by simpa[ai]using a
  subst this;rfl
 ·simp only[Rg.toT1,this,cZ]
theorem r9 (e:Expr) (F:T) (P:Int->Bool) (b:IsF F P):Den Γ G 108 [(.agg [.t (ti (e).op),.t (ti (e).w),.t (ti (e).n),.t (.sl ((e).kids.map (Expr.enc)))]),.t F]=some (vb ((e.sup 3).all P&&(e.sup 2).all P)):=by
 refine aB (q:=?_)
 have c:=b.1;simp only[T.norm]at c;have n:=nE 3 e;have m:=nE 2 e;have a:=rq F P b (e.sup 3) aa;have l:=rq F P b (e.sup 2) aa;refine aE ?_;refine be (xk e _ _) ?_;rintro r h' o ⟨q,p,rfl,i,h,_,_⟩;have k:=i.valOf;have j:=h.valOf;have f:=i.toT1;have d:=h.toT1;simp only[Rg.toT1]at f d;cases g:(e.sup 3).all P
 ·rw[g]at a;refine fZ a c k j f d ?_;simp
 ·rw[g]at a;exact VL a l c k j f d @eq
theorem Sa (p:Prog) (e:Expr) (pair:Bool) (F:T) (P:Int->Bool) (d:IsF F P):Den Γ G 99 [(zP p),(.agg [.t (ti (e).op),.t (ti (e).w),.t (ti (e).n),.t (.sl ((e).kids.map (Expr.enc)))]),vb pair,.t F]=
 some (vb (e.valid p.cells pair&&decide (e.w=1)&&((e.sup 3).all P&&(e.sup 2).all P))):=by
 refine aB (q:=?_)
 have f:=d.1;simp only[T.norm]at f;have a:=ua e p.cells pair;have c:=r9 e F P d
 by_cases b:e.w=1
 ·cases g:e.valid p.cells pair
  ·rw[g]at a;refine aC b ?_;rw[b]at a;refine aC a ?_;simp
  ·rw[g]at a;rw[b]at a c;exact pp b a c f @eq @fV
 ·refine aC b ?_;simp
theorem Xy (p:Prog) (o:p.sane):Den Γ G 79 [(zP p)]=some (.tup [vi (cK p).1,vi (cK p).2]):=by
 refine aB (q:=aE ?_)
 by_cases e:(p.cells.length:Int)>32\/(p.modules.length:Int)>6\/(p.locks.length:Int)>4\/(p.threads.length:Int)>4
 ·have a:cK p=(2,-1):=by rw[cK,ah e]
  rw[a]
  repeat'(refine gy ?_ ?_<;>intro h<;>try exact⟨⟩)
  all_goals omega
 ·have a:cK p=a7 (fun _ x=>if eu x then 2 else 0) 0 p.threads:=by rw[cK,ac e]
  have j: ¬(p.cells.length:Int)>32:=aa
  have k: ¬(p.modules.length:Int)>6:=aa
  have l: ¬(p.locks.length:Int)>4:=aa
  have m: ¬(p.threads.length:Int)>4:=aa
  refine cV j k l m ?_;refine aZ 72057576858058860 p.threads.length (fun i f=>(f 34).v=vi i/\cK p=a7 (fun _ x=>if eu x then 2 else 0) i (p.threads.drop i)) rfl rfl ⟨am,a⟩ ?_;clear a;rintro i f u q bb hi ⟨b,a⟩;have n:=ay i aa;refine aC b ?_;refine aO b ?_ ?_<;>intro h
  ·obtain⟨x,d,_⟩:=au ‹i<p.threads.length›;have c:eu x=true->cK p=(2,(i:Int)):=fun g=>by rw[a,g9 d (by simp[g])];simp[g]
   refine aR b d ?_
   repeat'(refine aO b ?_ ?_<;>intro h)
   ·rw[c (by simp[eu, *])];simp
   ·rw[c (by simp[eu, *])];simp
   ·rw[c (by simp[eu, *])];simp
   ·refine⟨aa,al n,?_⟩;rw[a,iL d (by simp[eu, *])]
  ·have:i=p.threads.length:=aa
   subst this;rw[a,iT];simp
theorem sg {w:Int} (h:0<=w/\w<=62):IntKind.i64.wrap (1*2^min w.toNat 64)=2^w.toNat:=by
 have:min w.toNat 64=w.toNat:=je aa;rw[this,xm];have a:(2:Int)^w.toNat<=2^62:=lg aa;have b:=iN w.toNat;exact bt aa
theorem S5 {w:Int} (h:0<=w/\w<=62):IntKind.u64.wrap w=w:=by
 have a:IntKind.u64.wrap w=w % 2^64:=by simp[IntKind.wrap,IntKind.signed,IntKind.bits]
 rw[a];omega
theorem X6 (p:Prog) (L:p.sane):Den Γ G 80 [(zP p)]=some (vi (dY p)):=by
 refine aB (q:=aE ?_);have U:=L.cells;refine aS 4611686018427385892 p.cells.length (fun i f h x=>(f 11).v=vi i/\h 2=some (.map (eJ ((p.cells.take i).map Cell.name)))/\dY p=(a7 (gg p) i (p.cells.drop i)).1) rfl ⟨am,by simp -dsimp only[go_sem,seval];rfl,rfl⟩ ?_;rintro i f u K x bs hi ⟨a,D,j⟩;have M:=ay i aa;refine aC a ?_;refine aO a ?_ ?_<;>intro h
 ·obtain⟨c,b,T⟩:=au ‹i<p.cells.length›;have g:=t6 c.name;have m:=iJ c.init (2^c.w.toNat);have l:=iJ c.thread p.threads.length;have o:=iJ c.module p.modules.length
  have B:gh p c=true->dY p=1:=fun J=>by
   have:gg p i c=1:=by simp[gg,J]
   rw[j,g9 b (by simp[this])];exact this
  by_cases e:gh p c=true
  ·rw[B e]
   by_cases V:1<=c.w/\c.w<=8
   ·have q:=sg (w:=c.w) aa;have s:=S5 (w:=c.w) aa;have k: ¬c.w<0:=aa
    refine bj a b g ?_
    repeat'(refine VO a m l o q s k ?_ ?_<;>intro h<;>try exact⟨⟩)
    all_goals(exfalso;simp only[gh,inR,eH,eE,aQ,en]at *;simp_all;(try omega);done)
   ·have k:c.w<1\/c.w>8:=aa
    refine bj a b g ?_;refine aO a ?_ ?_<;>intro h<;>try exact⟨⟩
    refine aO a ?_ ?_<;>intro h<;>try exact⟨⟩
    refine aO a ?_ ?_<;>intro h<;>try exact⟨⟩
    all_goals(exfalso;omega)
  ·have C:gh p c=false:=ak e
   obtain⟨F,b2,W,X,Y,Z,b7,H⟩:=xh C;have q:=sg (w:=c.w) aa;have s:=S5 (w:=c.w) aa;have k: ¬c.w<0:=aa
   have P: ¬c.w<1:=aa
   have R: ¬c.w>8:=aa
   have I:inR c.init (2^c.w.toNat)=true:=by simp[inR];omega
   rw[F]at g;rw[I]at m;rw[H]at o;have E:=fun n=>OO 2 c.name ((p.cells.take i).map Cell.name) K n D
   have t:((p.cells.take i).map Cell.name).any (fun d=>d.toList==c.name.toList)=(p.cells.take i).any (fun d=>d.name.toList==c.name.toList):=by rw[ra];rfl
   have A: ∀Q:Prop,(c.thread= -1->Q)->(¬c.thread= -1->inR c.thread p.threads.length=true->Q)->Q:=fun Q N O=>by
    by_cases h:c.thread= -1
    ·exact N h
    ·exact O h (by simp[inR];omega)
   refine A _ (fun y=> ?_) (fun y S=> ?_)
   all_goals(
    (try rw[S]at l)
    refine GM a b g m l o q s k P R y ?_;refine be (E _) ?_;rintro r h' n' ⟨rfl,v⟩;rw[t]at v;refine aR a t ?_;refine aO a ?_ ?_<;>intro h
    ·have:gg p i c=41:=by rw[gg,ac e,ah h]
     rw[j,g9 b (by simp[this])];exact this.symm
    ·refine⟨aa,al M,?_,?_⟩
     ·have z:=v h;refine aC z ?_;rw[a8 b];simp
     ·rw[j,iL b (by rw[gg,ac e,ac (by simp[h])])])
 ·have:i=p.cells.length:=aa
  subst this;rw[j,iT]
end Rg
end
