/- Part of the proof of laws of relyguardlaw36. No condition. -/
import Derived.Test.YtaiokglcgiemnaaGreatDoorGartAL
set_option linter.unusedSimpArgs false
set_option linter.unusedVariables false
set_option linter.defProp false
section
namespace Rg
open Go
def aZ {α:Type} (f:Nat->α->Int):Nat->List α->Int×Int
 | _,[]=>(0,-1)
 | i,x::r=>if f i x=0 then aZ f (i+1) r else(f i x,i)
theorem jj {α:Type} {l:List α} {i:Nat} {x:α} (h:l[i]? =some x):l.drop i=x::l.drop (i+1):=by
 obtain⟨hi,rfl⟩:=zH.1 h;exact vT hi
theorem iJ {α:Type} {f:Nat->α->Int} {l:List α} {i:Nat} {x:α} (h:l[i]? =some x) (a:f i x=0):aZ f i (l.drop i)=aZ f (i+1) (l.drop (i+1)):=by
 rw[jj h,aZ,ah a]
theorem g6 {α:Type} {f:Nat->α->Int} {l:List α} {i:Nat} {x:α} (h:l[i]? =some x) (a: ¬f i x=0):aZ f i (l.drop i)=(f i x,(i:Int)):=by
 rw[jj h,aZ,ac a]
theorem iR {α:Type} (f:Nat->α->Int) (l:List α):aZ f l.length (l.drop l.length)=(0,-1):=by
 rw[rJ];rfl
theorem ee {α:Type} {P:α->Bool} {l:List α} {i:Nat} {x:α} (h:l[i]? =some x) (a:P x=true):(l.drop i).all P=(l.drop (i+1)).all P:=by
 rw[jj h,ey,a,eA]
theorem ed {α:Type} {P:α->Bool} {l:List α} {i:Nat} {x:α} (h:l[i]? =some x) (a:P x=false):(l.drop i).all P=false:=by
 rw[jj h,ey,a,ik]
theorem ek {α:Type} (P:α->Bool) (l:List α):(l.drop l.length).all P=true:=by
 rw[rJ];rfl
theorem xF {α:Type} {P:α->Bool} {l:List α} {i:Nat} {x:α} (h:l[i]? =some x) (a:P x=false):(l.drop i).any P=(l.drop (i+1)).any P:=by
 rw[jj h,qs,a,v8]
theorem xE {α:Type} {P:α->Bool} {l:List α} {i:Nat} {x:α} (h:l[i]? =some x) (a:P x=true):(l.drop i).any P=true:=by
 rw[jj h,qs,a,wJ]
theorem y7 {α:Type} (P:α->Bool) (l:List α):(l.drop l.length).any P=false:=by
 rw[rJ];rfl
def lQ (p:Prog) (sh:Bool) (t c:Int):Bool:=if sh then e_ p t c else br p t c
def c_ (p:Prog) (e:Expr) (sh:Bool) (t:Int):Bool:=(e.sup 3).all (lQ p sh t)&&(e.sup 2).all (lQ p sh t)
def cH (p:Prog) (e:Expr) (pair:Bool) (t:Int):Bool:=e.valid p.cells pair&&decide (e.w=1)&&c_ p e true t
def eB (x:Thread):Bool:=decide (x.points>48)||decide ((x.steps.length:Int)>64)||decide ((x.loops.length:Int)>8)
def cM (p:Prog):Int×Int:=
 if(p.cells.length:Int)>32\/(p.modules.length:Int)>6\/(p.locks.length:Int)>4\/(p.threads.length:Int)>4 then(2,-1)
 else aZ (fun _ x=>if eB x then 2 else 0) 0 p.threads
def gf (p:Prog) (c:Cell):Bool:=
 !eg c.name||decide (c.w<1)||decide (c.w>8)||decide (c.init<0)||decide (c.init>=2^c.w.toNat)||decide (c.thread< -1)||decide (c.thread>=p.threads.length) || !inR c.module p.modules.length
def ge (p:Prog) (i:Nat) (c:Cell):Int:=
 if gf p c then 1 else if(p.cells.take i).any (fun d=>d.name.toList==c.name.toList)then 41 else 0
def dX (p:Prog):Int:=(aZ (ge p) 0 p.cells).1
def g8 (p:Prog) (i:Nat) (m:Contract):Int:=
 if !eg m.name || !eg m.owner then 1
 else if(p.modules.take i).any (fun d=>d.name.toList==m.name.toList)then 41
 else if(!m.rely.absent&& !cH p m.rely true (-1)) || !cH p m.guar true (-1)then 60
 else if !fW m.frame || !m.frame.all (br p (-1))then 1 else 0
def ft (p:Prog):Int:=(aZ (g8 p) 0 p.modules).1
def cN (p:Prog) (c:Int) (f:Cell->Bool):Bool:=match p.cells[c.toNat]? with
 | some x=>f x
 | none=>false
def iv (p:Prog) (i:Nat) (l:Lock):Int:=
 if !br p (-1) l.cell || !cN p l.cell (fun x=>decide (x.w=1))||cN p l.cell Cell.ghost || !inR l.module p.modules.length then 1
 else if(p.locks.take i).any (fun d=>decide (d.cell=l.cell))then 1
 else if !cH p l.inv false (-1)then 60 else 0
def fI (p:Prog):Int:=(aZ (iv p) 0 p.locks).1
def c9 (p:Prog) (set:List Assign) (i:Nat) (a:Assign):Int:=
 if !inR a.cell p.cells.length||(set.take i).any (fun b=>decide (b.cell=a.cell))then 70
 else if !a.to.valid p.cells false || !cN p a.cell (fun x=>decide (a.to.w=x.w))then 60 else 0
def fV (p:Prog) (s:Step) (sh:Bool) (t:Int):Bool:=c_ p s.guard sh t&&s.set.all fun a=>c_ p a.to sh t
def gh (p:Prog) (t:Int) (s:Step):Bool:=s.guard.one&&decide (s.set=[])&&decide (s.target≠t)&&inR s.target p.threads.length
def pO (p:Prog) (t:Int):Bool:=match p.threads[t.toNat]? with
 | some x=>x.asleep
 | none=>false
def mG (p:Prog) (t:Int) (s:Step):Bool:=match s.set with
 | []=>false
 | a::r=>c_ p s.guard false t&&br p t a.cell&& !cN p a.cell Cell.ghost&&decide (a.to.op=2)&&br p (-1) a.to.n&& !cN p a.to.n Cell.ghost&&
    r.all fun b=>br p t b.cell&&cN p b.cell Cell.ghost&&c_ p b.to false t
def mE (p:Prog) (t:Int) (s:Step):Bool:=match s.set with
 | []=>false
 | a::r=>fV p s false t&&br p (-1) a.cell&& !cN p a.cell Cell.ghost&&r.all fun b=>cN p b.cell Cell.ghost&&e_ p t b.cell
def db (p:Prog) (t:Int) (s:Step):Bool:=
 if s.kind=1 then fV p s false t&&s.set.all fun a=>br p t a.cell
 else if s.kind=2 then mG p t s
 else if s.kind=3 then mE p t s
 else if s.kind=4 then fV p s true t&&s.set.all fun a=>e_ p t a.cell
 else if s.kind=5 then s.guard.one&&decide (s.set=[])
 else if s.kind=6 then gh p t s&&pO p s.target
 else gh p t s
def kO (p:Prog) (n:Int) (s:Step):Bool:=
 decide (s.kind<1)||decide (s.kind>7) || !inR s.fr (n-1) || !inR s.to n || !inR s.module p.modules.length||(s.release&&decide (s.kind≠3))||(decide (s.target≠0)&& !(decide (s.kind=6)||decide (s.kind=7)))
def cI (p:Prog) (t n:Int) (s:Step):Int:=
 if kO p n s then 70
 else if !s.guard.valid p.cells false||decide (s.guard.w≠1)then 60
 else if ¬(aZ (c9 p s.set) 0 s.set).1=0 then(aZ (c9 p s.set) 0 s.set).1
 else if db p t s then 0 else 70
def dL (p:Prog) (t n:Int) (l:Loop):Int:=
 if !inR l.head n || !fW l.body || !l.body.all (fun k=>inR k n&&decide (k≠l.head))then 1
 else if !l.variant.valid p.cells false || !c_ p l.variant true t then 60 else 0
def bI (p:Prog) (i:Nat) (x:Thread):Int×Int:=
 if !eg x.name then(1,-1)
 else if(p.threads.take i).any (fun d=>d.name.toList==x.name.toList)then(41,-1)
 else if x.points<1\/ ¬(x.asserts.length:Int)=x.points\/ ¬(x.modules.length:Int)=x.points then(1,-1)
 else if !x.modules.all (fun m=>inR m p.modules.length)then(1,-1)
 else if !x.asserts.all (fun e=>cH p e false i)then(60,-1)
 else if ¬(aZ (fun _ s=>cI p i x.points s) 0 x.steps).1=0 then aZ (fun _ s=>cI p i x.points s) 0 x.steps
 else((aZ (fun _ l=>dL p i x.points l) 0 x.loops).1,-1)
def eU (p:Prog):Nat->List Thread->Int×Int×Int
 | _,[]=>(0,-1,-1)
 | i,x::r=>if(bI p i x).1=0 then eU p (i+1) r else((bI p i x).1,(i:Int),(bI p i x).2)
def dl (p:Prog):Int×Int×Int:=
 if ¬(cM p).1=0 then((cM p).1,(cM p).2,-1)
 else if ¬dX p=0 then(dX p,-1,-1)
 else if ¬ft p=0 then(ft p,-1,-1)
 else if ¬fI p=0 then(fI p,-1,-1)
 else eU p 0 p.threads
theorem Pe {p:Prog} {l:List Thread} {i:Nat} {x:Thread} (h:l[i]? =some x) (a:(bI p i x).1=0):eU p i (l.drop i)=eU p (i+1) (l.drop (i+1)):=by
 rw[jj h,eU,ah a]
theorem Pd {p:Prog} {l:List Thread} {i:Nat} {x:Thread} (h:l[i]? =some x) (a: ¬(bI p i x).1=0):eU p i (l.drop i)=((bI p i x).1,(i:Int),(bI p i x).2):=by
 rw[jj h,eU,ac a]
theorem Sj (p:Prog) (l:List Thread):eU p l.length (l.drop l.length)=(0,-1,-1):=by
 rw[rJ];rfl
structure Prog.sane (p:Prog):Prop where
 cells:p.cells.length<2^48
 modules:p.modules.length<2^48
 locks:p.locks.length<2^48
 threads:p.threads.length<2^48
 cname: ∀c∈p.cells,c.name.size<2^50
 mname: ∀m∈p.modules,m.name.size<2^50/\m.owner.size<2^50/\m.frame.length<2^48
 thr: ∀t∈p.threads,t.name.size<2^50/\t.asserts.length<2^48/\t.modules.length<2^48/\t.steps.length<2^48/\t.loops.length<2^48
 sets: ∀t∈p.threads,∀s∈t.steps,s.set.length<2^48
 loops: ∀t∈p.threads,∀l∈t.loops,l.body.length<2^48
end Rg
end
section
-- FULL
namespace Rg
open Go
theorem SB {p:Prog} (d: ∀c∈p.cells,-1<=c.thread) (sh:Bool) (t c:Int) (f: -1<=t) (e:sh=true\/0<=t) (b:0<=c):qT p sh t c=lQ p sh t c:=by
 unfold qT lQ e_ br;rcases g:p.cells[c.toNat]? with _ | x
 ·cases sh<;>simp
 ·have:=d x (zL g);simp only[b,lE,eA]
  have a:(decide (0<=x.thread))= !decide (x.thread= -1):=by
   by_cases h:x.thread= -1
   ·simp[h]
   ·simp[h];omega
  rw[a];cases sh
  ·have f:0<=t:=al e
   by_cases h:x.thread= -1
   ·simp[h];omega
   ·simp[h]
  ·by_cases h:x.thread= -1
   ·simp[h]
   ·simp[h]
theorem uv {α:Type} {P Q:α->Bool} {l:List α} (h: ∀x∈l,P x=Q x):l.all P=l.all Q:=by
 induction l with
 | nil=>rfl
 | cons x r b=>rw[ey,ey,h x af,b fun y a=>h y (by simp[a])]
theorem Sl {op:Int} {e:Expr} {c:Int} (h:c∈e.sup op):0<=c/\e.formed=true/\ ∃x∈e.lv,x.op=op/\x.n.toNat=c.toNat:=by
 unfold Expr.sup at h;split at h
 ·rename_i i;obtain⟨j,d,rfl⟩:=cy.1 h;refine⟨aa,i,?_⟩;obtain⟨_,d⟩:=f_.1 d
  have f: ∀(l:List Expr) (s:List Bool),(l.foldl (bZ op) s).getD j false=true->s.getD j false=true\/ ∃x∈l,x.op=op/\x.n.toNat=j:=by
   intro l
   induction l with
   | nil=>intro s h;exact .inl h
   | cons x l o=>
     intro s h;rw[iy]at h;rcases o _ h with h | ⟨y,n,a,b⟩
     ·unfold bZ at h;split at h
      ·rename_i k
       by_cases g:x.n.toNat=j
       ·exact .inr ⟨x,af,k,g⟩
       ·left;simpa[List.getD,cx,g]using h
      ·exact .inl h
     ·exact .inr ⟨y,by simp[n],a,b⟩
  rcases f _ _ d with h | ⟨x,m,a,b⟩
  ·have:(List.replicate 32 false).getD j false=false:=by
    rw[List.getD,nk];split<;>rfl
   rw[this]at h;simp at h
  ·exact⟨x,m,a,al b⟩
 ·simp at h
theorem pP {p:Prog} {e:Expr} {pair:Bool} (h:e.valid p.cells pair=true):yX p e:=by
 intro op f c i;obtain⟨g,d,x,j,b,k⟩:=Sl i;refine⟨g,?_⟩;unfold Expr.valid at h;rw[d,eA,Tf (fun x=>K0 p.cells pair) 40 e (lY d)]at h;have:=zN.1 h x j;unfold dJ at this;rcases f with rfl | rfl
 ·simp only[b]at this;rcases a:p.cells[x.n.toNat]? with _ | y
  ·simp[a]at this
  ·have:=(zH.1 a).1;omega
 ·simp only[b]at this;rcases a:p.cells[x.n.toNat]? with _ | y
  ·simp[a]at this
  ·have:=(zH.1 a).1;omega
theorem ur {p:Prog} (d: ∀c∈p.cells,-1<=c.thread) {e:Expr} (a:yX p e) (sh:Bool) (t:Int) (g: -1<=t) (f:sh=true\/0<=t):
 Den Γ G 115 [(zP p),(.agg [.t (ti (e).op),.t (ti (e).w),.t (ti (e).n),.t (.sl ((e).kids.map (Expr.enc)))]),vb sh,vi t]=some (vb (c_ p e sh t)):=by
 rw[Za p e sh t a,nq,c_];rw[uv (l:=e.sup 3) fun c b=>SB d sh t c g f (a 3 (.inr rfl) c b).1];rw[uv (l:=e.sup 2) fun c b=>SB d sh t c g f (a 2 (.inl rfl) c b).1]
theorem uf {p:Prog} (f: ∀c∈p.cells,-1<=c.thread) (e:Expr) (pair:Bool) (t:Int) (g: -1<=t):
 Den Γ G 112 [(zP p),(.agg [.t (ti (e).op),.t (ti (e).w),.t (ti (e).n),.t (.sl ((e).kids.map (Expr.enc)))]),vb pair,vi t]=some (vb (cH p e pair t)):=by
 refine aD (q:=?_)
 have b:=ue e p.cells pair;cases a:e.valid p.cells pair
 ·rw[a]at b;refine jV b ?_;simp[cH,a]
 ·rw[a]at b;have d:=ur f (pP a) true t g (.inl rfl);refine jV b ?_;refine zy d ?_ ?_<;>intro h
  ·simp[cH,a,h]
  ·simp[cH,a,h]
theorem kbe:Den Γ G 157 []=some (.agg [vi 1,vi 1,vi 1,.t (.sl [])]):=by
 refine aD (q:=?_)
 have a:=r_ 1 1;exact F_ a
theorem Xn (p:Prog) (o:p.sane):Den Γ G 84 [(zP p)]=some (.tup [vi (cM p).1,vi (cM p).2]):=by
 (refine px Γ84 rfl ?_;dsimp only[f84])
 simp -dsimp [go_sem]
 by_cases e:(p.cells.length:Int)>32\/(p.modules.length:Int)>6\/(p.locks.length:Int)>4\/(p.threads.length:Int)>4
 ·have a:cM p=(2,-1):=by rw[cM,ah e]
  rw[a]
  repeat'(refine bq (fun h=> ?_) (fun h=> ?_)<;>(try rw[h])<;>(try simp only[bh]at h)<;>(try simp -dsimp [go_sem]))
  all_goals(try omega)
 ·have a:cM p=aZ (fun _ x=>if eB x then 2 else 0) 0 p.threads:=by rw[cM,ac e]
  have j: ¬(p.cells.length:Int)>32:=aa
  have k: ¬(p.modules.length:Int)>6:=aa
  have l: ¬(p.locks.length:Int)>4:=aa
  have m: ¬(p.threads.length:Int)>4:=aa
  simp -dsimp [go_sem,j,k,l,m];refine a8 72057593769492540 p.threads.length (fun i f=>(f 4).v=vi i/\cM p=aZ (fun _ x=>if eB x then 2 else 0) i (p.threads.drop i)) rfl rfl ⟨by simp -dsimp [go_sem],a⟩ ?_;clear a;rintro i f u q bb hi ⟨c,a⟩;have n:=aB i aa;simp -dsimp [go_sem,c];refine bq (fun h=> ?_) (fun h=> ?_)<;>(try rw[h])<;>(try simp only[bh]at h)<;>(try simp -dsimp [go_sem])
  ·obtain⟨x,d,_⟩:=au ‹i<p.threads.length›;have b:eB x=true->cM p=(2,(i:Int)):=fun g=>by rw[a,g6 d (by simp[g])];simp[g]
   simp -dsimp [go_sem,c,d]
   repeat'(refine bq (fun h=> ?_) (fun h=> ?_)<;>(try rw[h])<;>(try simp only[bh]at h)<;>(try simp -dsimp [go_sem,c]))
   ·rw[b (by simp[eB, *])];simp
   ·rw[b (by simp[eB, *])];simp
   ·rw[b (by simp[eB, *])];simp
   ·refine⟨aa,by simp -dsimp [go_sem,n],?_⟩;rw[a,iJ d (by simp[eB, *])]
  ·have:i=p.threads.length:=aa
   subst this;rw[a,iR];simp
end Rg
end
section
-- FULL
namespace Rg
open Go
theorem qf {α:Type} {P:α->Bool} {l:List α} {i j:Nat} {x:α} (b:l[j]? =some x) (a:j<i) (h:P x=true):(l.take i).any P=true:=by
 rw[lu];exact⟨x,zL (by rw[zO,ah a];exact b),h⟩
theorem rt {α:Type} {P:α->Bool} {l:List α} {j:Nat} {x:α} (a:l[j]? =some x):(l.take (j+1)).any P=((l.take j).any P||P x):=by
 rw[a_ a,vP];simp
theorem XV (p:Prog) (v:p.sane):Den Γ G 85 [(zP p)]=some (vi (dX p)):=by
 (refine px Γ85 rfl ?_;dsimp only[f85])
 simp -dsimp [go_sem];refine a8 2417851639229258349412348 p.cells.length (fun i f=>(f 3).v=vi i/\dX p=(aZ (ge p) i (p.cells.drop i)).1) rfl rfl ⟨by simp -dsimp [go_sem],rfl⟩ ?_;rintro i f u O bb hi ⟨a,m⟩;have K:=v.cells;have I:=aB i aa;simp -dsimp [go_sem,a];refine bq (fun h=> ?_) (fun h=> ?_)<;>(try rw[h])<;>(try simp only[bh]at h)<;>(try simp -dsimp [go_sem,a])
 ·obtain⟨c,b,y⟩:=au ‹i<p.cells.length›
  have w:gf p c=true->dX p=1:=fun H=>by
   have:ge p i c=1:=by simp[ge,H]
   rw[m,g6 b (by simp[this])];exact this
  have l:=uy c.name (v.cname c y);have g:=iP c.module p.modules.length
  by_cases e:gf p c=true
  ·rw[w e]
   by_cases M:c.w<=8
   ·have hp:=pe c.w aa;simp -dsimp [go_sem,a,b,l]
    repeat'(refine bq (fun h=> ?_) (fun h=> ?_)<;>(try rw[h])<;>(try simp only[bh]at h)<;>(try simp -dsimp [go_sem,a,hp,g]))
    all_goals(exfalso;simp only[gf,fg,eI,aQ]at e;grind)
   ·have F:c.w>8:=aa
    simp -dsimp [go_sem,a,b,l,F]
    repeat'(refine bq (fun h=> ?_) (fun h=> ?_)<;>(try rw[h])<;>(try simp only[bh]at h)<;>(try simp -dsimp [go_sem,a,g]))
    all_goals(exfalso;omega)
  ·have s:=e;simp only[gf,fg,eI,aQ,ml]at s;obtain⟨⟨⟨⟨⟨⟨⟨n,b2⟩,z⟩,A⟩,B⟩,C⟩,D⟩,o⟩:=s;have n:eg c.name=true:=by simpa using n
   have o:inR c.module p.modules.length=true:=by simpa using o
   rw[n]at l;rw[o]at g;have hp:=pe c.w aa;simp -dsimp [go_sem,a,b,l,b2,z,A,hp,B,C,D,g];refine a8 2417704065276668672999460 i (fun k t=>(t 5).v=vi k/\(p.cells.take k).any (fun d=>d.name.toList==c.name.toList)=false) rfl rfl ⟨by simp -dsimp [go_sem],af⟩ ?_;rintro k t P J E N ⟨j,r⟩;have x:=aB k aa;simp -dsimp [go_sem,a,j];refine bq (fun h=> ?_) (fun h=> ?_)<;>(try rw[h])<;>(try simp only[bh]at h)<;>(try simp -dsimp [go_sem,a,j])
   ·obtain⟨d,q,L⟩:=au (show k<p.cells.length from aa);simp -dsimp [go_sem,a,j,q];refine bq (fun h=> ?_) (fun h=> ?_)<;>(try rw[h])<;>(try simp only[bh]at h)<;>(try simp -dsimp [go_sem,a,j])
    ·have:ge p i c=41:=by
      rw[ge,ac e,ah (qf q ‹k<i› (by simpa using h))]
     rw[m,g6 b (by simp[this])];exact this.symm
    ·refine⟨aa,by simp -dsimp [go_sem,x],?_⟩;rw[rt q,r];simpa using h
   ·have:k=i:=aa
    subst this;refine⟨aa,by simp -dsimp [go_sem,I],?_⟩;rw[m,iJ b (by rw[ge,ac e,ac (by simp[r])])]
 ·have:i=p.cells.length:=aa
  subst this;rw[m,iR]
theorem Jr {p:Prog} (h:dX p=0): ∀c∈p.cells,gf p c=false:=by
 have d: ∀(l:List Cell) (i:Nat),(aZ (ge p) i l).1=0-> ∀c∈l,gf p c=false:=by
  intro l
  induction l with
  | nil=>intro i _ c a;simp at a
  | cons x r f=>
    intro i h c a;rw[aZ]at h;split at h
    ·rename_i b;rcases cj.1 a with rfl | a
     ·cases e:gf p c
      ·rfl
      ·simp[ge,e]at b
     ·exact f _ h c a
    ·rename_i b;exact absurd h b
 exact d p.cells 0 h
theorem xe {p:Prog} {c:Cell} (h:gf p c=false):eg c.name=true/\1<=c.w/\c.w<=8/\0<=c.init/\c.init<2^c.w.toNat/\ -1<=c.thread/\c.thread<p.threads.length/\inR c.module p.modules.length=true:=by
 simp only[gf,js,ni,d8]at h;obtain⟨⟨⟨⟨⟨⟨⟨a,b2⟩,d⟩,e⟩,f⟩,g⟩,i⟩,b⟩:=h;exact⟨a,aa,aa,aa,aa,aa,aa,b⟩
theorem xc {p:Prog} (h:dX p=0): ∀c∈p.cells,-1<=c.thread:=fun c a=>(xe (Jr h c a)).2.2.2.2.2.1
theorem mr {p:Prog} {c t:Int} {x:Cell} (a:0<=c) (b:p.cells[c.toNat]? =some x):br p t c=decide (x.thread=t):=by
 simp[br,a,b]
theorem Xc (p:Prog) (L:p.sane) (U:dX p=0):Den Γ G 86 [(zP p)]=some (vi (ft p)):=by
 (refine px Γ86 rfl ?_;dsimp only[f86])
 simp -dsimp [go_sem];have B:=xc U;refine a8 39614081257132168796771975164 p.modules.length (fun i f=>(f 3).v=vi i/\ft p=(aZ (g8 p) i (p.modules.drop i)).1) rfl rfl ⟨by simp -dsimp [go_sem],rfl⟩ ?_;rintro i f u kk bb hi ⟨a,w⟩;have He:=L.modules;have hw:=aB i aa;simp -dsimp [go_sem,a];refine bq (fun h=> ?_) (fun h=> ?_)<;>(try rw[h])<;>(try simp only[bh]at h)<;>(try simp -dsimp [go_sem,a])
 ·obtain⟨c,v,S⟩:=au ‹i<p.modules.length›;obtain⟨s1,s2,s3⟩:=L.mname c S
  have e: ∀k:Int,k≠0->g8 p i c=k->ft p=k:=fun k J o=>by
   rw[w,g6 v (by rw[o];exact J)];exact o
  have hl:=uy c.name s1;have V:=uy c.owner s2;simp -dsimp [go_sem,a,v,hl];refine bq (fun h=> ?_) (fun h=> ?_)<;>(try rw[h])<;>(try simp only[bh]at h)<;>(try simp -dsimp [go_sem,a,V])
  ·rw[e 1 aG (by simp[g8,h])]
  ·refine bq (fun h=> ?_) (fun h=> ?_)<;>(try rw[h])<;>(try simp only[bh]at h)<;>(try simp -dsimp [go_sem,a])
   ·rw[e 1 aG (by simp[g8,h])]
   ·have E:eg c.name=true:=bD
    have F:eg c.owner=true:=bD
    refine a8 8795556151332 i (fun k H=>(H 5).v=vi k/\(p.modules.take k).any (fun d=>d.name.toList==c.name.toList)=false) rfl rfl ⟨by simp -dsimp [go_sem],af⟩ ?_;rintro k H u' kk' Y J ⟨q,z⟩;have R:=aB k aa;simp -dsimp [go_sem,a,q];refine bq (fun h=> ?_) (fun h=> ?_)<;>(try rw[h])<;>(try simp only[bh]at h)<;>(try simp -dsimp [go_sem,a,q])
    ·obtain⟨d,b,X⟩:=au (show k<p.modules.length from aa);simp -dsimp [go_sem,a,q,b];refine bq (fun h=> ?_) (fun h=> ?_)<;>(try rw[h])<;>(try simp only[bh]at h)<;>(try simp -dsimp [go_sem,a,q])
     ·rw[e 41 aG (by rw[g8,ac (by simp[E,F]),ah (qf b ‹k<i› (by simpa using h))])]
     ·refine⟨aa,by simp -dsimp [go_sem,R],?_⟩;rw[rt b,z];simpa using h
    ·have:k=i:=aa
     subst this;have r:=W' c.rely;have s:=uf B c.rely true (-1) aa;have n:=uf B c.guar true (-1) aa
     have g:g8 p k c=if(!c.rely.absent&& !cH p c.rely true (-1)) || !cH p c.guar true (-1)then 60 else if !fW c.frame || !c.frame.all (br p (-1))then 1 else 0:=by
      rw[g8,ac (by simp[E,F]),ac (by simp[z])]
     by_cases K:((!c.rely.absent&& !cH p c.rely true (-1)) || !cH p c.guar true (-1))=true
     ·rw[e 60 aG (by rw[g,ah K])];simp -dsimp [go_sem,a,r]
      repeat'(refine bq (fun h=> ?_) (fun h=> ?_)<;>(try rw[h])<;>(try simp only[bh]at h)<;>(try simp -dsimp [go_sem,a,s,n]))
      all_goals(exfalso;simp_all)
     ·have O: ∀(Q:Prop),(c.rely.absent=true->cH p c.guar true (-1)=true->Q)->(c.rely.absent=false->cH p c.rely true (-1)=true->cH p c.guar true (-1)=true->Q)->Q:=fun Q q1 q2=>by
       cases h1:c.rely.absent<;>cases h2:cH p c.rely true (-1)<;>cases a:cH p c.guar true (-1)<;>simp_all
      rw[ac K]at g;refine O _ (fun N y=> ?_) (fun N y r3=> ?_)
      all_goals(
       (try rw[N]at r)
       (try rw[y]at s)
       (try rw[y]at n)
       (try rw[r3]at n)
       simp -dsimp [go_sem,a,r,s,n];refine a8 2475880076264917540584554564 c.frame.length (fun j I=>(I 6).v=vi j/\c.frame.all (br p (-1))=(c.frame.drop j).all (br p (-1))) rfl rfl ⟨by simp -dsimp [go_sem],rfl⟩ ?_;rintro j I u2 kk2 Z hj ⟨l,m⟩;have T:=aB j aa;simp -dsimp [go_sem,a,l];refine bq (fun h=> ?_) (fun h=> ?_)<;>(try rw[h])<;>(try simp only[bh]at h)<;>(try simp -dsimp [go_sem,a,l])
       ·obtain⟨d,b,X⟩:=au (show j<c.frame.length from aa);have P:=iP d p.cells.length
        have A:br p (-1) d=false->1=ft p:=fun o=>by
         rw[e 1 aG (by rw[g,m,ed b o];simp)]
        simp -dsimp [go_sem,a,l,b,P];refine bq (fun h=> ?_) (fun h=> ?_)<;>(try rw[h])<;>(try simp only[bh]at h)<;>(try simp -dsimp [go_sem,a,l])
        ·exact A (tH h)
        ·obtain⟨D,x,M⟩:=ga h;have C:=mr (t:= -1) D M;simp -dsimp [go_sem,a,l,b,D,M];refine bq (fun h=> ?_) (fun h=> ?_)<;>(try rw[h])<;>(try simp only[bh]at h)<;>(try simp -dsimp [go_sem,a,l])
         ·exact A (by rw[C];simpa using h)
         ·refine⟨aa,by simp -dsimp [go_sem,T],?_⟩;rw[m,ee b (by rw[C];simpa using h)]
       ·have:j=c.frame.length:=aa
        subst this;rw[ek]at m;rw[m]at g;have W:=LU c.frame aa;simp -dsimp [go_sem,a,W];refine bq (fun h=> ?_) (fun h=> ?_)<;>(try rw[h])<;>(try simp only[bh]at h)<;>(try simp -dsimp [go_sem,a])
        ·rw[e 1 aG (by rw[g];simp[h])]
        ·refine⟨aa,by simp -dsimp [go_sem,hw],?_⟩
         rw[w,iJ v (by rw[g];simp[h])])
 ·have:i=p.modules.length:=aa
  subst this;rw[w,iR]
end Rg
end
section
-- FULL
namespace Rg
open Go
theorem fo {p:Prog} {c:Int} {x:Cell} {g:Cell->Bool} (a:p.cells[c.toNat]? =some x):cN p c g=g x:=by simp[cN,a]
theorem Zu (p:Prog) (N:p.sane) (F:dX p=0):Den Γ G 87 [(zP p)]=some (vi (fI p)):=by
 (refine px Γ87 rfl ?_;dsimp only[f87])
 simp -dsimp [go_sem];have H:=xc F;refine a8 4835703278458516698824700 p.locks.length (fun i f=>(f 3).v=vi i/\fI p=(aZ (iv p) i (p.locks.drop i)).1) rfl rfl ⟨by simp -dsimp [go_sem],rfl⟩ ?_;rintro i f u T bb hi ⟨a,s⟩;have Q:=N.locks;have O:=aB i aa;simp -dsimp [go_sem,a];refine bq (fun h=> ?_) (fun h=> ?_)<;>(try rw[h])<;>(try simp only[bh]at h)<;>(try simp -dsimp [go_sem,a])
 ·obtain⟨l,c,R⟩:=au ‹i<p.locks.length›
  have m: ∀k:Int,k≠0->iv p i l=k->fI p=k:=fun k C B=>by
   rw[s,g6 c (by rw[B];exact C)];exact B
  have D:=iP l.cell p.cells.length;have q:=iP l.module p.modules.length;simp -dsimp [go_sem,a,c,D];refine bq (fun h=> ?_) (fun h=> ?_)<;>(try rw[h])<;>(try simp only[bh]at h)<;>(try simp -dsimp [go_sem,a])
  ·rw[m 1 aG (by simp[iv,tH h])]
  ·obtain⟨n,x,e⟩:=ga h;have z:=mr (t:= -1) n e;have y:=fo (g:=fun x=>decide (x.w=1)) e;have w:=fo (g:=Cell.ghost) e;simp -dsimp [go_sem,a,c,n,e]
   by_cases b:(!br p (-1) l.cell || !cN p l.cell (fun x=>decide (x.w=1))||cN p l.cell Cell.ghost || !inR l.module p.modules.length)=true
   ·rw[m 1 aG (by rw[iv,ah b])];rw[z,y,w]at b
    repeat'(refine bq (fun h=> ?_) (fun h=> ?_)<;>(try rw[h])<;>(try simp only[bh]at h)<;>(try simp -dsimp [go_sem,a,c,n,e,q]))
    all_goals(exfalso;simp_all)
   ·have j:iv p i l=if(p.locks.take i).any (fun d=>decide (d.cell=l.cell))then 1 else if !cH p l.inv false (-1)then 60 else 0:=by rw[iv,ac b]
    rw[z,y,w]at b;simp only[fg,eI,d8,ml,sQ,Bool.not_eq_true,rI]at b;obtain⟨⟨⟨J,b2⟩,K⟩,L⟩:=b;rw[L]at q;simp -dsimp [go_sem,a,c,n,e,J,b2,K,q];refine a8 151106504079791792062500 i (fun k A=>(A 5).v=vi k/\(p.locks.take k).any (fun d=>decide (d.cell=l.cell))=false) rfl rfl ⟨by simp -dsimp [go_sem],af⟩ ?_;rintro k A U P M C ⟨o,v⟩;have E:=aB k aa;simp -dsimp [go_sem,a,o];refine bq (fun h=> ?_) (fun h=> ?_)<;>(try rw[h])<;>(try simp only[bh]at h)<;>(try simp -dsimp [go_sem,a,o])
    ·obtain⟨d,r,S⟩:=au (show k<p.locks.length from aa);simp -dsimp [go_sem,a,o,r];refine bq (fun h=> ?_) (fun h=> ?_)<;>(try rw[h])<;>(try simp only[bh]at h)<;>(try simp -dsimp [go_sem,a,o])
     ·rw[m 1 aG (by rw[j,ah (qf r ‹k<i› (by simpa using h))])]
     ·refine⟨aa,by simp -dsimp [go_sem,E],?_⟩;rw[rt r,v];simpa using h
    ·have:k=i:=aa
     subst this;rw[v]at j;have I:=uf H l.inv false (-1) aa;simp -dsimp [go_sem,a,I];refine bq (fun h=> ?_) (fun h=> ?_)<;>(try rw[h])<;>(try simp only[bh]at h)<;>(try simp -dsimp [go_sem,a])
     ·rw[m 60 aG (by rw[j];simp[h])]
     ·refine⟨aa,by simp -dsimp [go_sem,O],?_⟩;rw[s,iJ c (by rw[j];simp[h])]
 ·have:i=p.locks.length:=aa
  subst this;rw[s,iR]
theorem Sk {e:Expr} (h:e.one=true) (op:Int) (f:op≠1):e.sup op=[]:=by
 simp only[Expr.one,aQ]at h;obtain⟨i,j,k,b⟩:=h;rw[List.eq_nil_iff_forall_not_mem];intro c d;obtain⟨_,_,x,a,g,_⟩:=Sl d;rw[Expr.lv_eq,ah b]at a;simp only[bB]at a;subst a;omega
theorem kbb {p:Prog} {e:Expr} (h:e.one=true) (sh:Bool) (t:Int):c_ p e sh t=true:=by
 rw[c_,Sk h 3 aG,Sk h 2 aG];rfl
def mD (p:Prog) (t:Int) (s:Step):Prop:=c_ p s.guard (decide (s.kind=4)) t=true/\
 ∀(j:Nat) (a:Assign),s.set[j]? =some a->((0<j\/s.kind≠2)->c_ p a.to (decide (s.kind=4)) t=true)/\(br p t a.cell=true\/br p (-1) a.cell=true)
theorem Zw {p:Prog} {t:Int} {s:Step} (h:db p t s=true) (v:1<=s.kind/\s.kind<=7):mD p t s:=by
 unfold db at h;split at h
 ·rename_i k;simp only[fV,zF,zN]at h;refine⟨by simpa[k]using h.1.1,fun j a d=>⟨fun _=>by simpa[k]using h.1.2 a (zL d),.inl (h.2 a (zL d))⟩⟩
 ·split at h
  ·rename_i k;unfold mG at h;split at h
   ·simp at h
   ·rename_i a r i;simp only[zF,zN]at h;obtain⟨⟨⟨⟨⟨⟨f,g⟩,l⟩,n⟩,m⟩,u⟩,o⟩:=h;refine⟨by simpa[k]using f,fun j b c=> ?_⟩;rw[i]at c
    cases j with
    | zero=>simp at c;subst c;exact⟨fun q=>by simp[k]at q,.inl g⟩
    | succ j=>
      simp only[lz]at c;have:=o b (zL c);exact⟨fun _=>by simpa[k]using this.2,.inl this.1.1⟩
  ·split at h
   ·rename_i k;unfold mE at h;split at h
    ·simp at h
    ·rename_i a r i;simp only[fV,zF,zN]at h;obtain⟨⟨⟨⟨f,g⟩,l⟩,n⟩,m⟩:=h;refine⟨by simpa[k]using f,fun j b c=>⟨fun _=>by simpa[k]using g b (zL c),?_⟩⟩;rw[i]at c
     cases j with
     | zero=>simp at c;subst c;exact .inr l
     | succ j=>
       simp only[lz]at c;have:=(m b (zL c)).2;simp only[e_,fg]at this;exact this.symm
   ·split at h
    ·rename_i k;simp only[fV,zF,zN]at h;refine⟨by simpa[k]using h.1.1,fun j a d=>⟨fun _=>by simpa[k]using h.1.2 a (zL d),?_⟩⟩;have:=h.2 a (zL d);simp only[e_,fg]at this;exact this.symm
    ·have e:s.guard.one=true/\s.set=[]:=by
      split at h
      ·simpa using h
      ·split at h
       ·simp only[gh,zF,aQ]at h;exact h.1.1.1
       ·simp only[gh,zF,aQ]at h;exact h.1.1
     refine⟨kbb e.1 _ _,fun j a d=>by rw[e.2]at d;simp at d⟩
theorem xN {p:Prog} {t:Int} {s:Step} (h:mD p t s) (d:s.kind≠2):fV p s (decide (s.kind=4)) t=true:=by
 simp only[fV,zF,zN];refine⟨h.1,fun a b=> ?_⟩;obtain⟨j,c,rfl⟩:=s6.1 b;exact(h.2 j _ (zI c)).1 (.inr d)
theorem Q9 {p:Prog} {t:Int} {s:Step} (h:mD p t s) {a:Assign} (b:a∈s.set):e_ p t a.cell=true:=by
 obtain⟨j,c,rfl⟩:=s6.1 b;have:=(h.2 j _ (zI c)).2;simp only[e_,fg];exact this.symm
theorem Vr {p:Prog} {t:Int} {s:Step} (h:mD p t s) (b:s.kind=1):db p t s=s.set.all fun a=>br p t a.cell:=by
 have:=xN h aa;rw[db,ah b];simp only[b]at this;rw[show(decide ((1:Int)=4))=false from rfl]at this;rw[this,eA]
theorem Vs {p:Prog} {t:Int} {s:Step} (h:mD p t s) (d:s.kind=2) {a:Assign} {r:List Assign} (e:s.set=a::r):
 db p t s=(br p t a.cell&& !cN p a.cell Cell.ghost&&decide (a.to.op=2)&&br p (-1) a.to.n&& !cN p a.to.n Cell.ghost&&r.all fun b=>br p t b.cell&&cN p b.cell Cell.ghost):=by
 have c:=h.1;simp only[d]at c;rw[show(decide ((2:Int)=4))=false from rfl]at c;rw[db,ac aa,ah d,mG,e];simp only[c,eA]
 congr 1
 refine uv fun b f=> ?_
 obtain⟨j,g,rfl⟩:=s6.1 f;have:=(h.2 (j+1) r[j] (by rw[e];simp[g])).1 (.inl aa);simp only[d]at this;rw[show(decide ((2:Int)=4))=false from rfl]at this;rw[this,gv]
theorem Vt {p:Prog} {t:Int} {s:Step} (h:mD p t s) (e:s.kind=3) {a:Assign} {r:List Assign} (f:s.set=a::r):
 db p t s=(br p (-1) a.cell&& !cN p a.cell Cell.ghost&&r.all fun b=>cN p b.cell Cell.ghost):=by
 have c:=xN h aa;simp only[e]at c;rw[show(decide ((3:Int)=4))=false from rfl]at c;have g: ∀b∈r,e_ p t b.cell=true:=fun b d=>Q9 h (by rw[f];simp[d])
 rw[db,ac aa,ac aa,ah e,mE,f];simp only[c,eA]
 congr 1
 refine uv fun b d=> ?_
 rw[g b d,gv]
theorem Vu {p:Prog} {t:Int} {s:Step} (h:mD p t s) (c:s.kind=4):db p t s=true:=by
 have b:=xN h aa;simp only[c,lE]at b;rw[db,ac aa,ac aa,ac aa,ah c,b,eA,zN];exact fun a d=>Q9 h d
theorem Tg {p:Prog} {t:Int} {s:Step} (a:s.kind=2\/s.kind=3) (b:s.set=[]):db p t s=false:=by
 rcases a with a | a
 ·rw[db,ac aa,ah a,mG,b]
 ·rw[db,ac aa,ac aa,ah a,mE,b]
def su (p:Prog) (s:Step):Prop:=s.guard.valid p.cells false=true/\ ∀a∈s.set,inR a.cell p.cells.length=true/\a.to.valid p.cells false=true
theorem KB {p:Prog} {e:Expr} (h:e.valid p.cells false=true) (c:e.op=2):inR e.n p.cells.length=true:=by
 have b:e.formed=true:=by unfold Expr.valid at h;simp only[zF]at h;exact h.1
 have d:=pR (kK (lY b));unfold Expr.valid at h;simp only[zF]at h;have:=Expr.allE_self h.2;unfold dJ at this;simp only[c]at this;rcases a:p.cells[e.n.toNat]? with _ | y
 ·simp[a]at this
 ·have:=(zH.1 a).1;simp only[inR,aQ];omega
theorem ZZ (p:Prog) (Ez: ∀c∈p.cells,-1<=c.thread) (t:Int) (ht:0<=t) (s:Step) (Ac:s.set.length<2^48) (E:su p s) (hk:1<=s.kind/\s.kind<=7):
 Den Γ G 137 [(zP p),vi t,(zS s)]=some (vb (db p t s)):=by
 refine aD (q:=?_)
 have hg:=ur Ez (pP E.1) (decide (s.kind=4)) t aa (.inr ht)
 have Be: ¬mD p t s->false=db p t s:=fun n=>by
  cases h:db p t s
  ·rfl
  ·exact absurd (Zw h hk) n
 refine aw hg ?_;refine gS ?_ ?_<;>intro h
 ·exact Be (fun n=>by rw[n.1]at h;simp at h)
 ·have FD:c_ p s.guard (decide (s.kind=4)) t=true:=bD
  refine a8 1180591620717142869568 s.set.length (fun i f=>(f 9).v=vi i/\ ∀(j:Nat) (a:Assign),j<i->s.set[j]? =some a->((0<j\/s.kind≠2)->c_ p a.to (decide (s.kind=4)) t=true)/\(br p t a.cell=true\/br p (-1) a.cell=true)) rfl rfl ⟨am,fun j a X=>aa⟩ ?_;rintro i f u kk bb hi ⟨h9,CA⟩;have hw:=aB i aa;refine aw h9 ?_;refine aR h9 ?_ ?_<;>intro h
  ·obtain⟨a,A,C⟩:=au ‹i<s.set.length›;obtain⟨J,Bu⟩:=E.2 a C;have Y:=ur Ez (pP Bu) (decide (s.kind=4)) t aa (.inr ht);obtain⟨e,x,d⟩:=ga J;have K:=tO p a.cell t x e d;have M:=ww p a.cell x e d;have w:=mr (t:=t) e d;have H:=mr (t:= -1) e d
   repeat'(refine ld h9 A Y K M ?_ ?_<;>intro h)
   all_goals first
    | (refine Be (fun n=> ?_)
       have h1:=n.2 i a A;rw[w,H]at h1;have h2:=h1.1;have h3:=h1.2
       simp_all
       done)
    | (refine⟨aa,ak hw,fun j b X o=> ?_⟩
       by_cases DP:j=i
       ·subst DP;rw[A]at o;cases o;rw[w,H]
        simp_all
        done
       ·exact CA j b aa o)
    | skip
  ·have Ks:i=s.set.length:=aa
   have W:mD p t s:=⟨FD,fun j a A=>CA j a (by rw[Ks];exact(zH.1 A).1) A⟩
   clear CA hg Be FD;have Dn:s.kind=1\/s.kind=2\/s.kind=3\/s.kind=4\/s.kind=5\/s.kind=6\/s.kind=7:=aa
   rcases Dn with k | k | k | k | k | k | k
   ·have m:=Vr W k;refine aw k ?_;refine a8 618951130176758658868709440 s.set.length (fun j D=>(D 11).v=vi j/\db p t s=(s.set.drop j).all fun a=>br p t a.cell) rfl rfl ⟨am,m⟩ ?_;rintro j D u' Q O X ⟨S,v⟩;have L:=aB j aa;refine aw S ?_;refine aR S ?_ ?_<;>intro h
    ·obtain⟨a,A,C⟩:=au ‹j<s.set.length›;obtain⟨e,x,d⟩:=ga (E.2 a C).1;have K:=tO p a.cell t x e d;have w:=mr (t:=t) e d;refine a7 S A K ?_;refine aR S ?_ ?_<;>intro h
     ·rw[v,ed A (by rw[w];simpa using h)]
     ·refine⟨aa,ak L,?_⟩;rw[v,ee A (by rw[w];simpa using h)]
    ·have:j=s.set.length:=aa
     subst this;rw[v,ek]
   ·rcases l:s.set with _ | ⟨a,r⟩
    ·rw[Tg (.inl k) l];exact bg k l
    ·have m:=Vs W k l;have q:s.set.length=r.length+1:=by rw[l];rfl
     have n:s.set[0]? =some a:=by rw[l];rfl
     have C:a∈s.set:=by rw[l];simp
     obtain⟨e,x,d⟩:=ga (E.2 a C).1;have K:=tO p a.cell t x e d;have w:=mr (t:=t) e d;have H:=fo (g:=Cell.ghost) d;have Az: ¬(((r.length+1:Nat):Int)=0):=aa
     refine bT k q Az n K ?_;refine ld k q n e d ?_ ?_<;>intro h
     ·rw[m,w];simp[h]
     ·have e1:x.thread=t:=bD
      refine ld k q n e d ?_ ?_<;>intro h
      ·rw[m,H];simp[h]
      ·have e2:x.ghost=false:=bD
       refine ld k q n e d ?_ ?_<;>intro h
       ·rw[m];simp[h]
       ·have e3:a.to.op=2:=bD
        obtain⟨V,y,F⟩:=ga (KB (E.2 a C).2 e3);have M:=ww p a.to.n y V F;have q1:=mr (t:= -1) V F;have q2:=fo (g:=Cell.ghost) F;refine aw M ?_;refine dH V F ?_ ?_<;>intro h
        ·rw[m,q1];simp[h]
        ·have e4:y.thread= -1:=bD
         refine dH V F ?_ ?_<;>intro h
         ·rw[m,q2];simp[h]
         ·rw[w,H,q1,q2]at m;simp only[e1,e2,e3,e4,h,lE,lr,gv,eA]at m;refine a8 748288836919625719212122688004754514023314867888192 r.length (fun j D=>(D 13).v=vi ((j+1:Nat):Int)/\db p t s=(r.drop j).all fun b=>br p t b.cell&&cN p b.cell Cell.ghost) rfl rfl ⟨am,m⟩ ?_;rintro j D u' Q O X ⟨B,v⟩;have L:=aB (j+1) aa;refine aJ B q ?_;refine dH B q ?_ ?_<;>intro h
          ·obtain⟨b,o,LN⟩:=au (show j<r.length from aa);have Bf:s.set[j+1]? =some b:=by rw[l];exact o
           obtain⟨P,z,I⟩:=ga (E.2 b (by rw[l];simp[LN])).1;have KR:=tO p b.cell t z P I;have z1:=mr (t:=t) P I;have R:=fo (g:=Cell.ghost) I;refine a7 B o KR ?_
           repeat'(refine mL B o P I ?_ ?_<;>intro h)
           all_goals first
            | (rw[v,ed o (by rw[z1,R];simp[*])];done)
            | (refine⟨aa,ak L,?_⟩
               rw[v,ee o (by rw[z1,R];simp[*])])
          ·have:j=r.length:=aa
           subst this;rw[v,ek]
   ·rcases l:s.set with _ | ⟨a,r⟩
    ·rw[Tg (.inr k) l];exact bg k l
    ·have m:=Vt W k l;have q:s.set.length=r.length+1:=by rw[l];rfl
     have n:s.set[0]? =some a:=by rw[l];rfl
     have C:a∈s.set:=by rw[l];simp
     obtain⟨e,x,d⟩:=ga (E.2 a C).1;have M:=ww p a.cell x e d;have w:=mr (t:= -1) e d;have H:=fo (g:=Cell.ghost) d;have Az: ¬(((r.length+1:Nat):Int)=0):=aa
     refine bT k q Az n M ?_;refine ld k q n e d ?_ ?_<;>intro h
     ·rw[m,w];simp[h]
     ·have e1:x.thread= -1:=bD
      refine ld k q n e d ?_ ?_<;>intro h
      ·rw[m,H];simp[h]
      ·rw[w,H]at m;simp only[e1,h,lE,lr,gv,eA]at m;refine a8 6581968012470941075173766043914016358599614643690763741118349376 r.length (fun j D=>(D 14).v=vi ((j+1:Nat):Int)/\db p t s=(r.drop j).all fun b=>cN p b.cell Cell.ghost) rfl rfl ⟨am,m⟩ ?_;rintro j D u' Q O X ⟨B,v⟩;have L:=aB (j+1) aa;refine aJ B q ?_;refine dH B q ?_ ?_<;>intro h
       ·obtain⟨b,o,LN⟩:=au (show j<r.length from aa);have Bf:s.set[j+1]? =some b:=by rw[l];exact o
        obtain⟨P,z,I⟩:=ga (E.2 b (by rw[l];simp[LN])).1;have R:=fo (g:=Cell.ghost) I;refine bN B o P I ?_;refine aR B ?_ ?_<;>intro h
        ·rw[v,ed o (by rw[R];simp[h])]
        ·refine⟨aa,ak L,?_⟩;rw[v,ee o (by rw[R];simp[h])]
       ·have:j=r.length:=aa
        subst this;rw[v,ek]
   ·rw[Vu W k];exact ak k
   all_goals(
    have Y:=kbe;have Z:=WN s.guard;have J:=iP s.target p.threads.length
    have U:db p t s=(if s.kind=5 then s.guard.one&&decide (s.set=[])else if s.kind=6 then gh p t s&&pO p s.target else gh p t s):=by
     rw[db,ac aa,ac aa,ac aa,ac aa]
    simp only[k]at U;rw[show decide (s.guard.op=1/\s.guard.w=1/\s.guard.n=1/\s.guard.kids=[])=s.guard.one from rfl]at Z
    by_cases hn:s.set=[]
    ·have T:s.set.length=0:=by rw[hn];rfl
     by_cases N:inR s.target p.threads.length=true
     ·have Lx:=N;simp only[inR,aQ]at Lx;obtain⟨t0,t1⟩:=Lx;obtain⟨y,F⟩: ∃y,p.threads[s.target.toNat]? =some y:=⟨_,zI aa⟩
      have Eo:pO p s.target=y.asleep:=by simp[pO,F]
      rw[N]at J;refine bN k T Y Z ?_
      repeat'(refine mL k J t0 F ?_ ?_<;>intro h)
      all_goals(
       rw[U]
       simp[gh, *])
     ·have N:inR s.target p.threads.length=false:=al N
      rw[N]at J;refine bN k T Y Z ?_
      repeat'(refine dH k J ?_ ?_<;>intro h)
      all_goals(
       rw[U]
       simp[gh, *])
    ·have T:(s.set.length:Int)>0:=by have:=wi.2 hn;omega
     refine aJ k T ?_;rw[U]
     simp[gh,hn])
end Rg
end
section
-- FULL
namespace Rg
open Go
theorem tF {p:Prog} {set:List Assign}: ∀{l:List Assign} {i:Nat},(aZ (c9 p set) i l).1=0-> ∀a∈l,inR a.cell p.cells.length=true/\a.to.valid p.cells false=true
 | [],_,_,a,c=>by simp at c
 | x::r,i,h,a,c=>by
   rw[aZ]at h;split at h
   ·rename_i b;rcases cj.1 c with rfl | c
    ·unfold c9 at b;split at b
     ·simp at b
     ·rename_i d;split at b
      ·simp at b
      ·rename_i e;simp only[fg,ml,eI,rI]at d e;exact⟨d.1,e.1⟩
    ·exact tF h a c
   ·rename_i b;exact absurd h b
set_option maxHeartbeats 4000000 in
theorem YQ (p:Prog) (Ez: ∀c∈p.cells,-1<=c.thread) (t:Int) (J:0<=t) (x:Thread) (S:p.threads[t.toNat]? =some x) (K7: -2^48<x.points/\x.points<2^48) (s:Step) (Ac:s.set.length<2^48):
 Den Γ G 114 [(zP p),vi t,(zS s)]=some (vi (cI p t x.points s)):=by
 (refine px Γ114 rfl ?_;dsimp only[f114])
 have X:IntKind.i64.wrap (x.points-1)=x.points-1:=bu aa;have m:=iP s.fr (x.points-1);have H:=iP s.to x.points;have F:=iP s.module p.modules.length;have R:=ue s.guard p.cells false;simp -dsimp [go_sem,J,S]
 by_cases C:kO p x.points s=true
 ·rw[cI,ah C]
  repeat'(refine bq (fun h=> ?_) (fun h=> ?_)<;>(try rw[h])<;>(try simp only[bh]at h)<;>(try simp -dsimp [go_sem,J,S,X,m,H,F]))
  all_goals(exfalso;simp only[kO,fg,zF,eI,aQ]at C;simp_all;try omega)
 ·have K:cI p t x.points s=if !s.guard.valid p.cells false||decide (s.guard.w≠1)then 60 else if ¬(aZ (c9 p s.set) 0 s.set).1=0 then(aZ (c9 p s.set) 0 s.set).1 else if db p t s then 0 else 70:=by rw[cI,ac C]
  have W:kO p x.points s=false:=by simpa using C
  simp only[kO,js,lA,ni,d8]at W;obtain⟨⟨⟨⟨⟨⟨b1,b2⟩,b3⟩,b4⟩,b5⟩,b6⟩,b7⟩:=W;rw[b3]at m;rw[b4]at H;rw[b5]at F
  have V: ∀Q:Prop,(∀(z o A r w:Bool),decide (s.kind=6)=o->decide (s.kind=7)=A->decide (s.kind=3)=z->s.release=r->decide (s.target=0)=w->
   ((o=true/\r=false)\/(o=false/\A=true/\r=false)\/(o=false/\A=false/\w=true/\r=false)\/(o=false/\A=false/\w=true/\r=true/\z=true))->Q)->Q:=fun Q q=>by
   refine q _ _ _ _ _ rfl rfl rfl rfl rfl ?_;simp only[aQ,d8]
   by_cases h6:s.kind=6<;>by_cases h7:s.kind=7<;>by_cases h3:s.kind=3<;>cases hr:s.release<;>by_cases hz:s.target=0<;>simp_all
  refine V _ (fun z o A r w e6 e7 N er ez hc=> ?_);have n:s.guard.valid p.cells false=true->s.guard.w=1->cI p t x.points s=if ¬(aZ (c9 p s.set) 0 s.set).1=0 then(aZ (c9 p s.set) 0 s.set).1 else if db p t s then 0 else 70:=fun g1 g2=>by rw[K,ac (by simp[g1,g2])]
  have L:(s.guard.valid p.cells false=false\/ ¬s.guard.w=1)->cI p t x.points s=60:=fun g=>by rw[K,ah (by rcases g with g | g<;>simp[g])]
  have M:1<=s.kind/\s.kind<=7:=aa
  have j:(decide ¬s.kind=3)= !z:=by rw[<- N];simp
  have l:(decide ¬s.target=0)= !w:=by rw[<- ez];simp
  rcases hc with⟨rfl,rfl⟩ | ⟨rfl,rfl,rfl⟩ | ⟨rfl,rfl,rfl,rfl⟩ | ⟨rfl,rfl,rfl,rfl,rfl⟩
  all_goals(try cases w)
  all_goals(try cases z)
  all_goals(try(exfalso;simp only[aQ]at N e6 e7;omega))
  all_goals(
   (try simp only[jq,lr]at j l)
   simp -dsimp [go_sem,J,S,X,m,H,F,b1,b2,e6,e7,j,l,er,R]
   repeat'(refine bq (fun h=> ?_) (fun h=> ?_)<;>(try rw[h])<;>(try simp only[bh]at h)<;>(try simp -dsimp [go_sem,R])))
  all_goals(try(rw[L (.inl ‹_›)];done))
  all_goals(try(rw[L (.inr ‹_›)];done))
  all_goals(
   have n:=n ‹_› ‹_›;have M1:s.guard.valid p.cells false=true:=bD
   clear V L K R m H F j l er N;refine a8 89202980794122492256657863269248377299144256 s.set.length (fun i f=>(f 9).v=vi i/\aZ (c9 p s.set) 0 s.set=aZ (c9 p s.set) i (s.set.drop i)) rfl rfl ⟨by simp -dsimp [go_sem],rfl⟩ ?_;rintro i f u kk bb hi ⟨e,B⟩;have hw:=aB i aa;simp -dsimp [go_sem,e];refine bq (fun h=> ?_) (fun h=> ?_)<;>(try rw[h])<;>(try simp only[bh]at h)<;>(try simp -dsimp [go_sem,e])
   ·obtain⟨a,v,Cp⟩:=au ‹i<s.set.length›;have m:=iP a.cell p.cells.length
    have D: ∀k:Int,k≠0->c9 p s.set i a=k->cI p t x.points s=k:=fun k P h0=>by
     have h2:=B.trans (g6 v (by rw[h0];exact P));rw[n,h2,h0,ah P]
    simp -dsimp [go_sem,e,v,m];refine bq (fun h=> ?_) (fun h=> ?_)<;>(try rw[h])<;>(try simp only[bh]at h)<;>(try simp -dsimp [go_sem,e])
    ·rw[D 70 aG (by simp[c9,h])]
    ·have Y:inR a.cell p.cells.length=true:=bD
     obtain⟨Z,y,T⟩:=ga Y;refine a8 1329065736508086659540415482270058560 i (fun k f'=>(f' 11).v=vi k/\(s.set.take k).any (fun b=>decide (b.cell=a.cell))=false) rfl rfl ⟨by simp -dsimp [go_sem],af⟩ ?_;rintro k f' u' kk' bb' P ⟨E,U⟩;have Aw:=aB k aa;simp -dsimp [go_sem,e,E];refine bq (fun h=> ?_) (fun h=> ?_)<;>(try rw[h])<;>(try simp only[bh]at h)<;>(try simp -dsimp [go_sem,e,E])
     ·obtain⟨d,O,JP⟩:=au (show k<s.set.length from aa);simp -dsimp [go_sem,e,E,O];refine bq (fun h=> ?_) (fun h=> ?_)<;>(try rw[h])<;>(try simp only[bh]at h)<;>(try simp -dsimp [go_sem,e,E])
      ·rw[D 70 aG (by rw[c9,ah (by rw[qf O ‹k<i› (by simpa using h)];simp)])]
      ·refine⟨aa,by simp -dsimp [go_sem,Aw],?_⟩;rw[rt O,U];simpa using h
     ·have:k=i:=aa
      subst this;have DT:=ue a.to p.cells false;have Id:=fo (g:=fun x=>decide (a.to.w=x.w)) T
      have I:c9 p s.set k a=if !a.to.valid p.cells false || !cN p a.cell (fun x=>decide (a.to.w=x.w))then 60 else 0:=by
       rw[c9,ac (by rw[Y,U];simp)]
      rw[Id]at I;simp -dsimp [go_sem,e,v,DT];refine bq (fun h=> ?_) (fun h=> ?_)<;>(try rw[h])<;>(try simp only[bh]at h)<;>(try simp -dsimp [go_sem,e,v,Z,T])
      ·rw[D 60 aG (by rw[I];simp[h])]
      ·have Ke:a.to.valid p.cells false=true:=bD
       refine bq (fun h=> ?_) (fun h=> ?_)<;>(try rw[h])<;>(try simp only[bh]at h)<;>(try simp -dsimp [go_sem,e,v,Z,T])
       ·rw[D 60 aG (by rw[I];simp[h])]
       ·refine⟨aa,by simp -dsimp [go_sem,hw],?_⟩;rw[B,iJ v (by rw[I];simp[h,Ke])]
   ·have:i=s.set.length:=aa
    subst this;rw[iR]at B;rw[B,ac af]at n;have EL:=ZZ p Ez t J s Ac ⟨M1,tF (i:=0) (set:=s.set) (by rw[B])⟩ M;simp -dsimp [go_sem,EL];refine bq (fun h=> ?_) (fun h=> ?_)<;>(try rw[h])<;>(try simp only[bh]at h)<;>(try simp -dsimp [go_sem])
    ·rw[n];simp[h]
    ·rw[n];simp[h])
end Rg
end
section
-- FULL
namespace Rg
open Go
set_option maxHeartbeats 4000000 in
theorem Xu (p:Prog) (C:p.sane) (By:dX p=0) (t:Nat) (x:Thread) (E:p.threads[t]? =some x) (K7:x.points<2^48):
 Den Γ G 88 [(zP p),vi t]=some (.tup [vi (bI p t x).1,vi (bI p t x).2]):=by
 (refine px Γ88 rfl ?_;dsimp only[f88])
 have N:=xc By;have L:=zL E;obtain⟨s1,s2,s3,s4,s5⟩:=C.thr x L;have hl:=uy x.name s1;have W:(0:Int)<=(t:Int):=aa
 have Dd:t<p.threads.length:=(zH.1 E).1;have BL:=C.threads;have Dc:p.threads[(t:Int).toNat]? =some x:=by simpa using E
 simp -dsimp [go_sem,W,E,hl];refine bq (fun h=> ?_) (fun h=> ?_)<;>(try rw[h])<;>(try simp only[bh]at h)<;>(try simp -dsimp [go_sem])
 ·have:bI p t x=(1,-1):=by rw[bI,ah (by simp[h])]
  rw[this];simp
 ·have P:eg x.name=true:=bD
  refine a8 274861129904 t (fun k f=>(f 7).v=vi k/\(p.threads.take k).any (fun d=>d.name.toList==x.name.toList)=false) rfl rfl ⟨by simp -dsimp [go_sem],af⟩ ?_;rintro k f u H bb hk ⟨A,J⟩;have c:=aB k aa;simp -dsimp [go_sem,A];refine bq (fun h=> ?_) (fun h=> ?_)<;>(try rw[h])<;>(try simp only[bh]at h)<;>(try simp -dsimp [go_sem,A])
  ·obtain⟨d,T,JP⟩:=au (show k<p.threads.length from aa);simp -dsimp [go_sem,A,T];refine bq (fun h=> ?_) (fun h=> ?_)<;>(try rw[h])<;>(try simp only[bh]at h)<;>(try simp -dsimp [go_sem,A])
   ·have:bI p t x=(41,-1):=by rw[bI,ac (by simp[P]),ah (qf T ‹k<t› (by simpa using h))]
    rw[this];simp
   ·refine⟨aa,by simp -dsimp [go_sem,c],?_⟩;rw[rt T,J];simpa using h
  ·have:k=t:=aa
   subst this
   by_cases V:x.points<1\/ ¬(x.asserts.length:Int)=x.points\/ ¬(x.modules.length:Int)=x.points
   ·have:bI p k x=(1,-1):=by rw[bI,ac (by simp[P]),ac (by simp[J]),ah V]
    rw[this]
    repeat'(refine bq (fun h=> ?_) (fun h=> ?_)<;>(try rw[h])<;>(try simp only[bh]at h)<;>(try simp -dsimp [go_sem]))
    all_goals(exfalso;omega)
   ·have g1: ¬x.points<1:=aa
    have g2:(x.asserts.length:Int)=x.points:=aa
    have g3:(x.modules.length:Int)=x.points:=aa
    have g:bI p k x=if !x.modules.all (fun m=>inR m p.modules.length)then(1,-1)
     else if !x.asserts.all (fun e=>cH p e false k)then(60,-1)
     else if ¬(aZ (fun _ s=>cI p k x.points s) 0 x.steps).1=0 then aZ (fun _ s=>cI p k x.points s) 0 x.steps
     else((aZ (fun _ l=>dL p k x.points l) 0 x.loops).1,-1):=by
     rw[bI,ac (by simp[P]),ac (by simp[J]),ac V]
    have Q:decide (¬(x.asserts.length:Int)=x.points)=false:=by simp[g2]
    have R:decide (¬(x.modules.length:Int)=x.points)=false:=by simp[g3]
    simp -dsimp [go_sem,g1,Q,R];refine a8 18889321816290504999216 x.modules.length (fun i f=>(f 8).v=vi i/\x.modules.all (fun m=>inR m p.modules.length)=(x.modules.drop i).all (fun m=>inR m p.modules.length)) rfl rfl ⟨by simp -dsimp [go_sem],rfl⟩ ?_;rintro i f u H bb hi ⟨w,a⟩;have c:=aB i aa;simp -dsimp [go_sem,w];refine bq (fun h=> ?_) (fun h=> ?_)<;>(try rw[h])<;>(try simp only[bh]at h)<;>(try simp -dsimp [go_sem,w])
    ·obtain⟨m,b,_⟩:=au ‹i<x.modules.length›;have K:=iP m p.modules.length;simp -dsimp [go_sem,w,b,K];refine bq (fun h=> ?_) (fun h=> ?_)<;>(try rw[h])<;>(try simp only[bh]at h)<;>(try simp -dsimp [go_sem,w])
     ·have:bI p k x=(1,-1):=by rw[g,a,ed b h];simp
      rw[this];simp
     ·refine⟨aa,by simp -dsimp [go_sem,c],?_⟩;rw[a,ee b h]
    ·have:i=x.modules.length:=aa
     subst this;rw[ek]at a;rw[a]at g;simp only[jq,zG,aX]at g;clear a w c;refine a8 1237921149819448796318270000 x.asserts.length (fun i f=>(f 9).v=vi i/\x.asserts.all (fun e=>cH p e false k)=(x.asserts.drop i).all (fun e=>cH p e false k)) rfl rfl ⟨by simp -dsimp [go_sem],rfl⟩ ?_;rintro i f u H bb hi ⟨y,a⟩;have c:=aB i aa;simp -dsimp [go_sem,y];refine bq (fun h=> ?_) (fun h=> ?_)<;>(try rw[h])<;>(try simp only[bh]at h)<;>(try simp -dsimp [go_sem,y])
     ·obtain⟨e,U,_⟩:=au ‹i<x.asserts.length›;have FS:=uf N e false k aa;simp -dsimp [go_sem,y,U,FS];refine bq (fun h=> ?_) (fun h=> ?_)<;>(try rw[h])<;>(try simp only[bh]at h)<;>(try simp -dsimp [go_sem,y])
      ·have:bI p k x=(60,-1):=by rw[g,a,ed U h];simp
       rw[this];simp
      ·refine⟨aa,by simp -dsimp [go_sem,c],?_⟩;rw[a,ee U h]
     ·have:i=x.asserts.length:=aa
      subst this;rw[ek]at a;rw[a]at g;simp only[jq,zG,aX]at g;clear a y c;refine a8 649035869376814168186037142031408 x.steps.length (fun i f=>(f 10).v=vi i/\aZ (fun _ s=>cI p k x.points s) 0 x.steps=aZ (fun _ s=>cI p k x.points s) i (x.steps.drop i)) rfl rfl ⟨by simp -dsimp [go_sem],rfl⟩ ?_;rintro i f u H bb hi ⟨v,b⟩;have c:=aB i aa;simp -dsimp [go_sem,v];refine bq (fun h=> ?_) (fun h=> ?_)<;>(try rw[h])<;>(try simp only[bh]at h)<;>(try simp -dsimp [go_sem,v])
      ·obtain⟨s,M,F3⟩:=au ‹i<x.steps.length›;have Z:=YQ p N k W x Dc ⟨aa,K7⟩ s (C.sets x L s F3);simp -dsimp [go_sem,v,M,Z];refine bq (fun h=> ?_) (fun h=> ?_)<;>(try rw[h])<;>(try simp only[bh]at h)<;>(try simp -dsimp [go_sem,v])
       ·have S:=b.trans (g6 M (by simpa using h));have:bI p k x=(cI p k x.points s,(i:Int)):=by rw[g,S,ah (by simpa using h)]
        rw[this];simp
       ·refine⟨aa,by simp -dsimp [go_sem,c],?_⟩;rw[b,iJ M (by simpa using h)]
      ·have:i=x.steps.length:=aa
       subst this;rw[iR]at b;rw[b,ac af]at g;clear b v c;refine a8 11972621413014756705275549042294937043455087350935600 x.loops.length (fun i f=>(f 12).v=vi i/\aZ (fun _ l=>dL p k x.points l) 0 x.loops=aZ (fun _ l=>dL p k x.points l) i (x.loops.drop i)) rfl rfl ⟨by simp -dsimp [go_sem],rfl⟩ ?_;rintro i f u H bb hi ⟨n,b⟩;have c:=aB i aa;simp -dsimp [go_sem,n];refine bq (fun h=> ?_) (fun h=> ?_)<;>(try rw[h])<;>(try simp only[bh]at h)<;>(try simp -dsimp [go_sem,n])
       ·obtain⟨l,O,Hy⟩:=au ‹i<x.loops.length›;have D4:=C.loops x L l Hy
        have o: ∀F:Int,F≠0->dL p k x.points l=F->bI p k x=(F,-1):=fun F Ah Y=>by
         have S:=b.trans (g6 (f:=fun _ l=>dL p k x.points l) O (by rw[Y];exact Ah));rw[g,S,Y]
        have K:=iP l.head x.points;have Et:=LU l.body aa;simp -dsimp [go_sem,n,O,K];refine bq (fun h=> ?_) (fun h=> ?_)<;>(try rw[h])<;>(try simp only[bh]at h)<;>(try simp -dsimp [go_sem,n,Et])
        ·rw[o 1 aG (by simp[dL,h])];simp
        ·have f1:inR l.head x.points=true:=bD
         refine bq (fun h=> ?_) (fun h=> ?_)<;>(try rw[h])<;>(try simp only[bh]at h)<;>(try simp -dsimp [go_sem,n])
         ·rw[o 1 aG (by simp[dL,h])];simp
         ·have f2:fW l.body=true:=bD
          refine a8 730750807776415717631811585530154072011383521328 l.body.length (fun j X=>(X 14).v=vi j/\l.body.all (fun q=>inR q x.points&&decide (q≠l.head))=(l.body.drop j).all (fun q=>inR q x.points&&decide (q≠l.head))) rfl rfl ⟨by simp -dsimp [go_sem],rfl⟩ ?_;rintro j X u' kk' bb' hj ⟨z,a⟩;have Aw:=aB j aa;simp -dsimp [go_sem,z];refine bq (fun h=> ?_) (fun h=> ?_)<;>(try rw[h])<;>(try simp only[bh]at h)<;>(try simp -dsimp [go_sem,z])
          ·obtain⟨q,B,_⟩:=au ‹j<l.body.length›;have NN:=iP q x.points;simp -dsimp [go_sem,z,B,NN]
           repeat'(refine bq (fun h=> ?_) (fun h=> ?_)<;>(try rw[h])<;>(try simp only[bh]at h)<;>(try simp -dsimp [go_sem,z,B]))
           all_goals first
            | (rw[o 1 aG (by rw[dL,ah (by rw[a,ed B (by simp_all)];simp)])];simp;done)
            | (refine⟨aa,by simp -dsimp [go_sem,Aw],?_⟩
               rw[a,ee B (by simp_all)])
          ·have:j=l.body.length:=aa
           subst this;rw[ek]at a
           have I:dL p k x.points l=if !l.variant.valid p.cells false || !c_ p l.variant true k then 60 else 0:=by
            rw[dL,ac (by rw[a,f1,f2];simp)]
           have D:=ue l.variant p.cells false;cases r:l.variant.valid p.cells false
           ·rw[r]at D;simp -dsimp [go_sem,n,D];rw[o 60 aG (by rw[I];simp[r])];simp
           ·rw[r]at D;have De:=ur N (pP r) true k aa (.inl rfl);simp -dsimp [go_sem,n,D,De];refine bq (fun h=> ?_) (fun h=> ?_)<;>(try rw[h])<;>(try simp only[bh]at h)<;>(try simp -dsimp [go_sem,n])
            ·rw[o 60 aG (by rw[I];simp[h])];simp
            ·refine⟨aa,by simp -dsimp [go_sem,c],?_⟩;rw[b,iJ O (by rw[I];simp[h,r])]
       ·have:i=x.loops.length:=aa
        subst this;rw[iR]at b;rw[g,b];simp
end Rg
end
section
-- FULL
namespace Rg
open Go
theorem cS {p:Prog} (h:(cM p).1=0):(p.cells.length<=32/\p.modules.length<=6/\p.locks.length<=4/\p.threads.length<=4)/\ ∀x∈p.threads,x.points<=48/\x.steps.length<=64/\x.loops.length<=8:=by
 unfold cM at h;split at h
 ·simp at h
 ·rename_i b;refine⟨aa,?_⟩
  have d: ∀(l:List Thread) (i:Nat),(aZ (fun _ x=>if eB x then 2 else 0) i l).1=0-> ∀x∈l,eB x=false:=by
   intro l
   induction l with
   | nil=>intro i _ c a;simp at a
   | cons x r f=>
     intro i h c a;rw[aZ]at h;cases b:eB x
     ·rw[b,ah af]at h;rcases cj.1 a with rfl | a
      ·exact b
      ·exact f _ h c a
     ·rw[b,ac af]at h;simp at h
  intro x e;have:=d _ 0 h x e;simp only[eB,js,d8]at this;omega
theorem wI (p:Prog) (b:p.sane):Den Γ G 65 [(zP p)]=some (.tup [vi (dl p).1,vi (dl p).2.1,vi (dl p).2.2]):=by
 refine aD (q:=?_)
 have q:=Xn p b;refine jV q ?_;refine vG ?_ ?_<;>intro h
 ·have c: ¬(cM p).1=0:=al h
  have:dl p=((cM p).1,(cM p).2,-1):=by rw[dl,ah c]
  rw[this];simp
 ·have c:(cM p).1=0:=al h
  obtain⟨⟨y,z,A,B⟩,v⟩:=cS c
  have a:dl p=if ¬dX p=0 then(dX p,-1,-1)else if ¬ft p=0 then(ft p,-1,-1)else if ¬fI p=0 then(fI p,-1,-1)else eU p 0 p.threads:=by
   rw[dl,ac (al c)]
  have m:=XV p b;refine bK ?_;refine jV m ?_;refine vG ?_ ?_<;>intro h
  ·have:dl p=(dX p,-1,-1):=by rw[a,ah (al h)]
   rw[this];simp
  ·have d:dX p=0:=al h
   have n:=Xc p b d;have o:=Zu p b d;rw[ac (al d)]at a;refine bK ?_;refine jV n ?_;refine vG ?_ ?_<;>intro h
   ·have:dl p=(ft p,-1,-1):=by rw[a,ah (al h)]
    rw[this];simp
   ·have r:ft p=0:=al h
    rw[ac (al r)]at a;refine bK ?_;refine jV o ?_;refine vG ?_ ?_<;>intro h
    ·have:dl p=(fI p,-1,-1):=by rw[a,ah (al h)]
     rw[this];simp
    ·have s:fI p=0:=al h
     rw[ac (al s)]at a;refine bK ?_;refine F5 ?_;refine a8 288229276640085788 p.threads.length (fun i f=>(f 8).v=vi i/\dl p=eU p i (p.threads.drop i)) rfl rfl ⟨mO,a⟩ ?_;rintro i f u w bb hi ⟨e,g⟩;have t:=aB i aa;refine jV e ?_;refine zy e ?_ ?_<;>intro h
     ·obtain⟨x,j,l⟩:=au ‹i<p.threads.length›;have k:=Xu p b d i x j (by have:=(v x l).1;omega);refine sJ e k ?_;refine zy e ?_ ?_<;>intro h
      ·rw[g,Pd j (al h)];simp
      ·refine⟨aa,F_ t,?_⟩;rw[g,Pe j (al h)]
     ·have:i=p.threads.length:=aa
      subst this;rw[g,Sj];simp
def eL (l:List ByteArray):List (T×V):=l.map fun b=>(T.str b,V.agg [])
def mc (l:List Int):List (T×V):=l.map fun b=>(ti b,V.agg [])
theorem yh (a b:ByteArray):(a==b)=(a.toList==b.toList):=by
 rw[ByteArray.toList_eq,ByteArray.toList_eq];show(a.data==b.data)=_;rw[Array.beq_toList]
@[go_sem]theorem zBI (b:ByteArray):lT 2 (.t (.str b))=some (.str b):=rfl
@[go_sem]theorem zBJ (k:IntKind) (n:Int):lT 0 (.t (.int k n))=some (.int k n):=rfl
theorem To (b:ByteArray): ∀l:List ByteArray,dK (.str b) (eL l)=some (if l.any (fun c=>c.toList==b.toList)then some (.agg [])else none)
 | []=>rfl
 | c::l=>by
   rw[eL,aT,dK,eX,yh];rw[show(b.toList==c.toList)=(c.toList==b.toList)from Bool.beq_comm];cases h:(c.toList==b.toList)
   ·simp only[];rw[show(l.map fun b=>(T.str b,V.agg []))=eL l from rfl,To b l,qs,h,v8]
   ·simp[h]
theorem Ih (b:ByteArray): ∀l:List ByteArray,l.any (fun c=>c.toList==b.toList)=false->da (.str b) (.agg []) (eL l)=some (eL (l++[b]))
 | [],_=>rfl
 | c::l,h=>by
   rw[qs,js]at h;rw[eL,aT,da,eX,yh,show(b.toList==c.toList)=(c.toList==b.toList)from Bool.beq_comm,h.1];simp only[];rw[show(l.map fun b=>(T.str b,V.agg []))=eL l from rfl,Ih b l h.2];rfl
theorem Ts (b:ByteArray): ∀l:List ByteArray,∃es,da (.str b) (.agg []) (eL l)=some es
 | []=>⟨_,rfl⟩
 | c::l=>by
   rw[eL,aT,da,eX];cases h:(b==c)
   ·simp only[];rw[show(l.map fun b=>(T.str b,V.agg []))=eL l from rfl];obtain⟨es,a⟩:=Ts b l;exact⟨_,by rw[a];rfl⟩
   ·exact⟨_,rfl⟩
theorem yG (b:Int): ∀l:List Int,dK (ti b) (mc l)=some (if l.any (fun c=>decide (c=b))then some (.agg [])else none)
 | []=>rfl
 | c::l=>by
   rw[mc,aT,dK,eX,ah rfl]
   by_cases h:c=b
   ·subst h;simp
   ·have e:(b==c)=false:=by simpa using fun h'=>h h'.symm
    rw[e];simp only[];rw[show(l.map fun b=>(ti b,V.agg []))=mc l from rfl,yG b l,qs];simp[h]
theorem wT (b:Int): ∀l:List Int,l.any (fun c=>decide (c=b))=false->da (ti b) (.agg []) (mc l)=some (mc (l++[b]))
 | [],_=>rfl
 | c::l,h=>by
   rw[qs,js]at h;have e:(b==c)=false:=by simpa using fun h'=>(al h.1: ¬c=b) h'.symm
   rw[mc,aT,da,eX,ah rfl,e];simp only[];rw[show(l.map fun b=>(ti b,V.agg []))=mc l from rfl,wT b l h.2];rfl
theorem Mg (k:Nat) (b:ByteArray) (l:List ByteArray) (H:ae) (n:Nat) (f:H k=some (.map (eL l))):
 ∃r h' g,DenR Γ G 97 [.mm k,.t (.str b)] H n=some (r,h',g)/\(n<=g/\r=vb (l.any (fun c=>c.toList==b.toList)))/\
  ∃es,h'=updC H k (some (.map es))/\(l.any (fun c=>c.toList==b.toList)=false->es=eL (l++[b])):=by
 refine bO (q:=?_)
 have a:=To b l;cases e:l.any (fun c=>c.toList==b.toList)
 ·rw[e]at a;have d:=Ih b l e;simp -dsimp only[go_sem,seval,f,a,d,kf,gx,mh,zG,aU,aX];refine⟨⟨av,am⟩,_,am,fun _=>rfl⟩
 ·rw[e]at a;obtain⟨es,d⟩:=Ts b l;simp -dsimp only[go_sem,seval,f,a,d,kf,gx,mh,zG,aU,aX];refine⟨⟨av,am⟩,es,am,fun h=>by simp at h⟩
theorem Ot (k:Nat) (b:ByteArray) (l:List ByteArray) (H:ae) (n:Nat) (f:H k=some (.map (eL l))):
 ∃r h' a,DenR Γ G 97 [.mm k,.t (.str b)] H n=some (r,h',a)/\r=vb (l.any (fun c=>c.toList==b.toList))/\(l.any (fun c=>c.toList==b.toList)=false->h' k=some (.map (eL (l++[b])))):=by
 obtain⟨r,h',a,d,⟨_,g⟩,es,rfl,e⟩:=Mg k b l H n f;exact⟨r,_,a,d,g,fun h=>by rw[e h,aq,ah rfl]⟩
theorem ax.toT1 {h:ae} {x:Nat} {v:V} {l:List Int} (o:ax h x v 1 (ai l)):Rg.toT1 h v=some (.t (ints l)):=by
 have:=jD o (iG _);rcases o with⟨rfl,a⟩ | ⟨k,rfl,_,_⟩
 ·have:l=[]:=by simpa[ai]using a
  subst this;rfl
 ·simp only[Rg.toT1,this,cZ]
theorem sb (e:Expr) (F:T) (P:Int->Bool) (b:IsF F P):Den Γ G 108 [(.agg [.t (ti (e).op),.t (ti (e).w),.t (ti (e).n),.t (.sl ((e).kids.map (Expr.enc)))]),.t F]=some (vb ((e.sup 3).all P&&(e.sup 2).all P)):=by
 refine aD (q:=?_)
 have c:=b.1;simp only[T.norm]at c;have n:=nC 3 e;have m:=nC 2 e;have a:=ru F P b (e.sup 3) aa;have l:=ru F P b (e.sup 2) aa;refine aA ?_;refine bf (xh e _ _) ?_;rintro r h' o ⟨q,p,rfl,i,h,_,_⟩;have k:=i.valOf;have j:=h.valOf;have f:=i.toT1;have d:=h.toT1;simp only[Rg.toT1]at f d;cases g:(e.sup 3).all P
 ·rw[g]at a;refine de a c k j f d ?_;simp
 ·rw[g]at a;exact VB a l c k j f d @eA
theorem RN (p:Prog) (e:Expr) (pair:Bool) (F:T) (P:Int->Bool) (d:IsF F P):Den Γ G 99 [(zP p),(.agg [.t (ti (e).op),.t (ti (e).w),.t (ti (e).n),.t (.sl ((e).kids.map (Expr.enc)))]),vb pair,.t F]=
 some (vb (e.valid p.cells pair&&decide (e.w=1)&&((e.sup 3).all P&&(e.sup 2).all P))):=by
 refine aD (q:=?_)
 have f:=d.1;simp only[T.norm]at f;have a:=ud e p.cells pair;have c:=sb e F P d
 by_cases b:e.w=1
 ·cases g:e.valid p.cells pair
  ·rw[g]at a;refine aw b ?_;rw[b]at a;refine aw a ?_;simp
  ·rw[g]at a;rw[b]at a c;exact pv b a c f @eA @gv
 ·refine aw b ?_;simp
theorem Xo (p:Prog) (o:p.sane):Den Γ G 79 [(zP p)]=some (.tup [vi (cM p).1,vi (cM p).2]):=by
 refine aD (q:=aA ?_)
 by_cases e:(p.cells.length:Int)>32\/(p.modules.length:Int)>6\/(p.locks.length:Int)>4\/(p.threads.length:Int)>4
 ·have a:cM p=(2,-1):=by rw[cM,ah e]
  rw[a]
  repeat'(refine gS ?_ ?_<;>intro h<;>try exact⟨⟩)
  all_goals omega
 ·have a:cM p=aZ (fun _ x=>if eB x then 2 else 0) 0 p.threads:=by rw[cM,ac e]
  have j: ¬(p.cells.length:Int)>32:=aa
  have k: ¬(p.modules.length:Int)>6:=aa
  have l: ¬(p.locks.length:Int)>4:=aa
  have m: ¬(p.threads.length:Int)>4:=aa
  refine bN j k l m ?_;refine a8 72057576858058860 p.threads.length (fun i f=>(f 34).v=vi i/\cM p=aZ (fun _ x=>if eB x then 2 else 0) i (p.threads.drop i)) rfl rfl ⟨am,a⟩ ?_;clear a;rintro i f u q bb hi ⟨b,a⟩;have n:=aB i aa;refine aw b ?_;refine aR b ?_ ?_<;>intro h
  ·obtain⟨x,d,_⟩:=au ‹i<p.threads.length›;have c:eB x=true->cM p=(2,(i:Int)):=fun g=>by rw[a,g6 d (by simp[g])];simp[g]
   refine aJ b d ?_
   repeat'(refine aR b ?_ ?_<;>intro h)
   ·rw[c (by simp[eB, *])];simp
   ·rw[c (by simp[eB, *])];simp
   ·rw[c (by simp[eB, *])];simp
   ·refine⟨aa,ak n,?_⟩;rw[a,iJ d (by simp[eB, *])]
  ·have:i=p.threads.length:=aa
   subst this;rw[a,iR];simp
theorem so {w:Int} (h:0<=w/\w<=62):IntKind.i64.wrap (1*2^min w.toNat 64)=2^w.toNat:=by
 have:min w.toNat 64=w.toNat:=jb aa;rw[this,xj];have a:(2:Int)^w.toNat<=2^62:=kZ aa;have b:=iL w.toNat;exact bu aa
theorem SV {w:Int} (h:0<=w/\w<=62):IntKind.u64.wrap w=w:=by
 have a:IntKind.u64.wrap w=w % 2^64:=by simp[IntKind.wrap,IntKind.signed,IntKind.bits]
 rw[a];omega
theorem XW (p:Prog) (L:p.sane):Den Γ G 80 [(zP p)]=some (vi (dX p)):=by
 refine aD (q:=aA ?_);have U:=L.cells;refine aS 4611686018427385892 p.cells.length (fun i f h x=>(f 11).v=vi i/\h 2=some (.map (eL ((p.cells.take i).map Cell.name)))/\dX p=(aZ (ge p) i (p.cells.drop i)).1) rfl ⟨am,by simp -dsimp only[go_sem,seval];rfl,rfl⟩ ?_;rintro i f u K x bs hi ⟨a,D,j⟩;have M:=aB i aa;refine aw a ?_;refine aR a ?_ ?_<;>intro h
 ·obtain⟨c,b,T⟩:=au ‹i<p.cells.length›;have g:=ub c.name;have m:=iH c.init (2^c.w.toNat);have l:=iH c.thread p.threads.length;have o:=iH c.module p.modules.length
  have B:gf p c=true->dX p=1:=fun J=>by
   have:ge p i c=1:=by simp[ge,J]
   rw[j,g6 b (by simp[this])];exact this
  by_cases e:gf p c=true
  ·rw[B e]
   by_cases V:1<=c.w/\c.w<=8
   ·have q:=so (w:=c.w) aa;have s:=SV (w:=c.w) aa;have k: ¬c.w<0:=aa
    refine a7 a b g ?_
    repeat'(refine VE a m l o q s k ?_ ?_<;>intro h<;>try exact⟨⟩)
    all_goals(exfalso;simp only[gf,inR,fg,eI,aQ,d8]at *;simp_all;(try omega);done)
   ·have k:c.w<1\/c.w>8:=aa
    refine a7 a b g ?_;refine aR a ?_ ?_<;>intro h<;>try exact⟨⟩
    refine aR a ?_ ?_<;>intro h<;>try exact⟨⟩
    refine aR a ?_ ?_<;>intro h<;>try exact⟨⟩
    all_goals(exfalso;omega)
  ·have C:gf p c=false:=al e
   obtain⟨F,b2,W,X,Y,Z,b7,H⟩:=xe C;have q:=so (w:=c.w) aa;have s:=SV (w:=c.w) aa;have k: ¬c.w<0:=aa
   have P: ¬c.w<1:=aa
   have R: ¬c.w>8:=aa
   have I:inR c.init (2^c.w.toNat)=true:=by simp[inR];omega
   rw[F]at g;rw[I]at m;rw[H]at o;have E:=fun n=>Ot 2 c.name ((p.cells.take i).map Cell.name) K n D
   have t:((p.cells.take i).map Cell.name).any (fun d=>d.toList==c.name.toList)=(p.cells.take i).any (fun d=>d.name.toList==c.name.toList):=by rw[rj];rfl
   have A: ∀Q:Prop,(c.thread= -1->Q)->(¬c.thread= -1->inR c.thread p.threads.length=true->Q)->Q:=fun Q N O=>by
    by_cases h:c.thread= -1
    ·exact N h
    ·exact O h (by simp[inR];omega)
   refine A _ (fun y=> ?_) (fun y S=> ?_)
   all_goals(
    (try rw[S]at l)
    refine sI a b g m l o q s k P R y ?_;refine bf (E _) ?_;rintro r h' n' ⟨rfl,v⟩;rw[t]at v;refine aJ a t ?_;refine aR a ?_ ?_<;>intro h
    ·have:ge p i c=41:=by rw[ge,ac e,ah h]
     rw[j,g6 b (by simp[this])];exact this.symm
    ·refine⟨aa,ak M,?_,?_⟩
     ·have z:=v h;refine aw z ?_;rw[a_ b];simp
     ·rw[j,iJ b (by rw[ge,ac e,ac (by simp[h])])])
 ·have:i=p.cells.length:=aa
  subst this;rw[j,iR]
end Rg
end
