/- Part of the proof of laws of relyguardlaw36. No condition. -/
import Derived.Test.YtaiokglcgiemnaaGreatDoorEartAL
set_option linter.unusedSimpArgs false
set_option linter.unusedVariables false
set_option linter.defProp false
section
namespace Rg
open Go
def a7 {α:Type} (f:Nat->α->Int):Nat->List α->Int×Int
 | _,[]=>(0,-1)
 | i,x::r=>if f i x=0 then a7 f (i+1) r else(f i x,i)
theorem je {α:Type} {l:List α} {i:Nat} {x:α} (h:l[i]? =some x):l.drop i=x::l.drop (i+1):=by
 obtain⟨hi,rfl⟩:=zH.1 h;exact vP hi
theorem iE {α:Type} {f:Nat->α->Int} {l:List α} {i:Nat} {x:α} (h:l[i]? =some x) (a:f i x=0):a7 f i (l.drop i)=a7 f (i+1) (l.drop (i+1)):=by
 rw[je h,a7,ah a]
theorem gV {α:Type} {f:Nat->α->Int} {l:List α} {i:Nat} {x:α} (h:l[i]? =some x) (a: ¬f i x=0):a7 f i (l.drop i)=(f i x,(i:Int)):=by
 rw[je h,a7,ac a]
theorem iJ {α:Type} (f:Nat->α->Int) (l:List α):a7 f l.length (l.drop l.length)=(0,-1):=by
 rw[rD];rfl
theorem d9 {α:Type} {P:α->Bool} {l:List α} {i:Nat} {x:α} (h:l[i]? =some x) (a:P x=true):(l.drop i).all P=(l.drop (i+1)).all P:=by
 rw[je h,eo,a,ep]
theorem d8 {α:Type} {P:α->Bool} {l:List α} {i:Nat} {x:α} (h:l[i]? =some x) (a:P x=false):(l.drop i).all P=false:=by
 rw[je h,eo,a,ig]
theorem ed {α:Type} (P:α->Bool) (l:List α):(l.drop l.length).all P=true:=by
 rw[rD];rfl
theorem xD {α:Type} {P:α->Bool} {l:List α} {i:Nat} {x:α} (h:l[i]? =some x) (a:P x=false):(l.drop i).any P=(l.drop (i+1)).any P:=by
 rw[je h,qm,a,vZ]
theorem xC {α:Type} {P:α->Bool} {l:List α} {i:Nat} {x:α} (h:l[i]? =some x) (a:P x=true):(l.drop i).any P=true:=by
 rw[je h,qm,a,wH]
theorem y7 {α:Type} (P:α->Bool) (l:List α):(l.drop l.length).any P=false:=by
 rw[rD];rfl
def lL (p:Prog) (sh:Bool) (t c:Int):Bool:=if sh then eW p t c else br p t c
def cY (p:Prog) (e:Expr) (sh:Bool) (t:Int):Bool:=(e.sup 3).all (lL p sh t)&&(e.sup 2).all (lL p sh t)
def cB (p:Prog) (e:Expr) (pair:Bool) (t:Int):Bool:=e.valid p.cells pair&&decide (e.w=1)&&cY p e true t
def eq (x:Thread):Bool:=decide (x.points>48)||decide ((x.steps.length:Int)>64)||decide ((x.loops.length:Int)>8)
def cI (p:Prog):Int×Int:=
 if(p.cells.length:Int)>32\/(p.modules.length:Int)>6\/(p.locks.length:Int)>4\/(p.threads.length:Int)>4 then(2,-1)
 else a7 (fun _ x=>if eq x then 2 else 0) 0 p.threads
def fY (p:Prog) (c:Cell):Bool:=
 !ec c.name||decide (c.w<1)||decide (c.w>8)||decide (c.init<0)||decide (c.init>=2^c.w.toNat)||decide (c.thread< -1)||decide (c.thread>=p.threads.length) || !inR c.module p.modules.length
def fW (p:Prog) (i:Nat) (c:Cell):Int:=
 if fY p c then 1 else if(p.cells.take i).any (fun d=>d.name.toList==c.name.toList)then 41 else 0
def dT (p:Prog):Int:=(a7 (fW p) 0 p.cells).1
def gX (p:Prog) (i:Nat) (m:Contract):Int:=
 if !ec m.name || !ec m.owner then 1
 else if(p.modules.take i).any (fun d=>d.name.toList==m.name.toList)then 41
 else if(!m.rely.absent&& !cB p m.rely true (-1)) || !cB p m.guar true (-1)then 60
 else if !fS m.frame || !m.frame.all (br p (-1))then 1 else 0
def fl (p:Prog):Int:=(a7 (gX p) 0 p.modules).1
def cJ (p:Prog) (c:Int) (f:Cell->Bool):Bool:=match p.cells[c.toNat]? with
 | some x=>f x
 | none=>false
def iq (p:Prog) (i:Nat) (l:Lock):Int:=
 if !br p (-1) l.cell || !cJ p l.cell (fun x=>decide (x.w=1))||cJ p l.cell Cell.ghost || !inR l.module p.modules.length then 1
 else if(p.locks.take i).any (fun d=>decide (d.cell=l.cell))then 1
 else if !cB p l.inv false (-1)then 60 else 0
def fD (p:Prog):Int:=(a7 (iq p) 0 p.locks).1
def cW (p:Prog) (set:List Assign) (i:Nat) (a:Assign):Int:=
 if !inR a.cell p.cells.length||(set.take i).any (fun b=>decide (b.cell=a.cell))then 70
 else if !a.to.valid p.cells false || !cJ p a.cell (fun x=>decide (a.to.w=x.w))then 60 else 0
def fR (p:Prog) (s:Step) (sh:Bool) (t:Int):Bool:=cY p s.guard sh t&&s.set.all fun a=>cY p a.to sh t
def f_ (p:Prog) (t:Int) (s:Step):Bool:=s.guard.one&&decide (s.set=[])&&decide (s.target≠t)&&inR s.target p.threads.length
def pG (p:Prog) (t:Int):Bool:=match p.threads[t.toNat]? with
 | some x=>x.asleep
 | none=>false
def mC (p:Prog) (t:Int) (s:Step):Bool:=match s.set with
 | []=>false
 | a::r=>cY p s.guard false t&&br p t a.cell&& !cJ p a.cell Cell.ghost&&decide (a.to.op=2)&&br p (-1) a.to.n&& !cJ p a.to.n Cell.ghost&&
    r.all fun b=>br p t b.cell&&cJ p b.cell Cell.ghost&&cY p b.to false t
def mA (p:Prog) (t:Int) (s:Step):Bool:=match s.set with
 | []=>false
 | a::r=>fR p s false t&&br p (-1) a.cell&& !cJ p a.cell Cell.ghost&&r.all fun b=>cJ p b.cell Cell.ghost&&eW p t b.cell
def c6 (p:Prog) (t:Int) (s:Step):Bool:=
 if s.kind=1 then fR p s false t&&s.set.all fun a=>br p t a.cell
 else if s.kind=2 then mC p t s
 else if s.kind=3 then mA p t s
 else if s.kind=4 then fR p s true t&&s.set.all fun a=>eW p t a.cell
 else if s.kind=5 then s.guard.one&&decide (s.set=[])
 else if s.kind=6 then f_ p t s&&pG p s.target
 else f_ p t s
def kH (p:Prog) (n:Int) (s:Step):Bool:=
 decide (s.kind<1)||decide (s.kind>7) || !inR s.fr (n-1) || !inR s.to n || !inR s.module p.modules.length||(s.release&&decide (s.kind≠3))||(decide (s.target≠0)&& !(decide (s.kind=6)||decide (s.kind=7)))
def cC (p:Prog) (t n:Int) (s:Step):Int:=
 if kH p n s then 70
 else if !s.guard.valid p.cells false||decide (s.guard.w≠1)then 60
 else if ¬(a7 (cW p s.set) 0 s.set).1=0 then(a7 (cW p s.set) 0 s.set).1
 else if c6 p t s then 0 else 70
def dE (p:Prog) (t n:Int) (l:Loop):Int:=
 if !inR l.head n || !fS l.body || !l.body.all (fun k=>inR k n&&decide (k≠l.head))then 1
 else if !l.variant.valid p.cells false || !cY p l.variant true t then 60 else 0
def bI (p:Prog) (i:Nat) (x:Thread):Int×Int:=
 if !ec x.name then(1,-1)
 else if(p.threads.take i).any (fun d=>d.name.toList==x.name.toList)then(41,-1)
 else if x.points<1\/ ¬(x.asserts.length:Int)=x.points\/ ¬(x.modules.length:Int)=x.points then(1,-1)
 else if !x.modules.all (fun m=>inR m p.modules.length)then(1,-1)
 else if !x.asserts.all (fun e=>cB p e false i)then(60,-1)
 else if ¬(a7 (fun _ s=>cC p i x.points s) 0 x.steps).1=0 then a7 (fun _ s=>cC p i x.points s) 0 x.steps
 else((a7 (fun _ l=>dE p i x.points l) 0 x.loops).1,-1)
def eQ (p:Prog):Nat->List Thread->Int×Int×Int
 | _,[]=>(0,-1,-1)
 | i,x::r=>if(bI p i x).1=0 then eQ p (i+1) r else((bI p i x).1,(i:Int),(bI p i x).2)
def dh (p:Prog):Int×Int×Int:=
 if ¬(cI p).1=0 then((cI p).1,(cI p).2,-1)
 else if ¬dT p=0 then(dT p,-1,-1)
 else if ¬fl p=0 then(fl p,-1,-1)
 else if ¬fD p=0 then(fD p,-1,-1)
 else eQ p 0 p.threads
theorem Oc {p:Prog} {l:List Thread} {i:Nat} {x:Thread} (h:l[i]? =some x) (a:(bI p i x).1=0):eQ p i (l.drop i)=eQ p (i+1) (l.drop (i+1)):=by
 rw[je h,eQ,ah a]
theorem N' {p:Prog} {l:List Thread} {i:Nat} {x:Thread} (h:l[i]? =some x) (a: ¬(bI p i x).1=0):eQ p i (l.drop i)=((bI p i x).1,(i:Int),(bI p i x).2):=by
 rw[je h,eQ,ac a]
theorem RM (p:Prog) (l:List Thread):eQ p l.length (l.drop l.length)=(0,-1,-1):=by
 rw[rD];rfl
structure Prog.sane (p:Prog):Prop where
 cells:p.cells.length<2^48
 modules:p.modules.length<2^48
 locks:p.locks.length<2^48
 threads:p.threads.length<2^48
 cname: ∀c∈p.cells,c.name.size<2^50
 mname: ∀m∈p.modules,m.name.size<2^50/\m.owner.size<2^50/\m.frame.length<2^48
 thr: ∀t∈p.threads,t.name.size<2^50/\t.asserts.length<2^48/\t.modules.length<2^48/\t.steps.length<2^48/\t.loops.length<2^48
 sets: ∀t∈p.threads,∀s∈t.steps,s.set.length<2^48
 loops: ∀t∈p.threads,∀l∈t.loops,l.body.length<2^48
end Rg
end
section
-- FULL
namespace Rg
open Go
theorem Sa {p:Prog} (d: ∀c∈p.cells,-1<=c.thread) (sh:Bool) (t c:Int) (f: -1<=t) (e:sh=true\/0<=t) (b:0<=c):qN p sh t c=lL p sh t c:=by
 unfold qN lL eW br;rcases g:p.cells[c.toNat]? with _ | x
 ·cases sh<;>simp
 ·have:=d x (zL g);simp only[b,lx,ep]
  have a:(decide (0<=x.thread))= !decide (x.thread= -1):=by
   by_cases h:x.thread= -1
   ·simp[h]
   ·simp[h];omega
  rw[a];cases sh
  ·have f:0<=t:=ak e
   by_cases h:x.thread= -1
   ·simp[h];omega
   ·simp[h]
  ·by_cases h:x.thread= -1
   ·simp[h]
   ·simp[h]
theorem ur {α:Type} {P Q:α->Bool} {l:List α} (h: ∀x∈l,P x=Q x):l.all P=l.all Q:=by
 induction l with
 | nil=>rfl
 | cons x r b=>rw[eo,eo,h x af,b fun y a=>h y (by simp[a])]
theorem RS {op:Int} {e:Expr} {c:Int} (h:c∈e.sup op):0<=c/\e.formed=true/\ ∃x∈e.lv,x.op=op/\x.n.toNat=c.toNat:=by
 unfold Expr.sup at h;split at h
 ·rename_i i;obtain⟨j,d,rfl⟩:=df.1 h;refine⟨aa,i,?_⟩;obtain⟨_,d⟩:=ic.1 d
  have f: ∀(l:List Expr) (s:List Bool),(l.foldl (bT op) s).getD j false=true->s.getD j false=true\/ ∃x∈l,x.op=op/\x.n.toNat=j:=by
   intro l
   induction l with
   | nil=>intro s h;exact .inl h
   | cons x l o=>
     intro s h;rw[jl]at h;rcases o _ h with h | ⟨y,n,a,b⟩
     ·unfold bT at h;split at h
      ·rename_i k
       by_cases g:x.n.toNat=j
       ·exact .inr ⟨x,af,k,g⟩
       ·left;simpa[List.getD,cH,g]using h
      ·exact .inl h
     ·exact .inr ⟨y,by simp[n],a,b⟩
  rcases f _ _ d with h | ⟨x,m,a,b⟩
  ·have:(List.replicate 32 false).getD j false=false:=by
    rw[List.getD,ni];split<;>rfl
   rw[this]at h;simp at h
  ·exact⟨x,m,a,ak b⟩
 ·simp at h
theorem pH {p:Prog} {e:Expr} {pair:Bool} (h:e.valid p.cells pair=true):yX p e:=by
 intro op f c i;obtain⟨g,d,x,j,b,k⟩:=RS i;refine⟨g,?_⟩;unfold Expr.valid at h;rw[d,ep,SW (fun x=>JQ p.cells pair) 40 e (nv d)]at h;have:=zN.1 h x j;unfold dB at this;rcases f with rfl | rfl
 ·simp only[b]at this;rcases a:p.cells[x.n.toNat]? with _ | y
  ·simp[a]at this
  ·have:=(zH.1 a).1;omega
 ·simp only[b]at this;rcases a:p.cells[x.n.toNat]? with _ | y
  ·simp[a]at this
  ·have:=(zH.1 a).1;omega
theorem um {p:Prog} (d: ∀c∈p.cells,-1<=c.thread) {e:Expr} (a:yX p e) (sh:Bool) (t:Int) (g: -1<=t) (f:sh=true\/0<=t):
 Den Γ G 115 [(zP p),(.agg [.t (ti (e).op),.t (ti (e).w),.t (ti (e).n),.t (.sl ((e).kids.map (Expr.enc)))]),vb sh,vi t]=some (vb (cY p e sh t)):=by
 rw[YK p e sh t a,np,cY];rw[ur (l:=e.sup 3) fun c b=>Sa d sh t c g f (a 3 (.inr rfl) c b).1];rw[ur (l:=e.sup 2) fun c b=>Sa d sh t c g f (a 2 (.inl rfl) c b).1]
theorem ub {p:Prog} (f: ∀c∈p.cells,-1<=c.thread) (e:Expr) (pair:Bool) (t:Int) (g: -1<=t):
 Den Γ G 112 [(zP p),(.agg [.t (ti (e).op),.t (ti (e).w),.t (ti (e).n),.t (.sl ((e).kids.map (Expr.enc)))]),vb pair,vi t]=some (vb (cB p e pair t)):=by
 refine aD (q:=?_)
 have b:=ua e p.cells pair;cases a:e.valid p.cells pair
 ·rw[a]at b;refine jS b ?_;simp[cB,a]
 ·rw[a]at b;have d:=um f (pH a) true t g (.inl rfl);refine jS b ?_;refine zw d ?_ ?_<;>intro h
  ·simp[cB,a,h]
  ·simp[cB,a,h]
theorem kaQ:Den Γ G 157 []=some (.agg [vi 1,vi 1,vi 1,.t (.sl [])]):=by
 refine aD (q:=?_)
 have a:=r6 1 1;exact ES a
theorem WR (p:Prog) (o:p.sane):Den Γ G 84 [(zP p)]=some (.tup [vi (cI p).1,vi (cI p).2]):=by
 (refine nN Γ84 rfl ?_;dsimp only[f84])
 simp -dsimp [go_sem]
 by_cases e:(p.cells.length:Int)>32\/(p.modules.length:Int)>6\/(p.locks.length:Int)>4\/(p.threads.length:Int)>4
 ·have a:cI p=(2,-1):=by rw[cI,ah e]
  rw[a]
  repeat'(refine bp (fun h=> ?_) (fun h=> ?_)<;>(try rw[h])<;>(try simp only[bh]at h)<;>(try simp -dsimp [go_sem]))
  all_goals(try omega)
 ·have a:cI p=a7 (fun _ x=>if eq x then 2 else 0) 0 p.threads:=by rw[cI,ac e]
  have j: ¬(p.cells.length:Int)>32:=aa
  have k: ¬(p.modules.length:Int)>6:=aa
  have l: ¬(p.locks.length:Int)>4:=aa
  have m: ¬(p.threads.length:Int)>4:=aa
  simp -dsimp [go_sem,j,k,l,m];refine ba 72057593769492540 p.threads.length (fun i f=>(f 4).v=vi i/\cI p=a7 (fun _ x=>if eq x then 2 else 0) i (p.threads.drop i)) rfl rfl ⟨by simp -dsimp [go_sem],a⟩ ?_;clear a;rintro i f u q bb hi ⟨c,a⟩;have n:=aC i aa;simp -dsimp [go_sem,c];refine bp (fun h=> ?_) (fun h=> ?_)<;>(try rw[h])<;>(try simp only[bh]at h)<;>(try simp -dsimp [go_sem])
  ·obtain⟨x,d,_⟩:=aw ‹i<p.threads.length›;have b:eq x=true->cI p=(2,(i:Int)):=fun g=>by rw[a,gV d (by simp[g])];simp[g]
   simp -dsimp [go_sem,c,d]
   repeat'(refine bp (fun h=> ?_) (fun h=> ?_)<;>(try rw[h])<;>(try simp only[bh]at h)<;>(try simp -dsimp [go_sem,c]))
   ·rw[b (by simp[eq, *])];simp
   ·rw[b (by simp[eq, *])];simp
   ·rw[b (by simp[eq, *])];simp
   ·refine⟨aa,by simp -dsimp [go_sem,n],?_⟩;rw[a,iE d (by simp[eq, *])]
  ·have:i=p.threads.length:=aa
   subst this;rw[a,iJ];simp
end Rg
end
section
-- FULL
namespace Rg
open Go
theorem p9 {α:Type} {P:α->Bool} {l:List α} {i j:Nat} {x:α} (b:l[j]? =some x) (a:j<i) (h:P x=true):(l.take i).any P=true:=by
 rw[lf];exact⟨x,zL (by rw[zO,ah a];exact b),h⟩
theorem rh {α:Type} {P:α->Bool} {l:List α} {j:Nat} {x:α} (a:l[j]? =some x):(l.take (j+1)).any P=((l.take j).any P||P x):=by
 rw[bc a,vH];simp
theorem Xs (p:Prog) (v:p.sane):Den Γ G 85 [(zP p)]=some (vi (dT p)):=by
 (refine nN Γ85 rfl ?_;dsimp only[f85])
 simp -dsimp [go_sem];refine ba 2417851639229258349412348 p.cells.length (fun i f=>(f 3).v=vi i/\dT p=(a7 (fW p) i (p.cells.drop i)).1) rfl rfl ⟨by simp -dsimp [go_sem],rfl⟩ ?_;rintro i f u O bb hi ⟨a,m⟩;have K:=v.cells;have I:=aC i aa;simp -dsimp [go_sem,a];refine bp (fun h=> ?_) (fun h=> ?_)<;>(try rw[h])<;>(try simp only[bh]at h)<;>(try simp -dsimp [go_sem,a])
 ·obtain⟨c,b,y⟩:=aw ‹i<p.cells.length›
  have w:fY p c=true->dT p=1:=fun H=>by
   have:fW p i c=1:=by simp[fW,H]
   rw[m,gV b (by simp[this])];exact this
  have l:=uv c.name (v.cname c y);have g:=iH c.module p.modules.length
  by_cases e:fY p c=true
  ·rw[w e]
   by_cases M:c.w<=8
   ·have hp:=o_ c.w aa;simp -dsimp [go_sem,a,b,l]
    repeat'(refine bp (fun h=> ?_) (fun h=> ?_)<;>(try rw[h])<;>(try simp only[bh]at h)<;>(try simp -dsimp [go_sem,a,hp,g]))
    all_goals(exfalso;simp only[fY,eZ,eD,aR]at e;grind)
   ·have F:c.w>8:=aa
    simp -dsimp [go_sem,a,b,l,F]
    repeat'(refine bp (fun h=> ?_) (fun h=> ?_)<;>(try rw[h])<;>(try simp only[bh]at h)<;>(try simp -dsimp [go_sem,a,g]))
    all_goals(exfalso;omega)
  ·have s:=e;simp only[fY,eZ,eD,aR,mf]at s;obtain⟨⟨⟨⟨⟨⟨⟨n,b2⟩,z⟩,A⟩,B⟩,C⟩,D⟩,o⟩:=s;have n:ec c.name=true:=by simpa using n
   have o:inR c.module p.modules.length=true:=by simpa using o
   rw[n]at l;rw[o]at g;have hp:=o_ c.w aa;simp -dsimp [go_sem,a,b,l,b2,z,A,hp,B,C,D,g];refine ba 2417704065276668672999460 i (fun k t=>(t 5).v=vi k/\(p.cells.take k).any (fun d=>d.name.toList==c.name.toList)=false) rfl rfl ⟨by simp -dsimp [go_sem],af⟩ ?_;rintro k t P J E N ⟨j,r⟩;have x:=aC k aa;simp -dsimp [go_sem,a,j];refine bp (fun h=> ?_) (fun h=> ?_)<;>(try rw[h])<;>(try simp only[bh]at h)<;>(try simp -dsimp [go_sem,a,j])
   ·obtain⟨d,q,L⟩:=aw (show k<p.cells.length from aa);simp -dsimp [go_sem,a,j,q];refine bp (fun h=> ?_) (fun h=> ?_)<;>(try rw[h])<;>(try simp only[bh]at h)<;>(try simp -dsimp [go_sem,a,j])
    ·have:fW p i c=41:=by
      rw[fW,ac e,ah (p9 q ‹k<i› (by simpa using h))]
     rw[m,gV b (by simp[this])];exact this.symm
    ·refine⟨aa,by simp -dsimp [go_sem,x],?_⟩;rw[rh q,r];simpa using h
   ·have:k=i:=aa
    subst this;refine⟨aa,by simp -dsimp [go_sem,I],?_⟩;rw[m,iE b (by rw[fW,ac e,ac (by simp[r])])]
 ·have:i=p.cells.length:=aa
  subst this;rw[m,iJ]
theorem H_ {p:Prog} (h:dT p=0): ∀c∈p.cells,fY p c=false:=by
 have d: ∀(l:List Cell) (i:Nat),(a7 (fW p) i l).1=0-> ∀c∈l,fY p c=false:=by
  intro l
  induction l with
  | nil=>intro i _ c a;simp at a
  | cons x r f=>
    intro i h c a;rw[a7]at h;split at h
    ·rename_i b;rcases cq.1 a with rfl | a
     ·cases e:fY p c
      ·rfl
      ·simp[fW,e]at b
     ·exact f _ h c a
    ·rename_i b;exact absurd h b
 exact d p.cells 0 h
theorem xc {p:Prog} {c:Cell} (h:fY p c=false):ec c.name=true/\1<=c.w/\c.w<=8/\0<=c.init/\c.init<2^c.w.toNat/\ -1<=c.thread/\c.thread<p.threads.length/\inR c.module p.modules.length=true:=by
 simp only[fY,jm,nf,ek]at h;obtain⟨⟨⟨⟨⟨⟨⟨a,b2⟩,d⟩,e⟩,f⟩,g⟩,i⟩,b⟩:=h;exact⟨a,aa,aa,aa,aa,aa,aa,b⟩
theorem w_ {p:Prog} (h:dT p=0): ∀c∈p.cells,-1<=c.thread:=fun c a=>(xc (H_ h c a)).2.2.2.2.2.1
theorem mh {p:Prog} {c t:Int} {x:Cell} (a:0<=c) (b:p.cells[c.toNat]? =some x):br p t c=decide (x.thread=t):=by
 simp[br,a,b]
theorem WD (p:Prog) (L:p.sane) (U:dT p=0):Den Γ G 86 [(zP p)]=some (vi (fl p)):=by
 (refine nN Γ86 rfl ?_;dsimp only[f86])
 simp -dsimp [go_sem];have B:=w_ U;refine ba 39614081257132168796771975164 p.modules.length (fun i f=>(f 3).v=vi i/\fl p=(a7 (gX p) i (p.modules.drop i)).1) rfl rfl ⟨by simp -dsimp [go_sem],rfl⟩ ?_;rintro i f u kk bb hi ⟨a,w⟩;have He:=L.modules;have hw:=aC i aa;simp -dsimp [go_sem,a];refine bp (fun h=> ?_) (fun h=> ?_)<;>(try rw[h])<;>(try simp only[bh]at h)<;>(try simp -dsimp [go_sem,a])
 ·obtain⟨c,v,S⟩:=aw ‹i<p.modules.length›;obtain⟨s1,s2,s3⟩:=L.mname c S
  have e: ∀k:Int,k≠0->gX p i c=k->fl p=k:=fun k J o=>by
   rw[w,gV v (by rw[o];exact J)];exact o
  have hl:=uv c.name s1;have V:=uv c.owner s2;simp -dsimp [go_sem,a,v,hl];refine bp (fun h=> ?_) (fun h=> ?_)<;>(try rw[h])<;>(try simp only[bh]at h)<;>(try simp -dsimp [go_sem,a,V])
  ·rw[e 1 aI (by simp[gX,h])]
  ·refine bp (fun h=> ?_) (fun h=> ?_)<;>(try rw[h])<;>(try simp only[bh]at h)<;>(try simp -dsimp [go_sem,a])
   ·rw[e 1 aI (by simp[gX,h])]
   ·have E:ec c.name=true:=bC
    have F:ec c.owner=true:=bC
    refine ba 8795556151332 i (fun k H=>(H 5).v=vi k/\(p.modules.take k).any (fun d=>d.name.toList==c.name.toList)=false) rfl rfl ⟨by simp -dsimp [go_sem],af⟩ ?_;rintro k H u' kk' Y J ⟨q,z⟩;have R:=aC k aa;simp -dsimp [go_sem,a,q];refine bp (fun h=> ?_) (fun h=> ?_)<;>(try rw[h])<;>(try simp only[bh]at h)<;>(try simp -dsimp [go_sem,a,q])
    ·obtain⟨d,b,X⟩:=aw (show k<p.modules.length from aa);simp -dsimp [go_sem,a,q,b];refine bp (fun h=> ?_) (fun h=> ?_)<;>(try rw[h])<;>(try simp only[bh]at h)<;>(try simp -dsimp [go_sem,a,q])
     ·rw[e 41 aI (by rw[gX,ac (by simp[E,F]),ah (p9 b ‹k<i› (by simpa using h))])]
     ·refine⟨aa,by simp -dsimp [go_sem,R],?_⟩;rw[rh b,z];simpa using h
    ·have:k=i:=aa
     subst this;have r:=WA c.rely;have s:=ub B c.rely true (-1) aa;have n:=ub B c.guar true (-1) aa
     have g:gX p k c=if(!c.rely.absent&& !cB p c.rely true (-1)) || !cB p c.guar true (-1)then 60 else if !fS c.frame || !c.frame.all (br p (-1))then 1 else 0:=by
      rw[gX,ac (by simp[E,F]),ac (by simp[z])]
     by_cases K:((!c.rely.absent&& !cB p c.rely true (-1)) || !cB p c.guar true (-1))=true
     ·rw[e 60 aI (by rw[g,ah K])];simp -dsimp [go_sem,a,r]
      repeat'(refine bp (fun h=> ?_) (fun h=> ?_)<;>(try rw[h])<;>(try simp only[bh]at h)<;>(try simp -dsimp [go_sem,a,s,n]))
      all_goals(exfalso;simp_all)
     ·have O: ∀(Q:Prop),(c.rely.absent=true->cB p c.guar true (-1)=true->Q)->(c.rely.absent=false->cB p c.rely true (-1)=true->cB p c.guar true (-1)=true->Q)->Q:=fun Q q1 q2=>by
       cases h1:c.rely.absent<;>cases h2:cB p c.rely true (-1)<;>cases a:cB p c.guar true (-1)<;>simp_all
      rw[ac K]at g;refine O _ (fun N y=> ?_) (fun N y r3=> ?_)
      all_goals(
       (try rw[N]at r)
       (try rw[y]at s)
       (try rw[y]at n)
       (try rw[r3]at n)
       simp -dsimp [go_sem,a,r,s,n];refine ba 2475880076264917540584554564 c.frame.length (fun j I=>(I 6).v=vi j/\c.frame.all (br p (-1))=(c.frame.drop j).all (br p (-1))) rfl rfl ⟨by simp -dsimp [go_sem],rfl⟩ ?_;rintro j I u2 kk2 Z hj ⟨l,m⟩;have T:=aC j aa;simp -dsimp [go_sem,a,l];refine bp (fun h=> ?_) (fun h=> ?_)<;>(try rw[h])<;>(try simp only[bh]at h)<;>(try simp -dsimp [go_sem,a,l])
       ·obtain⟨d,b,X⟩:=aw (show j<c.frame.length from aa);have P:=iH d p.cells.length
        have A:br p (-1) d=false->1=fl p:=fun o=>by
         rw[e 1 aI (by rw[g,m,d8 b o];simp)]
        simp -dsimp [go_sem,a,l,b,P];refine bp (fun h=> ?_) (fun h=> ?_)<;>(try rw[h])<;>(try simp only[bh]at h)<;>(try simp -dsimp [go_sem,a,l])
        ·exact A (tC h)
        ·obtain⟨D,x,M⟩:=fV h;have C:=mh (t:= -1) D M;simp -dsimp [go_sem,a,l,b,D,M];refine bp (fun h=> ?_) (fun h=> ?_)<;>(try rw[h])<;>(try simp only[bh]at h)<;>(try simp -dsimp [go_sem,a,l])
         ·exact A (by rw[C];simpa using h)
         ·refine⟨aa,by simp -dsimp [go_sem,T],?_⟩;rw[m,d9 b (by rw[C];simpa using h)]
       ·have:j=c.frame.length:=aa
        subst this;rw[ed]at m;rw[m]at g;have W:=K0 c.frame aa;simp -dsimp [go_sem,a,W];refine bp (fun h=> ?_) (fun h=> ?_)<;>(try rw[h])<;>(try simp only[bh]at h)<;>(try simp -dsimp [go_sem,a])
        ·rw[e 1 aI (by rw[g];simp[h])]
        ·refine⟨aa,by simp -dsimp [go_sem,hw],?_⟩
         rw[w,iE v (by rw[g];simp[h])])
 ·have:i=p.modules.length:=aa
  subst this;rw[w,iJ]
end Rg
end
section
-- FULL
namespace Rg
open Go
theorem ff {p:Prog} {c:Int} {x:Cell} {g:Cell->Bool} (a:p.cells[c.toNat]? =some x):cJ p c g=g x:=by simp[cJ,a]
theorem Y5 (p:Prog) (N:p.sane) (F:dT p=0):Den Γ G 87 [(zP p)]=some (vi (fD p)):=by
 (refine nN Γ87 rfl ?_;dsimp only[f87])
 simp -dsimp [go_sem];have H:=w_ F;refine ba 4835703278458516698824700 p.locks.length (fun i f=>(f 3).v=vi i/\fD p=(a7 (iq p) i (p.locks.drop i)).1) rfl rfl ⟨by simp -dsimp [go_sem],rfl⟩ ?_;rintro i f u T bb hi ⟨a,s⟩;have Q:=N.locks;have O:=aC i aa;simp -dsimp [go_sem,a];refine bp (fun h=> ?_) (fun h=> ?_)<;>(try rw[h])<;>(try simp only[bh]at h)<;>(try simp -dsimp [go_sem,a])
 ·obtain⟨l,c,R⟩:=aw ‹i<p.locks.length›
  have m: ∀k:Int,k≠0->iq p i l=k->fD p=k:=fun k C B=>by
   rw[s,gV c (by rw[B];exact C)];exact B
  have D:=iH l.cell p.cells.length;have q:=iH l.module p.modules.length;simp -dsimp [go_sem,a,c,D];refine bp (fun h=> ?_) (fun h=> ?_)<;>(try rw[h])<;>(try simp only[bh]at h)<;>(try simp -dsimp [go_sem,a])
  ·rw[m 1 aI (by simp[iq,tC h])]
  ·obtain⟨n,x,e⟩:=fV h;have z:=mh (t:= -1) n e;have y:=ff (g:=fun x=>decide (x.w=1)) e;have w:=ff (g:=Cell.ghost) e;simp -dsimp [go_sem,a,c,n,e]
   by_cases b:(!br p (-1) l.cell || !cJ p l.cell (fun x=>decide (x.w=1))||cJ p l.cell Cell.ghost || !inR l.module p.modules.length)=true
   ·rw[m 1 aI (by rw[iq,ah b])];rw[z,y,w]at b
    repeat'(refine bp (fun h=> ?_) (fun h=> ?_)<;>(try rw[h])<;>(try simp only[bh]at h)<;>(try simp -dsimp [go_sem,a,c,n,e,q]))
    all_goals(exfalso;simp_all)
   ·have j:iq p i l=if(p.locks.take i).any (fun d=>decide (d.cell=l.cell))then 1 else if !cB p l.inv false (-1)then 60 else 0:=by rw[iq,ac b]
    rw[z,y,w]at b;simp only[eZ,eD,ek,mf,sJ,Bool.not_eq_true,rC]at b;obtain⟨⟨⟨J,b2⟩,K⟩,L⟩:=b;rw[L]at q;simp -dsimp [go_sem,a,c,n,e,J,b2,K,q];refine ba 151106504079791792062500 i (fun k A=>(A 5).v=vi k/\(p.locks.take k).any (fun d=>decide (d.cell=l.cell))=false) rfl rfl ⟨by simp -dsimp [go_sem],af⟩ ?_;rintro k A U P M C ⟨o,v⟩;have E:=aC k aa;simp -dsimp [go_sem,a,o];refine bp (fun h=> ?_) (fun h=> ?_)<;>(try rw[h])<;>(try simp only[bh]at h)<;>(try simp -dsimp [go_sem,a,o])
    ·obtain⟨d,r,S⟩:=aw (show k<p.locks.length from aa);simp -dsimp [go_sem,a,o,r];refine bp (fun h=> ?_) (fun h=> ?_)<;>(try rw[h])<;>(try simp only[bh]at h)<;>(try simp -dsimp [go_sem,a,o])
     ·rw[m 1 aI (by rw[j,ah (p9 r ‹k<i› (by simpa using h))])]
     ·refine⟨aa,by simp -dsimp [go_sem,E],?_⟩;rw[rh r,v];simpa using h
    ·have:k=i:=aa
     subst this;rw[v]at j;have I:=ub H l.inv false (-1) aa;simp -dsimp [go_sem,a,I];refine bp (fun h=> ?_) (fun h=> ?_)<;>(try rw[h])<;>(try simp only[bh]at h)<;>(try simp -dsimp [go_sem,a])
     ·rw[m 60 aI (by rw[j];simp[h])]
     ·refine⟨aa,by simp -dsimp [go_sem,O],?_⟩;rw[s,iE c (by rw[j];simp[h])]
 ·have:i=p.locks.length:=aa
  subst this;rw[s,iJ]
theorem RN {e:Expr} (h:e.one=true) (op:Int) (f:op≠1):e.sup op=[]:=by
 simp only[Expr.one,aR]at h;obtain⟨i,j,k,b⟩:=h;rw[List.eq_nil_iff_forall_not_mem];intro c d;obtain⟨_,_,x,a,g,_⟩:=RS d;rw[Expr.lv_eq,ah b]at a;simp only[bD]at a;subst a;omega
theorem kaN {p:Prog} {e:Expr} (h:e.one=true) (sh:Bool) (t:Int):cY p e sh t=true:=by
 rw[cY,RN h 3 aI,RN h 2 aI];rfl
def mz (p:Prog) (t:Int) (s:Step):Prop:=cY p s.guard (decide (s.kind=4)) t=true/\
 ∀(j:Nat) (a:Assign),s.set[j]? =some a->((0<j\/s.kind≠2)->cY p a.to (decide (s.kind=4)) t=true)/\(br p t a.cell=true\/br p (-1) a.cell=true)
theorem Y7 {p:Prog} {t:Int} {s:Step} (h:c6 p t s=true) (v:1<=s.kind/\s.kind<=7):mz p t s:=by
 unfold c6 at h;split at h
 ·rename_i k;simp only[fR,zF,zN]at h;refine⟨by simpa[k]using h.1.1,fun j a d=>⟨fun _=>by simpa[k]using h.1.2 a (zL d),.inl (h.2 a (zL d))⟩⟩
 ·split at h
  ·rename_i k;unfold mC at h;split at h
   ·simp at h
   ·rename_i a r i;simp only[zF,zN]at h;obtain⟨⟨⟨⟨⟨⟨f,g⟩,l⟩,n⟩,m⟩,u⟩,o⟩:=h;refine⟨by simpa[k]using f,fun j b c=> ?_⟩;rw[i]at c
    cases j with
    | zero=>simp at c;subst c;exact⟨fun q=>by simp[k]at q,.inl g⟩
    | succ j=>
      simp only[li]at c;have:=o b (zL c);exact⟨fun _=>by simpa[k]using this.2,.inl this.1.1⟩
  ·split at h
   ·rename_i k;unfold mA at h;split at h
    ·simp at h
    ·rename_i a r i;simp only[fR,zF,zN]at h;obtain⟨⟨⟨⟨f,g⟩,l⟩,n⟩,m⟩:=h;refine⟨by simpa[k]using f,fun j b c=>⟨fun _=>by simpa[k]using g b (zL c),?_⟩⟩;rw[i]at c
     cases j with
     | zero=>simp at c;subst c;exact .inr l
     | succ j=>
       simp only[li]at c;have:=(m b (zL c)).2;simp only[eW,eZ]at this;exact this.symm
   ·split at h
    ·rename_i k;simp only[fR,zF,zN]at h;refine⟨by simpa[k]using h.1.1,fun j a d=>⟨fun _=>by simpa[k]using h.1.2 a (zL d),?_⟩⟩;have:=h.2 a (zL d);simp only[eW,eZ]at this;exact this.symm
    ·have e:s.guard.one=true/\s.set=[]:=by
      split at h
      ·simpa using h
      ·split at h
       ·simp only[f_,zF,aR]at h;exact h.1.1.1
       ·simp only[f_,zF,aR]at h;exact h.1.1
     refine⟨kaN e.1 _ _,fun j a d=>by rw[e.2]at d;simp at d⟩
theorem xL {p:Prog} {t:Int} {s:Step} (h:mz p t s) (d:s.kind≠2):fR p s (decide (s.kind=4)) t=true:=by
 simp only[fR,zF,zN];refine⟨h.1,fun a b=> ?_⟩;obtain⟨j,c,rfl⟩:=sT.1 b;exact(h.2 j _ (zI c)).1 (.inr d)
theorem PR {p:Prog} {t:Int} {s:Step} (h:mz p t s) {a:Assign} (b:a∈s.set):eW p t a.cell=true:=by
 obtain⟨j,c,rfl⟩:=sT.1 b;have:=(h.2 j _ (zI c)).2;simp only[eW,eZ];exact this.symm
theorem UY {p:Prog} {t:Int} {s:Step} (h:mz p t s) (b:s.kind=1):c6 p t s=s.set.all fun a=>br p t a.cell:=by
 have:=xL h aa;rw[c6,ah b];simp only[b]at this;rw[show(decide ((1:Int)=4))=false from rfl]at this;rw[this,ep]
theorem UZ {p:Prog} {t:Int} {s:Step} (h:mz p t s) (d:s.kind=2) {a:Assign} {r:List Assign} (e:s.set=a::r):
 c6 p t s=(br p t a.cell&& !cJ p a.cell Cell.ghost&&decide (a.to.op=2)&&br p (-1) a.to.n&& !cJ p a.to.n Cell.ghost&&r.all fun b=>br p t b.cell&&cJ p b.cell Cell.ghost):=by
 have c:=h.1;simp only[d]at c;rw[show(decide ((2:Int)=4))=false from rfl]at c;rw[c6,ac aa,ah d,mC,e];simp only[c,ep]
 congr 1
 refine ur fun b f=> ?_
 obtain⟨j,g,rfl⟩:=sT.1 f;have:=(h.2 (j+1) r[j] (by rw[e];simp[g])).1 (.inl aa);simp only[d]at this;rw[show(decide ((2:Int)=4))=false from rfl]at this;rw[this,gj]
theorem U0 {p:Prog} {t:Int} {s:Step} (h:mz p t s) (e:s.kind=3) {a:Assign} {r:List Assign} (f:s.set=a::r):
 c6 p t s=(br p (-1) a.cell&& !cJ p a.cell Cell.ghost&&r.all fun b=>cJ p b.cell Cell.ghost):=by
 have c:=xL h aa;simp only[e]at c;rw[show(decide ((3:Int)=4))=false from rfl]at c;have g: ∀b∈r,eW p t b.cell=true:=fun b d=>PR h (by rw[f];simp[d])
 rw[c6,ac aa,ac aa,ah e,mA,f];simp only[c,ep]
 congr 1
 refine ur fun b d=> ?_
 rw[g b d,gj]
theorem U1 {p:Prog} {t:Int} {s:Step} (h:mz p t s) (c:s.kind=4):c6 p t s=true:=by
 have b:=xL h aa;simp only[c,lx]at b;rw[c6,ac aa,ac aa,ac aa,ah c,b,ep,zN];exact fun a d=>PR h d
theorem SX {p:Prog} {t:Int} {s:Step} (a:s.kind=2\/s.kind=3) (b:s.set=[]):c6 p t s=false:=by
 rcases a with a | a
 ·rw[c6,ac aa,ah a,mC,b]
 ·rw[c6,ac aa,ac aa,ah a,mA,b]
def sp (p:Prog) (s:Step):Prop:=s.guard.valid p.cells false=true/\ ∀a∈s.set,inR a.cell p.cells.length=true/\a.to.valid p.cells false=true
theorem Jl {p:Prog} {e:Expr} (h:e.valid p.cells false=true) (c:e.op=2):inR e.n p.cells.length=true:=by
 have b:e.formed=true:=by unfold Expr.valid at h;simp only[zF]at h;exact h.1
 have d:=pJ (kF (nv b));unfold Expr.valid at h;simp only[zF]at h;have:=Expr.allE_self h.2;unfold dB at this;simp only[c]at this;rcases a:p.cells[e.n.toNat]? with _ | y
 ·simp[a]at this
 ·have:=(zH.1 a).1;simp only[inR,aR];omega
theorem ZA (p:Prog) (Ez: ∀c∈p.cells,-1<=c.thread) (t:Int) (ht:0<=t) (s:Step) (Ac:s.set.length<2^48) (E:sp p s) (hk:1<=s.kind/\s.kind<=7):
 Den Γ G 137 [(zP p),vi t,(zS s)]=some (vb (c6 p t s)):=by
 refine aD (q:=?_)
 have hg:=um Ez (pH E.1) (decide (s.kind=4)) t aa (.inr ht)
 have Be: ¬mz p t s->false=c6 p t s:=fun n=>by
  cases h:c6 p t s
  ·rfl
  ·exact absurd (Y7 h hk) n
 refine ar hg ?_;refine gH ?_ ?_<;>intro h
 ·exact Be (fun n=>by rw[n.1]at h;simp at h)
 ·have FD:cY p s.guard (decide (s.kind=4)) t=true:=bC
  refine ba 1180591620717142869568 s.set.length (fun i f=>(f 9).v=vi i/\ ∀(j:Nat) (a:Assign),j<i->s.set[j]? =some a->((0<j\/s.kind≠2)->cY p a.to (decide (s.kind=4)) t=true)/\(br p t a.cell=true\/br p (-1) a.cell=true)) rfl rfl ⟨am,fun j a X=>aa⟩ ?_;rintro i f u kk bb hi ⟨h9,CA⟩;have hw:=aC i aa;refine ar h9 ?_;refine aQ h9 ?_ ?_<;>intro h
  ·obtain⟨a,A,C⟩:=aw ‹i<s.set.length›;obtain⟨J,Bu⟩:=E.2 a C;have Y:=um Ez (pH Bu) (decide (s.kind=4)) t aa (.inr ht);obtain⟨e,x,d⟩:=fV J;have K:=tJ p a.cell t x e d;have M:=wu p a.cell x e d;have w:=mh (t:=t) e d;have H:=mh (t:= -1) e d
   repeat'(refine kR h9 A Y K M ?_ ?_<;>intro h)
   all_goals first
    | (refine Be (fun n=> ?_)
       have h1:=n.2 i a A;rw[w,H]at h1;have h2:=h1.1;have h3:=h1.2
       simp_all
       done)
    | (refine⟨aa,al hw,fun j b X o=> ?_⟩
       by_cases DP:j=i
       ·subst DP;rw[A]at o;cases o;rw[w,H]
        simp_all
        done
       ·exact CA j b aa o)
    | skip
  ·have Ks:i=s.set.length:=aa
   have W:mz p t s:=⟨FD,fun j a A=>CA j a (by rw[Ks];exact(zH.1 A).1) A⟩
   clear CA hg Be FD;have Dn:s.kind=1\/s.kind=2\/s.kind=3\/s.kind=4\/s.kind=5\/s.kind=6\/s.kind=7:=aa
   rcases Dn with k | k | k | k | k | k | k
   ·have m:=UY W k;refine ar k ?_;refine ba 618951130176758658868709440 s.set.length (fun j D=>(D 11).v=vi j/\c6 p t s=(s.set.drop j).all fun a=>br p t a.cell) rfl rfl ⟨am,m⟩ ?_;rintro j D u' Q O X ⟨S,v⟩;have L:=aC j aa;refine ar S ?_;refine aQ S ?_ ?_<;>intro h
    ·obtain⟨a,A,C⟩:=aw ‹j<s.set.length›;obtain⟨e,x,d⟩:=fV (E.2 a C).1;have K:=tJ p a.cell t x e d;have w:=mh (t:=t) e d;refine aY S A K ?_;refine aQ S ?_ ?_<;>intro h
     ·rw[v,d8 A (by rw[w];simpa using h)]
     ·refine⟨aa,al L,?_⟩;rw[v,d9 A (by rw[w];simpa using h)]
    ·have:j=s.set.length:=aa
     subst this;rw[v,ed]
   ·rcases l:s.set with _ | ⟨a,r⟩
    ·rw[SX (.inl k) l];exact a_ k l
    ·have m:=UZ W k l;have q:s.set.length=r.length+1:=by rw[l];rfl
     have n:s.set[0]? =some a:=by rw[l];rfl
     have C:a∈s.set:=by rw[l];simp
     obtain⟨e,x,d⟩:=fV (E.2 a C).1;have K:=tJ p a.cell t x e d;have w:=mh (t:=t) e d;have H:=ff (g:=Cell.ghost) d;have Az: ¬(((r.length+1:Nat):Int)=0):=aa
     refine bG k q Az n K ?_;refine kR k q n e d ?_ ?_<;>intro h
     ·rw[m,w];simp[h]
     ·have e1:x.thread=t:=bC
      refine kR k q n e d ?_ ?_<;>intro h
      ·rw[m,H];simp[h]
      ·have e2:x.ghost=false:=bC
       refine kR k q n e d ?_ ?_<;>intro h
       ·rw[m];simp[h]
       ·have e3:a.to.op=2:=bC
        obtain⟨V,y,F⟩:=fV (Jl (E.2 a C).2 e3);have M:=wu p a.to.n y V F;have q1:=mh (t:= -1) V F;have q2:=ff (g:=Cell.ghost) F;refine ar M ?_;refine dz V F ?_ ?_<;>intro h
        ·rw[m,q1];simp[h]
        ·have e4:y.thread= -1:=bC
         refine dz V F ?_ ?_<;>intro h
         ·rw[m,q2];simp[h]
         ·rw[w,H,q1,q2]at m;simp only[e1,e2,e3,e4,h,lx,ld,gj,ep]at m;refine ba 748288836919625719212122688004754514023314867888192 r.length (fun j D=>(D 13).v=vi ((j+1:Nat):Int)/\c6 p t s=(r.drop j).all fun b=>br p t b.cell&&cJ p b.cell Cell.ghost) rfl rfl ⟨am,m⟩ ?_;rintro j D u' Q O X ⟨B,v⟩;have L:=aC (j+1) aa;refine aG B q ?_;refine dz B q ?_ ?_<;>intro h
          ·obtain⟨b,o,LN⟩:=aw (show j<r.length from aa);have Bf:s.set[j+1]? =some b:=by rw[l];exact o
           obtain⟨P,z,I⟩:=fV (E.2 b (by rw[l];simp[LN])).1;have KR:=tJ p b.cell t z P I;have z1:=mh (t:=t) P I;have R:=ff (g:=Cell.ghost) I;refine aY B o KR ?_
           repeat'(refine mI B o P I ?_ ?_<;>intro h)
           all_goals first
            | (rw[v,d8 o (by rw[z1,R];simp[*])];done)
            | (refine⟨aa,al L,?_⟩
               rw[v,d9 o (by rw[z1,R];simp[*])])
          ·have:j=r.length:=aa
           subst this;rw[v,ed]
   ·rcases l:s.set with _ | ⟨a,r⟩
    ·rw[SX (.inr k) l];exact a_ k l
    ·have m:=U0 W k l;have q:s.set.length=r.length+1:=by rw[l];rfl
     have n:s.set[0]? =some a:=by rw[l];rfl
     have C:a∈s.set:=by rw[l];simp
     obtain⟨e,x,d⟩:=fV (E.2 a C).1;have M:=wu p a.cell x e d;have w:=mh (t:= -1) e d;have H:=ff (g:=Cell.ghost) d;have Az: ¬(((r.length+1:Nat):Int)=0):=aa
     refine bG k q Az n M ?_;refine kR k q n e d ?_ ?_<;>intro h
     ·rw[m,w];simp[h]
     ·have e1:x.thread= -1:=bC
      refine kR k q n e d ?_ ?_<;>intro h
      ·rw[m,H];simp[h]
      ·rw[w,H]at m;simp only[e1,h,lx,ld,gj,ep]at m;refine ba 6581968012470941075173766043914016358599614643690763741118349376 r.length (fun j D=>(D 14).v=vi ((j+1:Nat):Int)/\c6 p t s=(r.drop j).all fun b=>cJ p b.cell Cell.ghost) rfl rfl ⟨am,m⟩ ?_;rintro j D u' Q O X ⟨B,v⟩;have L:=aC (j+1) aa;refine aG B q ?_;refine dz B q ?_ ?_<;>intro h
       ·obtain⟨b,o,LN⟩:=aw (show j<r.length from aa);have Bf:s.set[j+1]? =some b:=by rw[l];exact o
        obtain⟨P,z,I⟩:=fV (E.2 b (by rw[l];simp[LN])).1;have R:=ff (g:=Cell.ghost) I;refine bw B o P I ?_;refine aQ B ?_ ?_<;>intro h
        ·rw[v,d8 o (by rw[R];simp[h])]
        ·refine⟨aa,al L,?_⟩;rw[v,d9 o (by rw[R];simp[h])]
       ·have:j=r.length:=aa
        subst this;rw[v,ed]
   ·rw[U1 W k];exact al k
   all_goals(
    have Y:=kaQ;have Z:=Wh s.guard;have J:=iH s.target p.threads.length
    have U:c6 p t s=(if s.kind=5 then s.guard.one&&decide (s.set=[])else if s.kind=6 then f_ p t s&&pG p s.target else f_ p t s):=by
     rw[c6,ac aa,ac aa,ac aa,ac aa]
    simp only[k]at U;rw[show decide (s.guard.op=1/\s.guard.w=1/\s.guard.n=1/\s.guard.kids=[])=s.guard.one from rfl]at Z
    by_cases hn:s.set=[]
    ·have T:s.set.length=0:=by rw[hn];rfl
     by_cases N:inR s.target p.threads.length=true
     ·have Lx:=N;simp only[inR,aR]at Lx;obtain⟨t0,t1⟩:=Lx;obtain⟨y,F⟩: ∃y,p.threads[s.target.toNat]? =some y:=⟨_,zI aa⟩
      have Eo:pG p s.target=y.asleep:=by simp[pG,F]
      rw[N]at J;refine bw k T Y Z ?_
      repeat'(refine mI k J t0 F ?_ ?_<;>intro h)
      all_goals(
       rw[U]
       simp[f_, *])
     ·have N:inR s.target p.threads.length=false:=ak N
      rw[N]at J;refine bw k T Y Z ?_
      repeat'(refine dz k J ?_ ?_<;>intro h)
      all_goals(
       rw[U]
       simp[f_, *])
    ·have T:(s.set.length:Int)>0:=by have:=wg.2 hn;omega
     refine aG k T ?_;rw[U]
     simp[f_,hn])
end Rg
end
section
-- FULL
namespace Rg
open Go
theorem tz {p:Prog} {set:List Assign}: ∀{l:List Assign} {i:Nat},(a7 (cW p set) i l).1=0-> ∀a∈l,inR a.cell p.cells.length=true/\a.to.valid p.cells false=true
 | [],_,_,a,c=>by simp at c
 | x::r,i,h,a,c=>by
   rw[a7]at h;split at h
   ·rename_i b;rcases cq.1 c with rfl | c
    ·unfold cW at b;split at b
     ·simp at b
     ·rename_i d;split at b
      ·simp at b
      ·rename_i e;simp only[eZ,mf,eD,rC]at d e;exact⟨d.1,e.1⟩
    ·exact tz h a c
   ·rename_i b;exact absurd h b
set_option maxHeartbeats 4000000 in
theorem Yn (p:Prog) (Ez: ∀c∈p.cells,-1<=c.thread) (t:Int) (J:0<=t) (x:Thread) (S:p.threads[t.toNat]? =some x) (K7: -2^48<x.points/\x.points<2^48) (s:Step) (Ac:s.set.length<2^48):
 Den Γ G 114 [(zP p),vi t,(zS s)]=some (vi (cC p t x.points s)):=by
 (refine nN Γ114 rfl ?_;dsimp only[f114])
 have X:IntKind.i64.wrap (x.points-1)=x.points-1:=bq aa;have m:=iH s.fr (x.points-1);have H:=iH s.to x.points;have F:=iH s.module p.modules.length;have R:=ua s.guard p.cells false;simp -dsimp [go_sem,J,S]
 by_cases C:kH p x.points s=true
 ·rw[cC,ah C]
  repeat'(refine bp (fun h=> ?_) (fun h=> ?_)<;>(try rw[h])<;>(try simp only[bh]at h)<;>(try simp -dsimp [go_sem,J,S,X,m,H,F]))
  all_goals(exfalso;simp only[kH,eZ,zF,eD,aR]at C;simp_all;try omega)
 ·have K:cC p t x.points s=if !s.guard.valid p.cells false||decide (s.guard.w≠1)then 60 else if ¬(a7 (cW p s.set) 0 s.set).1=0 then(a7 (cW p s.set) 0 s.set).1 else if c6 p t s then 0 else 70:=by rw[cC,ac C]
  have W:kH p x.points s=false:=by simpa using C
  simp only[kH,jm,lj,nf,ek]at W;obtain⟨⟨⟨⟨⟨⟨b1,b2⟩,b3⟩,b4⟩,b5⟩,b6⟩,b7⟩:=W;rw[b3]at m;rw[b4]at H;rw[b5]at F
  have V: ∀Q:Prop,(∀(z o A r w:Bool),decide (s.kind=6)=o->decide (s.kind=7)=A->decide (s.kind=3)=z->s.release=r->decide (s.target=0)=w->
   ((o=true/\r=false)\/(o=false/\A=true/\r=false)\/(o=false/\A=false/\w=true/\r=false)\/(o=false/\A=false/\w=true/\r=true/\z=true))->Q)->Q:=fun Q q=>by
   refine q _ _ _ _ _ rfl rfl rfl rfl rfl ?_;simp only[aR,ek]
   by_cases h6:s.kind=6<;>by_cases h7:s.kind=7<;>by_cases h3:s.kind=3<;>cases hr:s.release<;>by_cases hz:s.target=0<;>simp_all
  refine V _ (fun z o A r w e6 e7 N er ez hc=> ?_);have n:s.guard.valid p.cells false=true->s.guard.w=1->cC p t x.points s=if ¬(a7 (cW p s.set) 0 s.set).1=0 then(a7 (cW p s.set) 0 s.set).1 else if c6 p t s then 0 else 70:=fun g1 g2=>by rw[K,ac (by simp[g1,g2])]
  have L:(s.guard.valid p.cells false=false\/ ¬s.guard.w=1)->cC p t x.points s=60:=fun g=>by rw[K,ah (by rcases g with g | g<;>simp[g])]
  have M:1<=s.kind/\s.kind<=7:=aa
  have j:(decide ¬s.kind=3)= !z:=by rw[<- N];simp
  have l:(decide ¬s.target=0)= !w:=by rw[<- ez];simp
  rcases hc with⟨rfl,rfl⟩ | ⟨rfl,rfl,rfl⟩ | ⟨rfl,rfl,rfl,rfl⟩ | ⟨rfl,rfl,rfl,rfl,rfl⟩
  all_goals(try cases w)
  all_goals(try cases z)
  all_goals(try(exfalso;simp only[aR]at N e6 e7;omega))
  all_goals(
   (try simp only[jn,ld]at j l)
   simp -dsimp [go_sem,J,S,X,m,H,F,b1,b2,e6,e7,j,l,er,R]
   repeat'(refine bp (fun h=> ?_) (fun h=> ?_)<;>(try rw[h])<;>(try simp only[bh]at h)<;>(try simp -dsimp [go_sem,R])))
  all_goals(try(rw[L (.inl ‹_›)];done))
  all_goals(try(rw[L (.inr ‹_›)];done))
  all_goals(
   have n:=n ‹_› ‹_›;have M1:s.guard.valid p.cells false=true:=bC
   clear V L K R m H F j l er N;refine ba 89202980794122492256657863269248377299144256 s.set.length (fun i f=>(f 9).v=vi i/\a7 (cW p s.set) 0 s.set=a7 (cW p s.set) i (s.set.drop i)) rfl rfl ⟨by simp -dsimp [go_sem],rfl⟩ ?_;rintro i f u kk bb hi ⟨e,B⟩;have hw:=aC i aa;simp -dsimp [go_sem,e];refine bp (fun h=> ?_) (fun h=> ?_)<;>(try rw[h])<;>(try simp only[bh]at h)<;>(try simp -dsimp [go_sem,e])
   ·obtain⟨a,v,Cp⟩:=aw ‹i<s.set.length›;have m:=iH a.cell p.cells.length
    have D: ∀k:Int,k≠0->cW p s.set i a=k->cC p t x.points s=k:=fun k P h0=>by
     have h2:=B.trans (gV v (by rw[h0];exact P));rw[n,h2,h0,ah P]
    simp -dsimp [go_sem,e,v,m];refine bp (fun h=> ?_) (fun h=> ?_)<;>(try rw[h])<;>(try simp only[bh]at h)<;>(try simp -dsimp [go_sem,e])
    ·rw[D 70 aI (by simp[cW,h])]
    ·have Y:inR a.cell p.cells.length=true:=bC
     obtain⟨Z,y,T⟩:=fV Y;refine ba 1329065736508086659540415482270058560 i (fun k f'=>(f' 11).v=vi k/\(s.set.take k).any (fun b=>decide (b.cell=a.cell))=false) rfl rfl ⟨by simp -dsimp [go_sem],af⟩ ?_;rintro k f' u' kk' bb' P ⟨E,U⟩;have Aw:=aC k aa;simp -dsimp [go_sem,e,E];refine bp (fun h=> ?_) (fun h=> ?_)<;>(try rw[h])<;>(try simp only[bh]at h)<;>(try simp -dsimp [go_sem,e,E])
     ·obtain⟨d,O,JP⟩:=aw (show k<s.set.length from aa);simp -dsimp [go_sem,e,E,O];refine bp (fun h=> ?_) (fun h=> ?_)<;>(try rw[h])<;>(try simp only[bh]at h)<;>(try simp -dsimp [go_sem,e,E])
      ·rw[D 70 aI (by rw[cW,ah (by rw[p9 O ‹k<i› (by simpa using h)];simp)])]
      ·refine⟨aa,by simp -dsimp [go_sem,Aw],?_⟩;rw[rh O,U];simpa using h
     ·have:k=i:=aa
      subst this;have DT:=ua a.to p.cells false;have Id:=ff (g:=fun x=>decide (a.to.w=x.w)) T
      have I:cW p s.set k a=if !a.to.valid p.cells false || !cJ p a.cell (fun x=>decide (a.to.w=x.w))then 60 else 0:=by
       rw[cW,ac (by rw[Y,U];simp)]
      rw[Id]at I;simp -dsimp [go_sem,e,v,DT];refine bp (fun h=> ?_) (fun h=> ?_)<;>(try rw[h])<;>(try simp only[bh]at h)<;>(try simp -dsimp [go_sem,e,v,Z,T])
      ·rw[D 60 aI (by rw[I];simp[h])]
      ·have Ke:a.to.valid p.cells false=true:=bC
       refine bp (fun h=> ?_) (fun h=> ?_)<;>(try rw[h])<;>(try simp only[bh]at h)<;>(try simp -dsimp [go_sem,e,v,Z,T])
       ·rw[D 60 aI (by rw[I];simp[h])]
       ·refine⟨aa,by simp -dsimp [go_sem,hw],?_⟩;rw[B,iE v (by rw[I];simp[h,Ke])]
   ·have:i=s.set.length:=aa
    subst this;rw[iJ]at B;rw[B,ac af]at n;have EL:=ZA p Ez t J s Ac ⟨M1,tz (i:=0) (set:=s.set) (by rw[B])⟩ M;simp -dsimp [go_sem,EL];refine bp (fun h=> ?_) (fun h=> ?_)<;>(try rw[h])<;>(try simp only[bh]at h)<;>(try simp -dsimp [go_sem])
    ·rw[n];simp[h]
    ·rw[n];simp[h])
end Rg
end
section
-- FULL
namespace Rg
open Go
set_option maxHeartbeats 4000000 in
theorem WZ (p:Prog) (C:p.sane) (By:dT p=0) (t:Nat) (x:Thread) (E:p.threads[t]? =some x) (K7:x.points<2^48):
 Den Γ G 88 [(zP p),vi t]=some (.tup [vi (bI p t x).1,vi (bI p t x).2]):=by
 (refine nN Γ88 rfl ?_;dsimp only[f88])
 have N:=w_ By;have L:=zL E;obtain⟨s1,s2,s3,s4,s5⟩:=C.thr x L;have hl:=uv x.name s1;have W:(0:Int)<=(t:Int):=aa
 have Dd:t<p.threads.length:=(zH.1 E).1;have BL:=C.threads;have Dc:p.threads[(t:Int).toNat]? =some x:=by simpa using E
 simp -dsimp [go_sem,W,E,hl];refine bp (fun h=> ?_) (fun h=> ?_)<;>(try rw[h])<;>(try simp only[bh]at h)<;>(try simp -dsimp [go_sem])
 ·have:bI p t x=(1,-1):=by rw[bI,ah (by simp[h])]
  rw[this];simp
 ·have P:ec x.name=true:=bC
  refine ba 274861129904 t (fun k f=>(f 7).v=vi k/\(p.threads.take k).any (fun d=>d.name.toList==x.name.toList)=false) rfl rfl ⟨by simp -dsimp [go_sem],af⟩ ?_;rintro k f u H bb hk ⟨A,J⟩;have c:=aC k aa;simp -dsimp [go_sem,A];refine bp (fun h=> ?_) (fun h=> ?_)<;>(try rw[h])<;>(try simp only[bh]at h)<;>(try simp -dsimp [go_sem,A])
  ·obtain⟨d,T,JP⟩:=aw (show k<p.threads.length from aa);simp -dsimp [go_sem,A,T];refine bp (fun h=> ?_) (fun h=> ?_)<;>(try rw[h])<;>(try simp only[bh]at h)<;>(try simp -dsimp [go_sem,A])
   ·have:bI p t x=(41,-1):=by rw[bI,ac (by simp[P]),ah (p9 T ‹k<t› (by simpa using h))]
    rw[this];simp
   ·refine⟨aa,by simp -dsimp [go_sem,c],?_⟩;rw[rh T,J];simpa using h
  ·have:k=t:=aa
   subst this
   by_cases V:x.points<1\/ ¬(x.asserts.length:Int)=x.points\/ ¬(x.modules.length:Int)=x.points
   ·have:bI p k x=(1,-1):=by rw[bI,ac (by simp[P]),ac (by simp[J]),ah V]
    rw[this]
    repeat'(refine bp (fun h=> ?_) (fun h=> ?_)<;>(try rw[h])<;>(try simp only[bh]at h)<;>(try simp -dsimp [go_sem]))
    all_goals(exfalso;omega)
   ·have g1: ¬x.points<1:=aa
    have g2:(x.asserts.length:Int)=x.points:=aa
    have g3:(x.modules.length:Int)=x.points:=aa
    have g:bI p k x=if !x.modules.all (fun m=>inR m p.modules.length)then(1,-1)
     else if !x.asserts.all (fun e=>cB p e false k)then(60,-1)
     else if ¬(a7 (fun _ s=>cC p k x.points s) 0 x.steps).1=0 then a7 (fun _ s=>cC p k x.points s) 0 x.steps
     else((a7 (fun _ l=>dE p k x.points l) 0 x.loops).1,-1):=by
     rw[bI,ac (by simp[P]),ac (by simp[J]),ac V]
    have Q:decide (¬(x.asserts.length:Int)=x.points)=false:=by simp[g2]
    have R:decide (¬(x.modules.length:Int)=x.points)=false:=by simp[g3]
    simp -dsimp [go_sem,g1,Q,R];refine ba 18889321816290504999216 x.modules.length (fun i f=>(f 8).v=vi i/\x.modules.all (fun m=>inR m p.modules.length)=(x.modules.drop i).all (fun m=>inR m p.modules.length)) rfl rfl ⟨by simp -dsimp [go_sem],rfl⟩ ?_;rintro i f u H bb hi ⟨w,a⟩;have c:=aC i aa;simp -dsimp [go_sem,w];refine bp (fun h=> ?_) (fun h=> ?_)<;>(try rw[h])<;>(try simp only[bh]at h)<;>(try simp -dsimp [go_sem,w])
    ·obtain⟨m,b,_⟩:=aw ‹i<x.modules.length›;have K:=iH m p.modules.length;simp -dsimp [go_sem,w,b,K];refine bp (fun h=> ?_) (fun h=> ?_)<;>(try rw[h])<;>(try simp only[bh]at h)<;>(try simp -dsimp [go_sem,w])
     ·have:bI p k x=(1,-1):=by rw[g,a,d8 b h];simp
      rw[this];simp
     ·refine⟨aa,by simp -dsimp [go_sem,c],?_⟩;rw[a,d9 b h]
    ·have:i=x.modules.length:=aa
     subst this;rw[ed]at a;rw[a]at g;simp only[jn,zG,aX]at g;clear a w c;refine ba 1237921149819448796318270000 x.asserts.length (fun i f=>(f 9).v=vi i/\x.asserts.all (fun e=>cB p e false k)=(x.asserts.drop i).all (fun e=>cB p e false k)) rfl rfl ⟨by simp -dsimp [go_sem],rfl⟩ ?_;rintro i f u H bb hi ⟨y,a⟩;have c:=aC i aa;simp -dsimp [go_sem,y];refine bp (fun h=> ?_) (fun h=> ?_)<;>(try rw[h])<;>(try simp only[bh]at h)<;>(try simp -dsimp [go_sem,y])
     ·obtain⟨e,U,_⟩:=aw ‹i<x.asserts.length›;have FS:=ub N e false k aa;simp -dsimp [go_sem,y,U,FS];refine bp (fun h=> ?_) (fun h=> ?_)<;>(try rw[h])<;>(try simp only[bh]at h)<;>(try simp -dsimp [go_sem,y])
      ·have:bI p k x=(60,-1):=by rw[g,a,d8 U h];simp
       rw[this];simp
      ·refine⟨aa,by simp -dsimp [go_sem,c],?_⟩;rw[a,d9 U h]
     ·have:i=x.asserts.length:=aa
      subst this;rw[ed]at a;rw[a]at g;simp only[jn,zG,aX]at g;clear a y c;refine ba 649035869376814168186037142031408 x.steps.length (fun i f=>(f 10).v=vi i/\a7 (fun _ s=>cC p k x.points s) 0 x.steps=a7 (fun _ s=>cC p k x.points s) i (x.steps.drop i)) rfl rfl ⟨by simp -dsimp [go_sem],rfl⟩ ?_;rintro i f u H bb hi ⟨v,b⟩;have c:=aC i aa;simp -dsimp [go_sem,v];refine bp (fun h=> ?_) (fun h=> ?_)<;>(try rw[h])<;>(try simp only[bh]at h)<;>(try simp -dsimp [go_sem,v])
      ·obtain⟨s,M,F3⟩:=aw ‹i<x.steps.length›;have Z:=Yn p N k W x Dc ⟨aa,K7⟩ s (C.sets x L s F3);simp -dsimp [go_sem,v,M,Z];refine bp (fun h=> ?_) (fun h=> ?_)<;>(try rw[h])<;>(try simp only[bh]at h)<;>(try simp -dsimp [go_sem,v])
       ·have S:=b.trans (gV M (by simpa using h));have:bI p k x=(cC p k x.points s,(i:Int)):=by rw[g,S,ah (by simpa using h)]
        rw[this];simp
       ·refine⟨aa,by simp -dsimp [go_sem,c],?_⟩;rw[b,iE M (by simpa using h)]
      ·have:i=x.steps.length:=aa
       subst this;rw[iJ]at b;rw[b,ac af]at g;clear b v c;refine ba 11972621413014756705275549042294937043455087350935600 x.loops.length (fun i f=>(f 12).v=vi i/\a7 (fun _ l=>dE p k x.points l) 0 x.loops=a7 (fun _ l=>dE p k x.points l) i (x.loops.drop i)) rfl rfl ⟨by simp -dsimp [go_sem],rfl⟩ ?_;rintro i f u H bb hi ⟨n,b⟩;have c:=aC i aa;simp -dsimp [go_sem,n];refine bp (fun h=> ?_) (fun h=> ?_)<;>(try rw[h])<;>(try simp only[bh]at h)<;>(try simp -dsimp [go_sem,n])
       ·obtain⟨l,O,Hy⟩:=aw ‹i<x.loops.length›;have D4:=C.loops x L l Hy
        have o: ∀F:Int,F≠0->dE p k x.points l=F->bI p k x=(F,-1):=fun F Ah Y=>by
         have S:=b.trans (gV (f:=fun _ l=>dE p k x.points l) O (by rw[Y];exact Ah));rw[g,S,Y]
        have K:=iH l.head x.points;have Et:=K0 l.body aa;simp -dsimp [go_sem,n,O,K];refine bp (fun h=> ?_) (fun h=> ?_)<;>(try rw[h])<;>(try simp only[bh]at h)<;>(try simp -dsimp [go_sem,n,Et])
        ·rw[o 1 aI (by simp[dE,h])];simp
        ·have f1:inR l.head x.points=true:=bC
         refine bp (fun h=> ?_) (fun h=> ?_)<;>(try rw[h])<;>(try simp only[bh]at h)<;>(try simp -dsimp [go_sem,n])
         ·rw[o 1 aI (by simp[dE,h])];simp
         ·have f2:fS l.body=true:=bC
          refine ba 730750807776415717631811585530154072011383521328 l.body.length (fun j X=>(X 14).v=vi j/\l.body.all (fun q=>inR q x.points&&decide (q≠l.head))=(l.body.drop j).all (fun q=>inR q x.points&&decide (q≠l.head))) rfl rfl ⟨by simp -dsimp [go_sem],rfl⟩ ?_;rintro j X u' kk' bb' hj ⟨z,a⟩;have Aw:=aC j aa;simp -dsimp [go_sem,z];refine bp (fun h=> ?_) (fun h=> ?_)<;>(try rw[h])<;>(try simp only[bh]at h)<;>(try simp -dsimp [go_sem,z])
          ·obtain⟨q,B,_⟩:=aw ‹j<l.body.length›;have NN:=iH q x.points;simp -dsimp [go_sem,z,B,NN]
           repeat'(refine bp (fun h=> ?_) (fun h=> ?_)<;>(try rw[h])<;>(try simp only[bh]at h)<;>(try simp -dsimp [go_sem,z,B]))
           all_goals first
            | (rw[o 1 aI (by rw[dE,ah (by rw[a,d8 B (by simp_all)];simp)])];simp;done)
            | (refine⟨aa,by simp -dsimp [go_sem,Aw],?_⟩
               rw[a,d9 B (by simp_all)])
          ·have:j=l.body.length:=aa
           subst this;rw[ed]at a
           have I:dE p k x.points l=if !l.variant.valid p.cells false || !cY p l.variant true k then 60 else 0:=by
            rw[dE,ac (by rw[a,f1,f2];simp)]
           have D:=ua l.variant p.cells false;cases r:l.variant.valid p.cells false
           ·rw[r]at D;simp -dsimp [go_sem,n,D];rw[o 60 aI (by rw[I];simp[r])];simp
           ·rw[r]at D;have De:=um N (pH r) true k aa (.inl rfl);simp -dsimp [go_sem,n,D,De];refine bp (fun h=> ?_) (fun h=> ?_)<;>(try rw[h])<;>(try simp only[bh]at h)<;>(try simp -dsimp [go_sem,n])
            ·rw[o 60 aI (by rw[I];simp[h])];simp
            ·refine⟨aa,by simp -dsimp [go_sem,c],?_⟩;rw[b,iE O (by rw[I];simp[h,r])]
       ·have:i=x.loops.length:=aa
        subst this;rw[iJ]at b;rw[g,b];simp
end Rg
end
section
-- FULL
namespace Rg
open Go
theorem cO {p:Prog} (h:(cI p).1=0):(p.cells.length<=32/\p.modules.length<=6/\p.locks.length<=4/\p.threads.length<=4)/\ ∀x∈p.threads,x.points<=48/\x.steps.length<=64/\x.loops.length<=8:=by
 unfold cI at h;split at h
 ·simp at h
 ·rename_i b;refine⟨aa,?_⟩
  have d: ∀(l:List Thread) (i:Nat),(a7 (fun _ x=>if eq x then 2 else 0) i l).1=0-> ∀x∈l,eq x=false:=by
   intro l
   induction l with
   | nil=>intro i _ c a;simp at a
   | cons x r f=>
     intro i h c a;rw[a7]at h;cases b:eq x
     ·rw[b,ah af]at h;rcases cq.1 a with rfl | a
      ·exact b
      ·exact f _ h c a
     ·rw[b,ac af]at h;simp at h
  intro x e;have:=d _ 0 h x e;simp only[eq,jm,ek]at this;omega
theorem wG (p:Prog) (b:p.sane):Den Γ G 65 [(zP p)]=some (.tup [vi (dh p).1,vi (dh p).2.1,vi (dh p).2.2]):=by
 refine aD (q:=?_)
 have q:=WR p b;refine jS q ?_;refine vz ?_ ?_<;>intro h
 ·have c: ¬(cI p).1=0:=ak h
  have:dh p=((cI p).1,(cI p).2,-1):=by rw[dh,ah c]
  rw[this];simp
 ·have c:(cI p).1=0:=ak h
  obtain⟨⟨y,z,A,B⟩,v⟩:=cO c
  have a:dh p=if ¬dT p=0 then(dT p,-1,-1)else if ¬fl p=0 then(fl p,-1,-1)else if ¬fD p=0 then(fD p,-1,-1)else eQ p 0 p.threads:=by
   rw[dh,ac (ak c)]
  have m:=Xs p b;refine bK ?_;refine jS m ?_;refine vz ?_ ?_<;>intro h
  ·have:dh p=(dT p,-1,-1):=by rw[a,ah (ak h)]
   rw[this];simp
  ·have d:dT p=0:=ak h
   have n:=WD p b d;have o:=Y5 p b d;rw[ac (ak d)]at a;refine bK ?_;refine jS n ?_;refine vz ?_ ?_<;>intro h
   ·have:dh p=(fl p,-1,-1):=by rw[a,ah (ak h)]
    rw[this];simp
   ·have r:fl p=0:=ak h
    rw[ac (ak r)]at a;refine bK ?_;refine jS o ?_;refine vz ?_ ?_<;>intro h
    ·have:dh p=(fD p,-1,-1):=by rw[a,ah (ak h)]
     rw[this];simp
    ·have s:fD p=0:=ak h
     rw[ac (ak s)]at a;refine bK ?_;refine EP ?_;refine ba 288229276640085788 p.threads.length (fun i f=>(f 8).v=vi i/\dh p=eQ p i (p.threads.drop i)) rfl rfl ⟨mL,a⟩ ?_;rintro i f u w bb hi ⟨e,g⟩;have t:=aC i aa;refine jS e ?_;refine zw e ?_ ?_<;>intro h
     ·obtain⟨x,j,l⟩:=aw ‹i<p.threads.length›;have k:=WZ p b d i x j (by have:=(v x l).1;omega);refine sF e k ?_;refine zw e ?_ ?_<;>intro h
      ·rw[g,N' j (ak h)];simp
      ·refine⟨aa,ES t,?_⟩;rw[g,Oc j (ak h)]
     ·have:i=p.threads.length:=aa
      subst this;rw[g,RM];simp
def eG (l:List ByteArray):List (T×V):=l.map fun b=>(T.str b,V.agg [])
def lZ (l:List Int):List (T×V):=l.map fun b=>(ti b,V.agg [])
theorem yg (a b:ByteArray):(a==b)=(a.toList==b.toList):=by
 rw[ByteArray.toList_eq,ByteArray.toList_eq];show(a.data==b.data)=_;rw[Array.beq_toList]
@[go_sem]theorem zBI (b:ByteArray):lN 2 (.t (.str b))=some (.str b):=rfl
@[go_sem]theorem zBJ (k:IntKind) (n:Int):lN 0 (.t (.int k n))=some (.int k n):=rfl
theorem S5 (b:ByteArray): ∀l:List ByteArray,dD (.str b) (eG l)=some (if l.any (fun c=>c.toList==b.toList)then some (.agg [])else none)
 | []=>rfl
 | c::l=>by
   rw[eG,aT,dD,eT,yg];rw[show(b.toList==c.toList)=(c.toList==b.toList)from Bool.beq_comm];cases h:(c.toList==b.toList)
   ·simp only[];rw[show(l.map fun b=>(T.str b,V.agg []))=eG l from rfl,S5 b l,qm,h,vZ]
   ·simp[h]
theorem RZ (b:ByteArray): ∀l:List ByteArray,l.any (fun c=>c.toList==b.toList)=false->cZ (.str b) (.agg []) (eG l)=some (eG (l++[b]))
 | [],_=>rfl
 | c::l,h=>by
   rw[qm,jm]at h;rw[eG,aT,cZ,eT,yg,show(b.toList==c.toList)=(c.toList==b.toList)from Bool.beq_comm,h.1];simp only[];rw[show(l.map fun b=>(T.str b,V.agg []))=eG l from rfl,RZ b l h.2];rfl
theorem S_ (b:ByteArray): ∀l:List ByteArray,∃es,cZ (.str b) (.agg []) (eG l)=some es
 | []=>⟨_,rfl⟩
 | c::l=>by
   rw[eG,aT,cZ,eT];cases h:(b==c)
   ·simp only[];rw[show(l.map fun b=>(T.str b,V.agg []))=eG l from rfl];obtain⟨es,a⟩:=S_ b l;exact⟨_,by rw[a];rfl⟩
   ·exact⟨_,rfl⟩
theorem yG (b:Int): ∀l:List Int,dD (ti b) (lZ l)=some (if l.any (fun c=>decide (c=b))then some (.agg [])else none)
 | []=>rfl
 | c::l=>by
   rw[lZ,aT,dD,eT,ah rfl]
   by_cases h:c=b
   ·subst h;simp
   ·have e:(b==c)=false:=by simpa using fun h'=>h h'.symm
    rw[e];simp only[];rw[show(l.map fun b=>(ti b,V.agg []))=lZ l from rfl,yG b l,qm];simp[h]
theorem wR (b:Int): ∀l:List Int,l.any (fun c=>decide (c=b))=false->cZ (ti b) (.agg []) (lZ l)=some (lZ (l++[b]))
 | [],_=>rfl
 | c::l,h=>by
   rw[qm,jm]at h;have e:(b==c)=false:=by simpa using fun h'=>(ak h.1: ¬c=b) h'.symm
   rw[lZ,aT,cZ,eT,ah rfl,e];simp only[];rw[show(l.map fun b=>(ti b,V.agg []))=lZ l from rfl,wR b l h.2];rfl
theorem Lf (k:Nat) (b:ByteArray) (l:List ByteArray) (H:ae) (n:Nat) (f:H k=some (.map (eG l))):
 ∃r h' g,DenR Γ G 97 [.mm k,.t (.str b)] H n=some (r,h',g)/\(n<=g/\r=vb (l.any (fun c=>c.toList==b.toList)))/\
  ∃es,h'=updC H k (some (.map es))/\(l.any (fun c=>c.toList==b.toList)=false->es=eG (l++[b])):=by
 refine bM (q:=?_)
 have a:=S5 b l;cases e:l.any (fun c=>c.toList==b.toList)
 ·rw[e]at a;have d:=RZ b l e;simp -dsimp only[go_sem,seval,f,a,d,j_,gp,mc,zG,aU,aX];refine⟨⟨av,am⟩,_,am,fun _=>rfl⟩
 ·rw[e]at a;obtain⟨es,d⟩:=S_ b l;simp -dsimp only[go_sem,seval,f,a,d,j_,gp,mc,zG,aU,aX];refine⟨⟨av,am⟩,es,am,fun h=>by simp at h⟩
theorem MW (k:Nat) (b:ByteArray) (l:List ByteArray) (H:ae) (n:Nat) (f:H k=some (.map (eG l))):
 ∃r h' a,DenR Γ G 97 [.mm k,.t (.str b)] H n=some (r,h',a)/\r=vb (l.any (fun c=>c.toList==b.toList))/\(l.any (fun c=>c.toList==b.toList)=false->h' k=some (.map (eG (l++[b])))):=by
 obtain⟨r,h',a,d,⟨_,g⟩,es,rfl,e⟩:=Lf k b l H n f;exact⟨r,_,a,d,g,fun h=>by rw[e h,aq,ah rfl]⟩
theorem ay.toT1 {h:ae} {x:Nat} {v:V} {l:List Int} (o:ay h x v 1 (ai l)):Rg.toT1 h v=some (.t (ints l)):=by
 have:=jy o (iB _);rcases o with⟨rfl,a⟩ | ⟨k,rfl,_,_⟩
 ·have:l=[]:=by simpa[ai]using a
  subst this;rfl
 ·simp only[Rg.toT1,this,cU]
theorem r8 (e:Expr) (F:T) (P:Int->Bool) (b:IsF F P):Den Γ G 108 [(.agg [.t (ti (e).op),.t (ti (e).w),.t (ti (e).n),.t (.sl ((e).kids.map (Expr.enc)))]),.t F]=some (vb ((e.sup 3).all P&&(e.sup 2).all P)):=by
 refine aD (q:=?_)
 have c:=b.1;simp only[T.norm]at c;have n:=nD 3 e;have m:=nD 2 e;have a:=rl F P b (e.sup 3) aa;have l:=rl F P b (e.sup 2) aa;refine ax ?_;refine bf (xf e _ _) ?_;rintro r h' o ⟨q,p,rfl,i,h,_,_⟩;have k:=i.valOf;have j:=h.valOf;have f:=i.toT1;have d:=h.toT1;simp only[Rg.toT1]at f d;cases g:(e.sup 3).all P
 ·rw[g]at a;refine cw a c k j f d ?_;simp
 ·rw[g]at a;exact U7 a l c k j f d @ep
theorem Qx (p:Prog) (e:Expr) (pair:Bool) (F:T) (P:Int->Bool) (d:IsF F P):Den Γ G 99 [(zP p),(.agg [.t (ti (e).op),.t (ti (e).w),.t (ti (e).n),.t (.sl ((e).kids.map (Expr.enc)))]),vb pair,.t F]=
 some (vb (e.valid p.cells pair&&decide (e.w=1)&&((e.sup 3).all P&&(e.sup 2).all P))):=by
 refine aD (q:=?_)
 have f:=d.1;simp only[T.norm]at f;have a:=t_ e p.cells pair;have c:=r8 e F P d
 by_cases b:e.w=1
 ·cases g:e.valid p.cells pair
  ·rw[g]at a;refine ar b ?_;rw[b]at a;refine ar a ?_;simp
  ·rw[g]at a;rw[b]at a c;exact po b a c f @ep @gj
 ·refine ar b ?_;simp
theorem WS (p:Prog) (o:p.sane):Den Γ G 79 [(zP p)]=some (.tup [vi (cI p).1,vi (cI p).2]):=by
 refine aD (q:=ax ?_)
 by_cases e:(p.cells.length:Int)>32\/(p.modules.length:Int)>6\/(p.locks.length:Int)>4\/(p.threads.length:Int)>4
 ·have a:cI p=(2,-1):=by rw[cI,ah e]
  rw[a]
  repeat'(refine gH ?_ ?_<;>intro h<;>try exact⟨⟩)
  all_goals omega
 ·have a:cI p=a7 (fun _ x=>if eq x then 2 else 0) 0 p.threads:=by rw[cI,ac e]
  have j: ¬(p.cells.length:Int)>32:=aa
  have k: ¬(p.modules.length:Int)>6:=aa
  have l: ¬(p.locks.length:Int)>4:=aa
  have m: ¬(p.threads.length:Int)>4:=aa
  refine bw j k l m ?_;refine ba 72057576858058860 p.threads.length (fun i f=>(f 34).v=vi i/\cI p=a7 (fun _ x=>if eq x then 2 else 0) i (p.threads.drop i)) rfl rfl ⟨am,a⟩ ?_;clear a;rintro i f u q bb hi ⟨b,a⟩;have n:=aC i aa;refine ar b ?_;refine aQ b ?_ ?_<;>intro h
  ·obtain⟨x,d,_⟩:=aw ‹i<p.threads.length›;have c:eq x=true->cI p=(2,(i:Int)):=fun g=>by rw[a,gV d (by simp[g])];simp[g]
   refine aG b d ?_
   repeat'(refine aQ b ?_ ?_<;>intro h)
   ·rw[c (by simp[eq, *])];simp
   ·rw[c (by simp[eq, *])];simp
   ·rw[c (by simp[eq, *])];simp
   ·refine⟨aa,al n,?_⟩;rw[a,iE d (by simp[eq, *])]
  ·have:i=p.threads.length:=aa
   subst this;rw[a,iJ];simp
theorem sg {w:Int} (h:0<=w/\w<=62):IntKind.i64.wrap (1*2^min w.toNat 64)=2^w.toNat:=by
 have:min w.toNat 64=w.toNat:=iZ aa;rw[this,xh];have a:(2:Int)^w.toNat<=2^62:=kQ aa;have b:=iG w.toNat;exact bq aa
theorem Sz {w:Int} (h:0<=w/\w<=62):IntKind.u64.wrap w=w:=by
 have a:IntKind.u64.wrap w=w % 2^64:=by simp[IntKind.wrap,IntKind.signed,IntKind.bits]
 rw[a];omega
theorem Xt (p:Prog) (L:p.sane):Den Γ G 80 [(zP p)]=some (vi (dT p)):=by
 refine aD (q:=ax ?_);have U:=L.cells;refine aS 4611686018427385892 p.cells.length (fun i f h x=>(f 11).v=vi i/\h 2=some (.map (eG ((p.cells.take i).map Cell.name)))/\dT p=(a7 (fW p) i (p.cells.drop i)).1) rfl ⟨am,by simp -dsimp only[go_sem,seval];rfl,rfl⟩ ?_;rintro i f u K x bs hi ⟨a,D,j⟩;have M:=aC i aa;refine ar a ?_;refine aQ a ?_ ?_<;>intro h
 ·obtain⟨c,b,T⟩:=aw ‹i<p.cells.length›;have g:=tZ c.name;have m:=iC c.init (2^c.w.toNat);have l:=iC c.thread p.threads.length;have o:=iC c.module p.modules.length
  have B:fY p c=true->dT p=1:=fun J=>by
   have:fW p i c=1:=by simp[fW,J]
   rw[j,gV b (by simp[this])];exact this
  by_cases e:fY p c=true
  ·rw[B e]
   by_cases V:1<=c.w/\c.w<=8
   ·have q:=sg (w:=c.w) aa;have s:=Sz (w:=c.w) aa;have k: ¬c.w<0:=aa
    refine aY a b g ?_
    repeat'(refine U_ a m l o q s k ?_ ?_<;>intro h<;>try exact⟨⟩)
    all_goals(exfalso;simp only[fY,inR,eZ,eD,aR,ek]at *;simp_all;(try omega);done)
   ·have k:c.w<1\/c.w>8:=aa
    refine aY a b g ?_;refine aQ a ?_ ?_<;>intro h<;>try exact⟨⟩
    refine aQ a ?_ ?_<;>intro h<;>try exact⟨⟩
    refine aQ a ?_ ?_<;>intro h<;>try exact⟨⟩
    all_goals(exfalso;omega)
  ·have C:fY p c=false:=ak e
   obtain⟨F,b2,W,X,Y,Z,b7,H⟩:=xc C;have q:=sg (w:=c.w) aa;have s:=Sz (w:=c.w) aa;have k: ¬c.w<0:=aa
   have P: ¬c.w<1:=aa
   have R: ¬c.w>8:=aa
   have I:inR c.init (2^c.w.toNat)=true:=by simp[inR];omega
   rw[F]at g;rw[I]at m;rw[H]at o;have E:=fun n=>MW 2 c.name ((p.cells.take i).map Cell.name) K n D
   have t:((p.cells.take i).map Cell.name).any (fun d=>d.toList==c.name.toList)=(p.cells.take i).any (fun d=>d.name.toList==c.name.toList):=by rw[qY];rfl
   have A: ∀Q:Prop,(c.thread= -1->Q)->(¬c.thread= -1->inR c.thread p.threads.length=true->Q)->Q:=fun Q N O=>by
    by_cases h:c.thread= -1
    ·exact N h
    ·exact O h (by simp[inR];omega)
   refine A _ (fun y=> ?_) (fun y S=> ?_)
   all_goals(
    (try rw[S]at l)
    refine qV a b g m l o q s k P R y ?_;refine bf (E _) ?_;rintro r h' n' ⟨rfl,v⟩;rw[t]at v;refine aG a t ?_;refine aQ a ?_ ?_<;>intro h
    ·have:fW p i c=41:=by rw[fW,ac e,ah h]
     rw[j,gV b (by simp[this])];exact this.symm
    ·refine⟨aa,al M,?_,?_⟩
     ·have z:=v h;refine ar z ?_;rw[bc b];simp
     ·rw[j,iE b (by rw[fW,ac e,ac (by simp[h])])])
 ·have:i=p.cells.length:=aa
  subst this;rw[j,iJ]
end Rg
end
