/- Part of the proof of laws of relyguardlaw36. No condition. -/
import Derived.Test.YtaiokglcgiemnaaGreatDoorGartAN
import Derived.Test.YtaiokglcgiemnaaGreatDoorGartAK
import Derived.Test.YtaiokglcgiemnaaGreatDoorGartAL
set_option linter.unusedSimpArgs false
set_option linter.unusedVariables false
set_option linter.defProp false
section
namespace Rg
open Go
theorem ax.cells {h:ae} {x:Nat} {v:V} {a:Nat} {rows:List (List V)} (o:ax h x v a rows):v.cells=some [v]:=by
 rcases o with⟨rfl,_⟩ | ⟨k,rfl,_,_⟩<;>rfl
def dz (p:Prog):Config:=
 if aN p then⟨p.cells.map Cell.init,p.threads.map fun x=>if x.asleep then -1 else 0,p.threads.map fun _=>[]⟩else⟨[],[],[]⟩
theorem ul (h:ae): ∀n:Nat,(List.replicate n [V.t .nils]).mapM (fun row=>row.mapM (toT h 999))=some (List.replicate n [T.sl []])
 | 0=>rfl
 | n+1=>by rw[oE,oE,cQ,ul h n];rfl
theorem tr {α β:Type} (l:List α) (b:β):List.replicate l.length b=l.map fun _=>b:=by
 induction l with
 | nil=>rfl
 | cons x r a=>simp[oE,a]
theorem Yl (p:Prog) (T:p.sane):Den Γ G 13 [(zP p)]=some (.agg [.t (ints (dz p).mem),.t (ints (dz p).at_),.t (.sl ((dz p).buf.map (fun b=>[.sl (b.map Entry.enc)])))]):=by
 refine aD (q:=?_)
 have S:=K4 p T;refine aw S ?_;refine gS ?_ ?_<;>intro h
 ·simp[dz,h]
 ·have J:aN p=true:=bD
  obtain⟨⟨l1,l2,l3,l4⟩,l5⟩:=cS (cT J).1;have L:(p.threads.length:Int)<=4294967296:=aa
  refine aJ L @iN ?_;have hN:(p.cells.map Cell.init).length=p.cells.length:=af
  refine aS 17179803672 p.cells.length (fun i f h x=>(f 4).v=vi i/\ ∃v0,(f 3).v= .lb/\(f 3).box=some [v0,.t .nils,.ms 8 0 p.threads.length]/\ax h x v0 1 (ai ((p.cells.map Cell.init).take i))/\aK v0 8/\h 8=some (.rows 1 (List.replicate p.threads.length [.t .nils]) false)/\8<x)
   rfl ⟨am,.t .nils,am,am,.inl ⟨rfl,rfl⟩,(fun i n h=>by cases h),am,am⟩ ?_
  rintro i f u H x bs hi ⟨q,v0,e,j,a,P,m,I⟩;have B:=aB i aa;refine aw q ?_;refine aR q ?_ ?_<;>intro h
  ·obtain⟨c,s,_⟩:=au ‹i<p.cells.length›;have o:(p.cells.map Cell.init)[i]? =some c.init:=by simp[s]
   have l:=a.valOf;have Z:=a.r2;have v3:=a.r3;refine dG q s e j l Z v3 ?_;refine ce (a.upd aa _) aa (by rw[aC];simp;omega) aG rfl (eC _) ?_;intro v hp g z w;rw[show ai ((p.cells.map Cell.init).take i)++[[V.t (ti c.init)]]=ai ((p.cells.map Cell.init).take (i+1))from by rw[a_ o,fB]]at g
   have A:At (updC H (x+5+8) (some (O.rows 1 [[V.t (ti c.init)]] false))) hp 8=some (.rows 1 (List.replicate p.threads.length [.t .nils]) false):=by
    rw[w 8 aa P,aq,ac aa];exact m
   have F:=g.valOf;have t:=g.cells;simp only[V.cells]at t;refine bT q e j F t ?_;refine⟨aa,ak B,v,ak e,am,?_,z 8 aa,ak A,?_⟩
   ·refine aA ?_;exact g.le aa
   ·refine aA ?_;omega
  ·have:i=p.cells.length:=aa
   subst this;rw[show(p.cells.map Cell.init).take p.cells.length=p.cells.map Cell.init from c6 af]at a
   generalize C:(p.threads.map fun x=>if x.asleep then(-1:Int)else 0)=d
   have FH:d.length=p.threads.length:=by rw[<- C];simp
   refine aS 9007182074871912 p.threads.length (fun i f h x=>(f 5).v=vi i/\ ∃l,(f 3).v= .lb/\(f 3).box=some [v0,l,.ms 8 0 p.threads.length]/\ax h x v0 1 (ai (p.cells.map Cell.init))/\ax h x l 1 (ai (d.take i))/\
    aK l 8/\(∀k,k<x-> ¬aK v0 k->aK l k)/\h 8=some (.rows 1 (List.replicate p.threads.length [.t .nils]) false)/\8<x)
    rfl ⟨am,.t .nils,ak e,ak j,by simp -dsimp only[go_sem,seval];exact a.le aa,.inl ⟨rfl,rfl⟩,(fun i n h=>by cases h),(fun k _ _ i n h=>by cases h),ak m,av⟩ ?_
   clear q B a e j m I;rintro i f u H x bs hi ⟨r,l,e,j,D,a,R,N,m,I⟩;have B:=aB i aa;refine aw r ?_;refine aR r ?_ ?_<;>intro h
   ·obtain⟨c,s,_⟩:=au ‹i<p.threads.length›;have o:d[i]? =some (if c.asleep then(-1:Int)else 0):=by rw[<- C];simp[s]
    have w1:=a.valOf;have w2:=a.r2;have w3:=a.r3;have w4:=a.r4;have w5:=a.r5;refine aJ r s ?_;cases M:c.asleep
    all_goals(
     rw[M]at o;simp only[aU,zG,aX]at o;refine qY r e j w1 w2 w3 w4 w5 ?_;refine ce (a.upd aa _) aa (by rw[aC];simp;omega) aG rfl (eC _) ?_;intro v hp g z w;rw[<- fB,<- a_ o]at g;have F:=g.valOf;have t:=g.cells;simp only[V.cells]at t;have A:=w 8 aa R;rw[aq,ac aa,m]at A;have Q:=D.keep (y:=x) (ay _) (fun k K E=>(w k aa (N k K E)).trans (by rw[aq,ac aa]));refine bT r e j F t ?_;refine⟨aa,ak B,v,ak e,am,by simp -dsimp only[go_sem,seval];exact Q.le aa,?_,z 8 aa,?_,ak A,av⟩
     ·refine aA ?_;exact g.le aa
     ·intro k K E
      by_cases ND:k<x
      ·exact z k aa
      ·exact absurd (D.off aa) E)
   ·have:i=p.threads.length:=aa
    subst this;rw[show d.take p.threads.length=d from c6 aa]at a;have U:=jD D (iG _);have W:=jD a (iG _);have X:List.take p.threads.length (List.replicate p.threads.length [V.t .nils])=List.replicate p.threads.length [V.t .nils]:=c6 af;have Y:=ul H p.threads.length;simp -dsimp only[go_sem,seval,e,j,U,W,X,Y,m,iB,ay];simp[dz,J,C,tr]
def gj (l:List Int) (i:Nat):List Int:=l.take i++List.replicate (l.length-i) 0
theorem PW (l:List Int):gj l 0=List.replicate l.length 0:=by simp[gj]
theorem MG (l:List Int):gj l l.length=l:=by simp[gj]
theorem L6 (l:List Int) {i:Nat} (h:i<=l.length):(gj l i).length=l.length:=by simp[gj];omega
theorem MJ {l:List Int} {i:Nat} {x:Int} (h:l[i]? =some x):(gj l i).set i x=gj l (i+1):=by
 have hi:i<l.length:=(zH.1 h).1;apply p_;intro j;simp only[gj];rw[cx];have c:(l.take i).length=i:=by simp;omega
 have d:(l.take (i+1)).length=i+1:=by simp;omega
 by_cases a:i=j
 ·subst a;have b:i<(l.take i++List.replicate (l.length-i) 0).length:=by simp;omega
  rw[ah rfl,ah b,bU aa,zO,ah aa,h]
 ·rw[ac a]
  by_cases e:j<i
  ·rw[bU aa,bU aa,zO,zO,ah e,ah aa]
  ·rw[eJ aa,eJ aa,c,d,nk,nk]
   by_cases f:j<l.length
   ·rw[ah aa,ah aa]
   ·rw[ac aa,ac aa]
theorem YB {l:List Int} {i:Nat} (h:l[i]? =some 0):gj l i=gj l (i+1):=by
 have hi:i<l.length:=(zH.1 h).1;simp only[gj,a_ h];rw[zQ,show l.length-i=(l.length-(i+1))+1 from aa,oE];rfl
theorem dV (l:List Int) (i:Nat) (x:Int):(ai l).set i [vi x]=ai (l.set i x):=by simp[ai,o8]
theorem up (n:Nat):ai (List.replicate n 0)=List.replicate n [vi 0]:=by simp[ai]
theorem gz {l:List Int} {i:Nat} (h:i<l.length):(ai l)[i]? =some [vi l[i]]:=by simp[ai,h]
theorem gY (h:ae) (d:Nat) (l:List Int):(ai l).mapM (fun row=>row.mapM (toT h d))=some (l.map fun n=>[ti n]):=mA h d (l.map fun n=>[ti n]) (iG _)
theorem MA (p:Prog) (F:p.sane):Den Γ G 12 [(zP p)]=some (.agg [.t (ints (dz p).mem),.t (ints (dz p).at_),.t (.sl ((dz p).buf.map (fun b=>[.sl (b.map Entry.enc)])))]):=by
 refine aD (q:=?_)
 have E:=wX p F;refine aw E ?_;refine gS ?_ ?_<;>intro h
 ·simp[dz,h]
 ·have A:aN p=true:=bD
  obtain⟨⟨R,S,T,U⟩,W⟩:=cS (cT A).1;have B:(p.threads.length:Int)<=4294967296:=aa
  have D:(p.cells.length:Int)<=4294967296:=aa
  generalize w:p.cells.map Cell.init=mems
  have y:mems.length=p.cells.length:=by rw[<- w];simp
  generalize t:(p.threads.map fun x=>if x.asleep then(-1:Int)else 0)=a
  have v:a.length=p.threads.length:=by rw[<- t];simp
  refine a7 B D @iN ?_;have J:=up p.cells.length;have K:=up p.threads.length
  refine aS 1099444518928 p.cells.length (fun i f h x=>(f 26).v=vi i/\h 8=some (.rows 1 (ai (gj mems i)) false)/\h 12=some (.rows 1 (ai (List.replicate p.threads.length 0)) false)/\h 16=some (.rows 1 (List.replicate p.threads.length [.t .nils]) false))
   rfl ⟨am,by simp -dsimp only[go_sem,seval];rw[PW,y,J],by simp -dsimp only[go_sem,seval];rw[K],am⟩ ?_
  rintro i f u H x bs hi ⟨q,g,d,e⟩;have o:=aB i aa;refine aw q ?_;refine aR q ?_ ?_<;>intro h
  ·obtain⟨c,n,_⟩:=au ‹i<p.cells.length›;have j:mems[i]? =some c.init:=by rw[<- w];simp[n]
   have C:=L6 mems (i:=i) aa;have s:=gz (l:=gj mems i) (i:=i) aa;have k:=dV (gj mems i) i c.init;rw[MJ j]at k;have r:i<p.cells.length:=bD
   refine bT q n g s r ?_;refine⟨aa,ak o,?_,?_,?_⟩
   ·exact ak k
   ·exact ak d
   ·exact ak e
  ·have:i=p.cells.length:=aa
   subst this;rw[<- y,MG]at g
   refine aS 144106391982833696 p.threads.length (fun i f h x=>(f 43).v=vi i/\h 8=some (.rows 1 (ai mems) false)/\h 12=some (.rows 1 (ai (gj a i)) false)/\h 16=some (.rows 1 (List.replicate p.threads.length [.t .nils]) false))
    rfl ⟨am,ak g,ds d @PW v,ak e⟩ ?_
   clear q g d e o;rintro i f u H x bs hi ⟨m,g,d,e⟩;have o:=aB i aa;refine aw m ?_;refine aR m ?_ ?_<;>intro h
   ·obtain⟨c,n,_⟩:=au ‹i<p.threads.length›;have j:a[i]? =some (if c.asleep then(-1:Int)else 0):=by rw[<- t];simp[n]
    have C:=L6 a (i:=i) aa;have s:=gz (l:=gj a i) (i:=i) aa;have r:i<p.threads.length:=bD
    refine aJ m n ?_;cases z:c.asleep
    ·rw[z]at j;have I:=YB (l:=a) (i:=i) (al j);refine aw m ?_;refine⟨aa,ak o,ak g,bg d I,ak e⟩
    ·rw[z]at j;have k:=dV (gj a i) i (-1);rw[MJ (al j)]at k;refine bN m d s r ?_;refine⟨aa,ak o,ak g,ak k,ak e⟩
   ·have:i=p.threads.length:=aa
    subst this;rw[<- v,MG]at d;have L:List.take p.threads.length (List.replicate p.threads.length [V.t .nils])=List.replicate p.threads.length [V.t .nils]:=c6 af;have M:=ul H p.threads.length;have N:List.take p.cells.length (ai mems)=ai mems:=c6 (by rw[aC];omega);have O:List.take p.threads.length (ai a)=ai a:=c6 (by rw[aC];omega);have P:=gY H 999 mems;have Q:=gY H 999 a;simp -dsimp only[go_sem,seval,L,M,N,O,P,Q,g,d,e,iB,ay,aC,y,v];simp[dz,A,t,w,tr]
end Rg
end
section
-- FULL
namespace Rg
open Go
def kF (p:Prog) (t:Int):Int:=match p.threads[t.toNat]? with
 | some x=>x.points
 | none=>0
def ir (p:Prog) (c:Config) (t:Int) (s:Step):Bool:=
 decide (atI c.at_ t=s.fr)&&decide (s.guard.eval c.mem c.mem=1)&&
  (if s.kind=6 then decide (atI c.at_ s.target= -1)else if s.kind=7 then decide (atI c.at_ s.target=kF p s.target-1)else true)
structure StepOk (p:Prog) (t:Int) (x:Thread) (s:Step):Prop where
 kind:1<=s.kind/\s.kind<=7
 fr:0<=s.fr/\s.fr<x.points-1
 to:0<=s.to/\s.to<x.points
 rng:su p s
 row:db p t s=true
 tgt:s.kind=6\/s.kind=7->inR s.target p.threads.length=true/\s.target≠t
 wid: ∀a∈s.set,∃y,p.cells[a.cell.toNat]? =some y/\a.to.w=y.w
 dif: ∀(i j:Nat) (a b:Assign),s.set[i]? =some a->s.set[j]? =some b->a.cell=b.cell->i=j
theorem ME {p:Prog} {set:List Assign}: ∀{l:List Assign} {i:Nat},(aZ (c9 p set) i l).1=0-> ∀a∈l,∃y,p.cells[a.cell.toNat]? =some y/\a.to.w=y.w
 | [],_,_,a,c=>by simp at c
 | x::r,i,h,a,c=>by
   rw[aZ]at h;split at h
   ·rename_i b;rcases cj.1 c with rfl | c
    ·unfold c9 at b;split at b
     ·simp at b
     ·split at b
      ·simp at b
      ·rename_i d;simp only[fg,ml,eI,rI]at d;have:=d.2;unfold cN at this;rcases e:p.cells[a.cell.toNat]? with _ | y
       ·rw[e]at this;simp at this
       ·rw[e]at this;exact⟨y,rfl,al this⟩
    ·exact ME h a c
   ·rename_i b;exact absurd h b
theorem MF {p:Prog} {set:List Assign}: ∀{l:List Assign} {i:Nat},set.drop i=l->(aZ (c9 p set) i l).1=0-> ∀(j:Nat) (a:Assign),i<=j->set[j]? =some a->(set.take j).any (fun b=>decide (b.cell=a.cell))=false
 | [],i,hd,_,j,a,Av,ha=>by
   have:set.length<=i:=al hd
   have:=(zH.1 ha).1
   omega
 | x::r,i,hd,h,j,a,Av,ha=>by
   rw[aZ]at h
   have d:set[i]? =some x:=by
    have:=bz (·[0]?) hd;simpa using this
   have f:set.drop (i+1)=r:=by
    have:=jj d;rw[hd]at this;exact(List.cons.inj this).2.symm
   split at h
   ·rename_i c
    by_cases g:j=i
    ·subst g;rw[d]at ha;cases ha;unfold c9 at c;split at c
     ·simp at c
     ·rename_i e;simp only[fg,ml,Bool.not_eq_true]at e;exact e.2
    ·exact MF f h j a aa ha
   ·rename_i c;exact absurd h c
theorem YS {p:Prog} {t:Int} {x:Thread} {s:Step} (h:cI p t x.points s=0):StepOk p t x s:=by
 unfold cI at h;split at h
 ·simp at h
 ·rename_i c;split at h
  ·simp at h
  ·rename_i q;split at h
   ·rename_i u;exact absurd h u
   ·rename_i e;split at h
    ·rename_i d;have e:(aZ (c9 p s.set) 0 s.set).1=0:=al e
     have m:kO p x.points s=false:=al c
     simp only[kO,js,lA,ni,d8]at m;obtain⟨⟨⟨⟨⟨⟨w,b2⟩,n⟩,o⟩,y⟩,z⟩,A⟩:=m;simp only[inR,aQ]at n o;simp only[fg,ml,eI,rI,aQ]at q;refine⟨aa,n,o,⟨q.1,tF (set:=s.set) e⟩,d,fun v=> ?_,ME e,fun i j a b k c g=> ?_⟩
     ·rw[db,ac aa,ac aa,ac aa,ac aa,ac aa]at d
      have l:gh p t s=true:=by
       split at d
       ·simp only[zF]at d;exact d.1
       ·exact d
      simp only[gh,zF,aQ]at l;exact⟨l.2,l.1.2⟩
     ·have f: ∀(i j:Nat) (a b:Assign),s.set[i]? =some a->s.set[j]? =some b->a.cell=b.cell-> ¬i<j:=fun i j a b k c g r=>by
       have:=MF (i:=0) rfl e j b aa c;rw[qf k r (al g)]at this;simp at this
      have B:=f i j a b k c g;have C:=f j i b a c k g.symm;omega
    ·simp at h
theorem Oo {p:Prog}: ∀{l:List Thread} {i:Nat},eU p i l=(0,-1,-1)-> ∀(j:Nat) (x:Thread),l[j]? =some x->(bI p (i+j) x).1=0
 | [],_,_,j,x,hx=>by simp at hx
 | y::r,i,h,j,x,hx=>by
   rw[eU]at h;split at h
   ·rename_i a
    cases j with
    | zero=>simp at hx;subst hx;exact a
    | succ j=>
      have:=Oo h j x (al hx);rw[show i+(j+1)=i+1+j by omega];exact this
   ·rename_i a;exact absurd (bz Prod.fst h) a
theorem Hv {p:Prog} (a:aN p=true) {t:Nat} {x:Thread} (b:p.threads[t]? =some x):(bI p t x).1=0:=by
 have:=Oo (cT a).2.2.2.2 t x b;simpa using this
theorem SN {α:Type} {f:Nat->α->Int}: ∀{l:List α} {i:Nat},(aZ f i l).1=0-> ∀(j:Nat) (x:α),l[j]? =some x->f (i+j) x=0
 | [],_,_,j,x,hx=>by simp at hx
 | y::r,i,h,j,x,hx=>by
   rw[aZ]at h;split at h
   ·rename_i a
    cases j with
    | zero=>simp at hx;subst hx;exact a
    | succ j=>
      have:=SN h j x (al hx);rw[show i+(j+1)=i+1+j by omega];exact this
   ·rename_i a;exact absurd h a
theorem J_ {p:Prog} {t:Nat} {x:Thread} (h:(bI p t x).1=0):1<=x.points/\(x.asserts.length:Int)=x.points/\(x.modules.length:Int)=x.points/\(aZ (fun _ s=>cI p t x.points s) 0 x.steps).1=0:=by
 unfold bI at h;split at h
 ·simp at h
 ·split at h
  ·simp at h
  ·split at h
   ·simp at h
   ·rename_i b;split at h
    ·simp at h
    ·split at h
     ·simp at h
     ·split at h
      ·rename_i a;exact absurd h a
      ·rename_i a;exact⟨aa,aa,aa,al a⟩
theorem kX {p:Prog} (b:aN p=true) {t i:Nat} {x:Thread} {s:Step} (d:p.threads[t]? =some x) (c:x.steps[i]? =some s):StepOk p t x s:=by
 have a:=(J_ (Hv b d)).2.2.2;exact YS (SN a i s c)
end Rg
end
section
-- FULL
namespace Rg
open Go
theorem Th {p:Prog} {c:Config} (h:isM p c=true):c.mem.length=p.cells.length/\c.at_.length=p.threads.length/\c.buf.length=p.threads.length:=by
 simp only[isM,jl,zF,aQ]at h;exact⟨h.1.1.1.1.1,h.1.1.1.1.2,h.1.2⟩
theorem ZW (p:Prog) (c:Config) (t:Int) (y:Thread) (a:Int) (d:0<=t) (e:c.at_[t.toNat]? =some a) (g:p.threads[t.toNat]? =some y) (h: -2^40<y.points/\y.points<2^40):Den Γ G 21 [(zP p),(.agg [.t (ints (c).mem),.t (ints (c).at_),.t (.sl ((c).buf.map (fun b=>[.sl (b.map Entry.enc)])))]),vi t]=some (vb (decide (a=y.points-1))):=by
 refine aD (q:=?_)
 have f:IntKind.i64.wrap (y.points-1)=y.points-1:=bu aa;exact zV d e g f
theorem iO {l:List Int} {n:Int} {a:Int} (h:l[n.toNat]? =some a):atI l n=a:=by simp[atI,List.getD,h]
theorem qb {p:Prog} (a:aN p=true) {t:Nat} {x:Thread} (b:p.threads[t]? =some x):1<=x.points/\x.points<=48:=
 ⟨(J_ (Hv a b)).1,((cS (cT a).1).2 x (zL b)).1⟩
theorem WZ (p:Prog) (u:aN p=true) (c:Config) (z:isM p c=true) (t:Nat) (x:Thread) (e:p.threads[t]? =some x) (i:Nat) (s:Step) (h:x.steps[i]? =some s):
 Den Γ G 67 [(zP p),(.agg [.t (ints (c).mem),.t (ints (c).at_),.t (.sl ((c).buf.map (fun b=>[.sl (b.map Entry.enc)])))]),vi t,vi i]=some (vb (ir p c t s)):=by
 obtain⟨F,H,I⟩:=Th z;have v:=kX u e h;have D:t<p.threads.length:=(zH.1 e).1;obtain⟨a,f,_⟩:=au (show t<c.at_.length from aa);have r:atI c.at_ t=a:=iO (al f);have j:=pf s.guard c.mem c.mem
 refine aD (q:=?_)
 by_cases d:a=s.fr
 ·by_cases l:s.guard.eval c.mem c.mem=1
  ·have k:ir p c t s=(if s.kind=6 then decide (atI c.at_ s.target= -1)else if s.kind=7 then decide (atI c.at_ s.target=kF p s.target-1)else true):=by
    simp[ir,r,d,l]
   rw[l]at j;rw[k]
   by_cases g:s.kind=6\/s.kind=7
   ·obtain⟨n,_⟩:=v.tgt g;simp only[inR,aQ]at n;obtain⟨b,m,_⟩:=au (show s.target.toNat<c.at_.length from aa);obtain⟨y,o,_⟩:=au (show s.target.toNat<p.threads.length from aa);have E:=qb u o;have A:IntKind.i64.wrap (y.points-1)=y.points-1:=bu aa;have q:=iO m;have w:kF p s.target=y.points:=by simp[kF,o]
    rcases g with g | g
    ·simp -dsimp [go_sem,e,h,f,d,j,g,n.1,m,q]
    ·simp -dsimp [go_sem,e,h,f,d,j,g,n.1,m,o,A,q,w]
   ·have B: ¬s.kind=6:=aa
    have C: ¬s.kind=7:=aa
    simp -dsimp [go_sem,e,h,f,d,j,B,C]
  ·have k:ir p c t s=false:=by simp[ir,l]
   rw[k];exact F6 e h f d j l
 ·have k:ir p c t s=false:=by simp[ir,r,d]
  rw[k];exact zV e h f d
def jA (p:Prog) (c:Config) (t:Nat) (x:Thread) (i:Nat):List Choice:=
 (x.steps.take i).zipIdx.filterMap fun q=>if ir p c t q.1 then some ⟨t,q.2,0⟩else none
def jg (p:Prog) (c:Config) (i:Nat):List Choice:=(p.threads.take i).zipIdx.flatMap fun q=>jA p c q.2 q.1 q.1.steps.length
def fG (p:Prog) (c:Config):List Choice:=jg p c p.threads.length
theorem rn {α:Type} {l:List α} {i:Nat} {x:α} (h:l[i]? =some x):(l.take (i+1)).zipIdx=(l.take i).zipIdx++[(x,i)]:=by
 have hi:i<l.length:=(zH.1 h).1;rw[a_ h,List.zipIdx_append];simp;omega
theorem XA {p:Prog} {c:Config} {t:Nat} {x:Thread} {i:Nat} {s:Step} (h:x.steps[i]? =some s):
 jA p c t x (i+1)=jA p c t x i++(if ir p c t s then [⟨t,i,0⟩]else []):=by
 unfold jA;rw[rn h,v7]
 congr 1
 cases a:ir p c t s<;>simp[a]
theorem Jh {p:Prog} {c:Config} {i:Nat} {x:Thread} (h:p.threads[i]? =some x):jg p c (i+1)=jg p c i++jA p c i x x.steps.length:=by
 unfold jg;rw[rn h,jc];simp
theorem Iu (p:Prog) (c:Config) (t:Nat) (x:Thread) (i:Nat):(jA p c t x i).length<=i:=by
 unfold jA;refine cU (vW _ _) ?_;simp;omega
theorem tJ {p:Prog} (b:aN p=true) (c:Config): ∀i:Nat,(jg p c i).length<=64*i
 | 0=>by simp[jg]
 | i+1=>by
   have g:=tJ b c i;rcases a:p.threads[i]? with _ | x
   ·have:p.threads.length<=i:=al a
    have e:jg p c (i+1)=jg p c i:=by
     unfold jg;rw[c6 aa,c6 aa]
    rw[e];omega
   ·have d:=((cS (cT b).1).2 x (zL a)).2.1;have f:=Iu p c i x x.steps.length;rw[Jh a,zM];omega
def bj (l:List Choice):List (List V):=(l.map Choice.enc).map (·.map V.t)
theorem je (l:List Choice):(bj l).length=l.length:=by simp[bj]
theorem mw (l:List Choice) (c:Choice):bj (l++[c])=bj l++[[vi c.thread,vi c.step,vi c.cell]]:=by simp[bj,Choice.enc]
theorem pd (l:List Choice):((bj l).all fun r=>decide (r.length=3))=true:=by simp[bj,Choice.enc]
theorem pb (l:List Choice): ∀e∈l.map Choice.enc,∀t∈e,T.norm t=t:=by
 intro e b t a;obtain⟨n,_,rfl⟩:=cy.1 b;simp[Choice.enc]at a;rcases a with rfl | rfl | rfl<;>rfl
theorem IH (p:Prog) (m:aN p=true) (c:Config) (C:isM p c=true):Den Γ G 44 [(zP p),(.agg [.t (ints (c).mem),.t (ints (c).at_),.t (.sl ((c).buf.map (fun b=>[.sl (b.map Entry.enc)])))])]=some (.t (.sl ((fG p c).map Choice.enc))):=by
 refine aD (q:=?_)
 obtain⟨⟨T,U,V,W⟩,E⟩:=cS (cT m).1;refine aA ?_;refine aS 137438951648 p.threads.length (fun i f h x=>(f 11).v=vi i/\ax h x (f 5).v 3 (bj (jg p c i))) rfl ⟨am,.inl ⟨am,rfl⟩⟩ ?_;rintro i f u H x bs hi ⟨d,a⟩;have D:=aB i aa;refine aw d ?_;refine aR d ?_ ?_<;>intro h
 ·obtain⟨t,n,A⟩:=au ‹i<p.threads.length›;obtain⟨_,L,_⟩:=E t A;refine aJ d n ?_;refine aS 68717379744 t.steps.length (fun j l h x=>(l 21).v=vi j/\ax h x (l 5).v 3 (bj (jg p c i++jA p c i t j))) rfl ⟨am,by simp -dsimp only[go_sem,seval,jA,fy,vN,rE,bW];exact a.le aa⟩ ?_;clear a;rintro j l X R Y B S ⟨e,a⟩;have q:=aB j aa;refine aw e ?_;refine dH e d ?_ ?_<;>intro h
  ·obtain⟨s,w,Q⟩:=au ‹j<t.steps.length›;have z:=WZ p m c C i t n j s w;have g:=XA (p:=p) (c:=c) (t:=i) w;have M:=tJ m c i;have P:=Iu p c i t j;refine a7 e d z ?_;refine dH e d ?_ ?_<;>intro h
   ·rw[h]at g;have o:=a.valOf;have F:=a.r2;have I:=a.r3;have J:=a.r4;have k:=a.r5;refine dG e d o F I J k ?_;refine ce (a.upd aa _) aa (by rw[je,zM];omega) aG rfl (pd _) ?_;intro v hp r O N;have K:=r.valOf;refine aJ K e ?_;refine⟨aa,ak q,?_⟩;simp -dsimp only[go_sem,seval,g,aU];rw[<- zQ,mw];exact r.le aa
   ·rw[h]at g;refine⟨aa,ak q,?_⟩;simp -dsimp only[go_sem,seval,g,bW,zG,aX];exact a.le aa
  ·have:j=t.steps.length:=aa
   subst this;refine⟨aa,ak D,?_⟩;refine aA ?_;rw[Jh n];exact a.le aa
 ·have:i=p.threads.length:=aa
  subst this;have o:=a.valOf;have y:=a.reify (pb _);have k:=a.resVal;simp only[Rg.resVal]at k;refine aJ o k ?_;exact y
def pM (p:Prog) (c:Config):List Choice:=if aN p&&isM p c then fG p c else []
theorem Xb (p:Prog) (i:p.sane) (c:Config) (e:c.sane):Den Γ G 17 [(zP p),(.agg [.t (ints (c).mem),.t (ints (c).at_),.t (.sl ((c).buf.map (fun b=>[.sl (b.map Entry.enc)])))])]=some (.t (.sl ((pM p c).map Choice.enc))):=by
 refine aD (q:=?_)
 have f:=wX p i;refine aw f ?_;cases a:aN p
 ·refine aA ?_;simp[pM,a]
 ·have g:=Nl p a c e;refine aw g ?_;cases d:isM p c
  ·refine aA ?_;simp[pM,a,d]
  ·have h:=IH p a c d;refine aw h ?_;simp[pM,a,d]
def pq (l:List Choice) (x:Choice):Bool:=l.any fun y=>decide (y=x)
theorem yf (a b:Choice):(decide (a.thread=b.thread)&&(decide (a.step=b.step)&&decide (a.cell=b.cell)))=decide (a=b):=by
 cases a;cases b;simp only[Choice.mk.injEq];simp
theorem kbX (l:List Choice) (x:Choice) (g:l.length<2^40):Den Γ G 20 [.t (.sl (l.map Choice.enc)),(.agg [.t (ti (x).thread),.t (ti (x).step),.t (ti (x).cell)])]=some (vb (pq l x)):=by
 refine aD (q:=aA ?_);refine a8 262128 l.length (fun i f=>(f 5).v=vi i/\pq l x=(l.drop i).any fun y=>decide (y=x)) rfl rfl ⟨am,rfl⟩ ?_;rintro i f u j bb hi ⟨a,b⟩;have e:=aB i aa;refine aw a ?_;refine aR a ?_ ?_<;>intro h
 ·obtain⟨y,c,_⟩:=au ‹i<l.length›;have d:=yf y x;refine bN a c d @Bool.bne_false ?_;refine aR a ?_ ?_<;>intro h
  ·rw[b,xE c (al h)]
  ·refine⟨aa,ak e,?_⟩;rw[b,xF c (al h)]
 ·have:i=l.length:=aa
  subst this;rw[b,y7]
def bp (b view:List Int) (set:List Assign):List Int:=set.foldl (fun m a=>m.set a.cell.toNat (a.to.eval view view)) b
theorem iE (view:List Int): ∀(set:List Assign) (b:List Int),(bp b view set).length=b.length
 | [],b=>rfl
 | a::r,b=>by
   have:=iE view r (b.set a.cell.toNat (a.to.eval view view));simpa[bp]using this
theorem wG {b view:List Int} {set:List Assign} {i:Nat} {a:Assign} (h:set[i]? =some a):bp b view (set.take (i+1))=(bp b view (set.take i)).set a.cell.toNat (a.to.eval view view):=by
 unfold bp;rw[a_ h,iD];rfl
theorem Yn (b view:List Int) (set:List Assign) (E:b.length<2^31) (L:set.length<2^48) (s: ∀a∈set,0<=a.cell/\a.cell<b.length):
 Den Γ G 66 [.t (ints b),.t (ints view),.t (.sl (set.map Assign.enc))]=some (.t (ints (bp b view set))):=by
 refine aD (q:=aA ?_);have A:=tW b E (fun _=>none) 0;obtain⟨r,h',I,g,c,_,_⟩:=A;refine qK (es:=b.map fun n=>[ti n]) rfl rfl ⟨r,h',I,g,c⟩ ?_;clear g c;intro v hp c _ _;have m:=c.valOf;refine aw m ?_;refine aS 4294965504 set.length (fun i f h x=>(f 8).v=vi i/\ax h x v 1 (ai (bp b view (set.take i)))) rfl ⟨am,by simp -dsimp only[go_sem,seval];exact c.le aa⟩ ?_;clear c;rintro i f u H x bs hi ⟨d,c⟩;have F:=aB i aa;refine aw d ?_;refine aR d ?_ ?_<;>intro h
 ·obtain⟨a,j,z⟩:=au ‹i<set.length›;obtain⟨B,J⟩:=s a z;have t:=xr a.to view view;have p:(bp b view (set.take i)).length=b.length:=iE view _ b;rcases c with⟨_,C⟩ | ⟨k,rfl,K,D⟩
  ·exfalso;have:(ai (bp b view (set.take i))).length=0:=by rw[C];rfl
   rw[aC]at this;omega
  ·have q:a.cell<(((ai (bp b view (set.take i))).length:Nat):Int):=by rw[aC];omega
   have w:=gz (l:=bp b view (set.take i)) (i:=a.cell.toNat) aa;have e:=dV (bp b view (set.take i)) a.cell.toNat (a.to.eval view view);rw[<- wG j]at e;refine dG d j t B q D w ?_;refine⟨aa,ak F,.inr ⟨k,?_,av,?_⟩⟩
   ·rw[aC,aC,p,iE]
   ·exact ak e
 ·have:i=set.length:=aa
  subst this;rw[be]at c;have y:=c.reify (iG _);have o:=c.resVal;simp only[Rg.resVal]at o;refine aJ m o ?_;exact y
theorem I_ {p:Prog} {c:Config} {t:Nat} {x:Thread} {n:Nat} {y:Choice}:y∈jA p c t x n<-> ∃i s,i<n/\x.steps[i]? =some s/\ir p c t s=true/\y=⟨t,i,0⟩:=by
 unfold jA;rw[p7];constructor
 ·rintro⟨⟨s,i⟩,a,h⟩;rw[ka]at a;simp only at a;rw[zO]at a;split at a
  ·rename_i hi;split at h
   ·rename_i b;simp only[zA]at h;exact⟨i,s,hi,a,b,h.symm⟩
   ·simp at h
  ·simp at a
 ·rintro⟨i,s,hi,d,b,rfl⟩;refine⟨(s,i),?_,by simp[b]⟩;rw[ka];simp only;rw[zO,ah hi];exact d
theorem wo {p:Prog} {c:Config} {y:Choice}:y∈fG p c<-> ∃(t:Nat) (x:Thread) (i:Nat) (s:Step),p.threads[t]? =some x/\x.steps[i]? =some s/\ir p c t s=true/\y=⟨t,i,0⟩:=by
 unfold fG jg;rw[dk];constructor
 ·rintro⟨⟨x,t⟩,d,h⟩;rw[ka,be]at d;obtain⟨i,s,_,a,b,rfl⟩:=I_.1 h;exact⟨t,x,i,s,d,a,b,rfl⟩
 ·rintro⟨t,x,i,s,e,a,b,rfl⟩;refine⟨(x,t),?_,I_.2 ⟨i,s,(zH.1 a).1,a,b,rfl⟩⟩;rw[ka,be];exact e
def hU (p:Prog) (c:Config) (t:Nat) (s:Step):Config:=
 ⟨bp c.mem c.mem s.set,if s.kind=6 then(c.at_.set t s.to).set s.target.toNat 0 else c.at_.set t s.to,p.threads.map fun _=>[]⟩
def li (p:Prog) (x:Choice):Option Step:=(p.threads[x.thread.toNat]?).bind fun t=>t.steps[x.step.toNat]?
def eQ:Config:=⟨[],[],[]⟩
def rP (p:Prog) (c:Config) (x:Choice):Config:=match li p x with
 | some s=>hU p c x.thread.toNat s
 | none=>eQ
def jZ (p:Prog) (c:Config) (x:Choice):Config×Int:=
 if aN p&&isM p c then(if pq (fG p c) x then(rP p c x,0)else(eQ,110))else(eQ,1)
theorem Sa (l:List Choice) (x:Choice):pq l x=true<->x∈l:=by
 unfold pq;rw[lu];constructor
 ·rintro⟨y,a,h⟩;simp at h;exact h▸a
 ·intro h;exact⟨x,h,af⟩
theorem ec {α:Type} {l:List α} {n:Nat} (h:n=l.length):l.take n=l:=c6 aa
theorem YV {α:Type} {l:List α} {n:Nat} (h:n=l.length):l.drop n=[]:=oU aa
theorem XF (p:Prog) (J:aN p=true) (c:Config) (hc:isM p c=true) (t:Nat) (x:Thread) (A:p.threads[t]? =some x) (i:Nat) (s:Step) (L:x.steps[i]? =some s) (y:Choice) (hy:y=⟨t,i,0⟩) (E8:s.set.length<2^48):
 Den Γ G 45 [(zP p),(.agg [.t (ints (c).mem),.t (ints (c).at_),.t (.sl ((c).buf.map (fun b=>[.sl (b.map Entry.enc)])))]),(.agg [.t (ti (y).thread),.t (ti (y).step),.t (ti (y).cell)])]=some (.agg [.t (ints (hU p c t s).mem),.t (ints (hU p c t s).at_),.t (.sl ((hU p c t s).buf.map (fun b=>[.sl (b.map Entry.enc)])))]):=by
 subst hy;obtain⟨l1,l2,l3⟩:=Th hc;obtain⟨⟨m1,m2,m3,m4⟩,_⟩:=cS (cT J).1;have C:=kX J A L;have Dd:t<p.threads.length:=(zH.1 A).1;have X:(c.mem.length:Int)<=4294967296:=aa
 have Y:(c.at_.length:Int)<=4294967296:=aa
 have Z:(c.buf.length:Int)<=4294967296:=aa
 refine aD (q:=?_)
 have r1:=eC c.mem;have r2:=eC c.at_;have r3:List.take c.mem.length (ai c.mem)=ai c.mem:=ec (aC _).symm;have r4:List.take c.at_.length (ai c.at_)=ai c.at_:=ec (aC _).symm;have r5: ∀(n:Nat) (v:List V),List.drop n (List.replicate n v)=[]:=fun n v=>YV af
 have O: ∀a∈s.set,0<=a.cell/\a.cell<c.mem.length:=fun a o=>by
  have:=(C.rng.2 a o).1;simp only[inR,aQ]at this;omega
 simp -dsimp only[go_sem,seval,X,Y,Z,iN,xJ,r1,r2,r3,r4,r5,aC,iB,ay,bW,Nat.min_self,A,L]
 refine aS 36893206672442393600 s.set.length (fun j f h z=>(f 48).v=vi j/\h 7=some (.rows 1 (ai (bp c.mem c.mem (s.set.take j))) false)/\h 11=some (.rows 1 (ai c.at_) false)/\h 15=some (.rows 1 (List.replicate c.buf.length [.t .nils]) false)) rfl
  ⟨am,by simp -dsimp only[go_sem,seval];rfl,am,am⟩ ?_
 rintro j f u H z bs hj ⟨w,m,e,d⟩;have hw:=aB j aa;refine aw w ?_;refine aR w ?_ ?_<;>intro h
 ·obtain⟨a,o,P⟩:=au ‹j<s.set.length›;obtain⟨U,W⟩:=O a P;have N:=pf a.to c.mem c.mem;have Ac:(bp c.mem c.mem (s.set.take j)).length=c.mem.length:=iE c.mem _ c.mem;have q:=gz (l:=bp c.mem c.mem (s.set.take j)) (i:=a.cell.toNat) aa;have k:=dV (bp c.mem c.mem (s.set.take j)) a.cell.toNat (a.to.eval c.mem c.mem);rw[<- wG o]at k;refine dG w o N U W m q ?_;refine⟨aa,ak hw,ak k,ak e,ak d⟩
 ·have:j=s.set.length:=aa
  subst this;rw[be]at m;have q:=gz (l:=c.at_) (i:=t) aa;have k:=dV c.at_ t s.to;have M:(t:Int)<(c.at_.length:Int):=aa
  have t0:(0:Int)<=(t:Int):=aa
  have S:t<c.at_.length:=aa
  have D:List.take p.threads.length (List.replicate p.threads.length [V.t T.nils])=List.replicate p.threads.length [V.t T.nils]:=ec af;have B:c.buf.length=p.threads.length:=l3;have F:=fun h=>ul h p.threads.length
  have E:List.take c.mem.length (ai (bp c.mem c.mem s.set))=ai (bp c.mem c.mem s.set):=ec (by rw[aC,iE]);have I:(ai (bp c.mem c.mem s.set)).length=c.mem.length:=by rw[aC,iE]
  simp -dsimp only[go_sem,seval,e,q,M,S,k,aC,cL]
  by_cases g:s.kind=6
  ·obtain⟨K,_⟩:=C.tgt (.inl g);simp only[inR,aQ]at K;have q1:s.target<(c.at_.length:Int):=aa
   have q2:=K.1;have Q:=gz (l:=c.at_.set t s.to) (i:=s.target.toNat) (by simp;omega);have R:=dV (c.at_.set t s.to) s.target.toNat 0;have r:List.take c.at_.length (ai ((c.at_.set t s.to).set s.target.toNat 0))=ai ((c.at_.set t s.to).set s.target.toNat 0):=ec (by rw[aC];simp);simp -dsimp only[go_sem,seval,g,q1,q2,Q,R,m,d,D,F,E,I,r,aC,cL,iB,ay,gY,B];simp[hU,g,tr]
  ·have r:List.take c.at_.length (ai (c.at_.set t s.to))=ai (c.at_.set t s.to):=ec (by rw[aC];simp);simp -dsimp only[go_sem,seval,g,m,d,D,F,E,I,r,aC,cL,iB,ay,gY,B];simp[hU,g,tr]
theorem kap (p:Prog) (v:p.sane) (c:Config) (z:c.sane) (x:Choice):Den Γ G 18 [(zP p),(.agg [.t (ints (c).mem),.t (ints (c).at_),.t (.sl ((c).buf.map (fun b=>[.sl (b.map Entry.enc)])))]),(.agg [.t (ti (x).thread),.t (ti (x).step),.t (ti (x).cell)])]=some (.tup [(.agg [.t (ints ((jZ p c x).1).mem),.t (ints ((jZ p c x).1).at_),.t (.sl (((jZ p c x).1).buf.map (fun b=>[.sl (b.map Entry.enc)])))]),vi (jZ p c x).2]):=by
 refine aD (q:=?_)
 have C:=wX p v;refine aw C ?_;cases a:aN p
 ·refine aA ?_;simp[jZ,a,eQ]
 ·have D:=Nl p a c z;refine aw D ?_;cases k:isM p c
  ·refine aA ?_;simp[jZ,a,k,eQ]
  ·have E:=IH p a c k
   have J:(fG p c).length<2^40:=by
    have:=tJ a c p.threads.length;have:=(cS (cT a).1).1;unfold fG;omega
   have g:jZ p c x=if pq (fG p c) x then(rP p c x,0)else(eQ,110):=by simp[jZ,a,k]
   refine aw E ?_;refine a8 68702700224 (fG p c).length (fun i f=>(f 24).v=vi i/\(f 6).v= .lb/\(f 6).box=some [.t .nils,.t .nils,.t .nils]/\pq (fG p c) x=((fG p c).drop i).any fun y=>decide (y=x)) rfl rfl ⟨am,am,am,rfl⟩ ?_;rintro i f u K bb hi ⟨e,n,b2,d⟩;have I:=aB i aa;refine aw e ?_;refine aR e ?_ ?_<;>intro h
   ·obtain⟨y,q,Eq⟩:=au ‹i<(fG p c).length›;have H:=yf x y;refine bN e q H @Bool.bne_false ?_;refine aR e ?_ ?_<;>intro h
    ·have l:x=y:=al h
     rw[xE q (al l.symm)]at d;obtain⟨t,w,j,s,o,m,_,r⟩:=wo.1 Eq;have B:=zL o;have A:=XF p a c k t w o j s m x (l.trans r) (v.sets w B s (zL m))
     have F:rP p c x=hU p c t s:=by
      rw[l,r];simp[rP,li,o,m]
     rw[d,ah rfl,F]at g;rw[g];exact ds A n b2
    ·refine⟨aa,ak I,ak n,ak b2,?_⟩;rw[d,xF q (by simpa[eq_comm]using h)]
   ·have:i=(fG p c).length:=aa
    subst this;rw[y7]at d;rw[d]at g;rw[g];refine aJ n b2 ?_;simp[eQ]
theorem V2 {α β:Type} {l:List α} {m:List β} (h:l.length=m.length):(l.zip m).length=l.length:=by rw[kj];omega
theorem ST {α:Type} [DecidableEq α]: ∀{a b:List α},a.length=b.length->((a.zip b).all fun q=>decide (q.1=q.2))=decide (a=b)
 | [],[],_=>rfl
 | [],_::_,h=>by simp at h
 | _::_,[],h=>by simp at h
 | x::a,y::b,h=>by
   simp only[d_,Nat.add_right_cancel_iff]at h;rw[wk,ey,ST h]
   by_cases c:x=y<;>by_cases d:a=b<;>simp[c,d]
theorem Vz (a b:List Choice) (r:a.length<2^48):Den Γ G 40 [.t (.sl (a.map Choice.enc)),.t (.sl (b.map Choice.enc))]=some (vb (decide (a=b))):=by
 refine aD (q:=aA ?_)
 by_cases e:a.length=b.length
 ·have j:decide (¬(a.length:Int)=b.length)=false:=by simp[e]
  refine aw j ?_;rw[<- ST e];have n:=V2 e;refine a8 67106864 a.length (fun i f=>(f 5).v=vi i/\((a.zip b).all fun q=>decide (q.1=q.2))=((a.zip b).drop i).all fun q=>decide (q.1=q.2)) rfl rfl ⟨am,rfl⟩ ?_;rintro i f u s bb hi ⟨c,g⟩;have p:=aB i aa;refine aw c ?_;refine aR c ?_ ?_<;>intro h
  ·obtain⟨x,l,_⟩:=au ‹i<a.length›;obtain⟨y,m,_⟩:=au (show i<b.length from aa);have d:=qP l m;have o:=yf x y;refine bT c l m o @Bool.bne_true ?_;cases k:decide (x=y)
   ·refine aw c ?_;rw[g,ed d (al k)]
   ·refine aw c ?_;refine⟨aa,ak p,?_⟩;rw[g,ee d (al k)]
  ·have:i=a.length:=aa
   subst this;have d:=ek (fun q:Choice×Choice=>decide (q.1=q.2)) (a.zip b);rw[n]at d;rw[g,d]
 ·have j:decide (¬(a.length:Int)=b.length)=true:=by simp;omega
  refine aw j ?_;have : ¬a=b:=fun h=>e (by rw[h])
  simp[this]
end Rg
end
section
-- FULL
namespace Rg
open Go
structure Prog.lite (p:Prog):Prop where
 steps: ∀x∈p.threads,x.steps.length<2^50
 cname: ∀c∈p.cells,c.name.size<2^50
 mname: ∀m∈p.modules,m.name.size<2^50/\m.owner.size<2^50
 tname: ∀t∈p.threads,t.name.size<2^50
theorem Y6 {l:List Thread}: ∀{n:Int},l0 n l=true->0<=n-> ∀x∈l,x.steps.length<=24/\x.asserts.length<=48/\x.modules.length<=48/\x.loops.length<=8/\j7 x=true:=by
 induction l with
 | nil=>intro n _ _ x a;simp at a
 | cons y r c=>
   intro n h d x a;rw[l0]at h;split at h
   ·simp at h
   ·rename_i b;simp only[ml,rI]at b;rcases cj.1 a with rfl | a
    ·refine⟨aa,aa,aa,aa,b.2.2.2.2⟩
    ·exact c h aa x a
theorem P_ {p:Prog} (g:p.lite) (h:i8 p=true):p.sane:=by
 simp only[i8,zF,aQ,zN]at h;obtain⟨⟨⟨⟨⟨⟨q,r⟩,u⟩,v⟩,k⟩,n⟩,w⟩:=h;have i:=Y6 k aa;refine⟨aa,aa,aa,aa,g.cname,?_,?_,?_,?_⟩
 ·intro m f;have:=n m f;simp only[lM,zF,aQ]at this;exact⟨(g.mname m f).1,(g.mname m f).2,aa⟩
 ·intro t f;obtain⟨a,b,c,d,_⟩:=i t f;exact⟨g.tname t f,aa,aa,aa,aa⟩
 ·intro t f s o;obtain⟨_,_,_,_,e⟩:=i t f;simp only[j7,zF,zN,md,aQ]at e;have:=e.1.1 s o;omega
 ·intro t f l j;obtain⟨_,_,_,_,e⟩:=i t f;simp only[j7,zF,zN,ng,aQ]at e;have:=e.2 l j;omega
end Rg
end
section
-- FULL
namespace Rg
open Go
end Rg
end
section
-- FULL
namespace Rg
open Go
structure IsC (p:Prog) (c:Config):Prop where
 lm:c.mem.length=p.cells.length
 la:c.at_.length=p.threads.length
 lb:c.buf.length=p.threads.length
 mem: ∀(i:Nat) (v:Int) (y:Cell),c.mem[i]? =some v->p.cells[i]? =some y->0<=v/\v<2^y.w.toNat
 at_: ∀(i:Nat) (a:Int) (x:Thread),c.at_[i]? =some a->p.threads[i]? =some x-> -1<=a/\a<x.points/\(a= -1->x.asleep=true)
 buf: ∀b∈c.buf,b=[]
theorem kbY {α β:Type} {l:List α} {m:List β} {f:α×β->Bool}:(l.zip m).all f=true<-> ∀(i:Nat) (a:α) (b:β),l[i]? =some a->m[i]? =some b->f (a,b)=true:=by
 rw[zN];constructor
 ·intro h i a b c d;exact h _ (zL (qP c d))
 ·intro h q e;obtain⟨i,hi⟩:=eH e;rw[oH]at hi;exact h i _ _ hi.1 hi.2
theorem mW {p:Prog} {c:Config}:isM p c=true<->IsC p c:=by
 simp only[isM,jl,zF,aQ,kbY];simp only[iK,ic,zN,zF,aQ,eI,lA,d8,ni,List.isEmpty_iff];constructor
 ·rintro⟨⟨⟨⟨⟨g,j⟩,k⟩,b⟩,l⟩,m⟩
  exact⟨g,j,l,k,fun i a x d e=>⟨(b i a x d e).1.1,(b i a x d e).1.2,fun f=>by
   rcases(b i a x d e).2 with h | h
   ·exact absurd f h
   ·exact h⟩,m⟩
 ·rintro⟨g,j,l,k,b,m⟩;refine⟨⟨⟨⟨⟨g,j⟩,k⟩,fun i a x d e=>⟨⟨(b i a x d e).1,(b i a x d e).2.1⟩,?_⟩⟩,l⟩,m⟩
  by_cases f:a= -1
  ·exact .inr ((b i a x d e).2.2 f)
  ·exact .inl f
theorem Pm {p:Prog} (c:aN p=true):isM p (dz p)=true:=by
 rw[mW,dz,ah c];refine⟨af,af,af,?_,?_,?_⟩
 ·intro i v y f j;simp only[zJ,j,cZ,zA]at f;subst f;exact(qm c (zL j)).2.2
 ·intro i a x d g;simp only[zJ,g,cZ,zA]at d;have:=qb c g;subst d;split
  ·rename_i h;exact⟨aa,aa,fun _=>h⟩
  ·exact⟨aa,aa,aa⟩
 ·intro b e;simp only[cy]at e;obtain⟨_,_,rfl⟩:=e;rfl
theorem MH (e:Expr) (b a:List Int):0<=e.eval b a/\e.eval b a<2^e.w.toNat:=by
 unfold Expr.eval;split
 ·rename_i h;exact tV b a 40 e (lY h)
 ·exact⟨aa,iL _⟩
theorem xv {p:Prog} {view:List Int}: ∀{set:List Assign} {c:List Int},
 (∀a∈set,∃y,p.cells[a.cell.toNat]? =some y/\a.to.w=y.w)->
 (∀(i:Nat) (v:Int) (y:Cell),c[i]? =some v->p.cells[i]? =some y->0<=v/\v<2^y.w.toNat)->
 ∀(i:Nat) (v:Int) (y:Cell),(bp c view set)[i]? =some v->p.cells[i]? =some y->0<=v/\v<2^y.w.toNat
 | [],c,_,hm=>hm
 | a::r,c,hw,hm=>by
   have:bp c view (a::r)=bp (c.set a.cell.toNat (a.to.eval view view)) view r:=rfl;rw[this];refine xv (fun b h=>hw b (gt _ h)) ?_;intro i v y d e;rw[cx]at d;split at d
   ·rename_i hi;split at d
    ·cases d;obtain⟨z,f,g⟩:=hw a fh;rw[hi,e]at f;cases f;rw[<- g];exact MH _ _ _
    ·simp at d
   ·exact hm i v y d e
theorem kaG {p:Prog} (l:aN p=true) {c:Config} (f:isM p c=true) {t i:Nat} {x:Thread} {s:Step} (m:p.threads[t]? =some x) (o:x.steps[i]? =some s):isM p (hU p c t s)=true:=by
 rw[mW]at f⊢;have h:=kX l m o;refine⟨by simp only[hU,iE];exact f.lm,?_,by simp[hU],?_,?_,?_⟩
 ·simp only[hU];split<;>simp <;>exact f.la
 ·exact xv h.wid f.mem
 ·have g: ∀(j:Nat) (a:Int) (z:Thread),(c.at_.set t s.to)[j]? =some a->p.threads[j]? =some z-> -1<=a/\a<z.points/\(a= -1->z.asleep=true):=by
   intro j a z d e;rw[cx]at d;split at d
   ·rename_i n;split at d
    ·cases d;subst n;rw[m]at e;cases e;have:=h.to;exact⟨aa,aa,aa⟩
    ·simp at d
   ·exact f.at_ j a z d e
  intro j a z d e;simp only[hU]at d;split at d
  ·rw[cx]at d;split at d
   ·split at d
    ·cases d;have:=qb l e;exact⟨aa,aa,aa⟩
    ·simp at d
   ·exact g j a z d e
  ·exact g j a z d e
 ·intro b k;simp only[hU,cy]at k;obtain⟨_,_,rfl⟩:=k;rfl
theorem Sn {p:Prog} (e:aN p=true) {c:Config} (d:isM p c=true) {y:Choice} (f:y∈fG p c):
 ∃(t:Nat) (x:Thread) (i:Nat) (s:Step),p.threads[t]? =some x/\x.steps[i]? =some s/\ir p c t s=true/\y=⟨t,i,0⟩/\jZ p c y=(hU p c t s,0)/\isM p (hU p c t s)=true:=by
 obtain⟨t,x,i,s,b,a,g,rfl⟩:=wo.1 f;refine⟨t,x,i,s,b,a,g,rfl,?_,kaG e d b a⟩;rw[jZ,e,d];simp only[v_,aU,(Sa _ _).2 f];simp[rP,li,b,a]
theorem X9 {p:Prog} (b:aN p=true) {c:Config} (a:isM p c=true):pM p c=fG p c:=by
 rw[pM,b,a];rfl
namespace Expr
mutual
def mapL (f:Expr->Expr):Expr->Expr
 | .mk o w n []=>f (.mk o w n [])
 | .mk o w n (k::ks)=> .mk o w n (mapL f k::Tn f ks)
def Tn (f:Expr->Expr):List Expr->List Expr
 | []=>[]
 | e::r=>mapL f e::Tn f r
end
end Expr
def asg (set:List Assign) (c:Int):Option Expr:=(set.find? fun a=>decide (a.cell=c)).map Assign.to
structure SetOk (p:Prog) (set:List Assign):Prop where
 rng: ∀a∈set,inR a.cell p.cells.length=true/\a.to.valid p.cells false=true
 wid: ∀a∈set,∃y,p.cells[a.cell.toNat]? =some y/\a.to.w=y.w
 dif: ∀(i j:Nat) (a b:Assign),set[i]? =some a->set[j]? =some b->a.cell=b.cell->i=j
def wOf (p:Prog) (c:Int):Nat:=match p.cells[c.toNat]? with
 | some x=>x.w.toNat
 | none=>0
def stM (p:Prog):List Int->Int->List Int->List Int
 | [],_,s=>s
 | c::r,n,s=>stM p r (n/ 2^wOf p c) (s.set c.toNat (n % 2^wOf p c))
def cO (p:Prog) (l:List Int):Nat:=(l.map (wOf p)).sum
theorem vj {p:Prog}: ∀(l:List Int) (n:Int) (s:List Int),(stM p l n s).length=s.length
 | [],_,_=>rfl
 | c::r,n,s=>by rw[stM,vj r];simp
def rO (p:Prog) (l:List Int) (A V:Expr) (x:List Int×Int) (n:Nat):List Int×Int:=
 (stM p l n x.1,if A.eval (stM p l n x.1) (stM p l n x.1)=1 then(if V.eval (stM p l n x.1) (stM p l n x.1)>x.2 then V.eval (stM p l n x.1) (stM p l n x.1)else x.2)else x.2)
def dp (p:Prog) (l:List Int) (A V:Expr) (k:Nat):List Int×Int:=(List.range k).foldl (rO p l A V) (List.replicate p.cells.length 0,0)
def zr (p:Prog) (l:List Int) (A V:Expr):Int:=(dp p l A V (2^cO p l)).2
theorem uc (p:Prog) (l:List Int) (A V:Expr) (k:Nat):dp p l A V (k+1)=rO p l A V (dp p l A V k) k:=by
 rw[dp,sW,iD];rfl
theorem xn (p:Prog) (l:List Int) (A V:Expr): ∀k,(dp p l A V k).1.length=p.cells.length
 | 0=>by simp[dp]
 | k+1=>by rw[uc,rO];simp only[vj];exact xn p l A V k
def cg (l:Loop) (a:Int):Bool:=decide (a=l.head)||l.body.contains a
def bH (t:Int) (x:Choice):Bool:=decide (x.thread=t)&&decide (x.step≠ -1)
structure It where
 c:Config
 best:Int
 arr:Int
def It.see (l:Loop) (s:It) (b:Config) (a:Int) (mv:Bool):It:=
 ⟨b,if(if !cg l a then 0 else if mv&&decide (a=l.head)then s.arr+1 else s.arr)-1>s.best then(if !cg l a then 0 else if mv&&decide (a=l.head)then s.arr+1 else s.arr)-1 else s.best,
   if !cg l a then 0 else if mv&&decide (a=l.head)then s.arr+1 else s.arr⟩
def itS (nx:Config->Choice->Config) (t:Int) (l:Loop) (s:It) (x:Choice):It:=
 s.see l (nx s.c x) (atI (nx s.c x).at_ t) (bH t x||decide (atI s.c.at_ t= -1))
def it0 (t:Int) (l:Loop) (c:Config):It:=⟨c,0,if atI c.at_ t=l.head then 1 else 0⟩
def itM (nx:Config->Choice->Config) (t:Int) (l:Loop) (c:Config) (a:List Choice):It:=a.foldl (itS nx t l) (it0 t l c)
theorem kbj (nx:Config->Choice->Config) (t:Int) (l:Loop) (c:Config) (a:List Choice) (x:Choice):itM nx t l c (a++[x])=itS nx t l (itM nx t l c a) x:=by
 rw[itM,iD];rfl
structure It.Ok (t:Int) (s:It) (n:Int):Prop where
 b0:0<=s.best
 a0:0<=s.arr
 ab:s.arr<=s.best+1
 bn:s.best<=n
 an:s.arr<=n+1
 az:atI s.c.at_ t= -1->s.arr=0
theorem It.Ok.init {t:Int} {l:Loop} {c:Config} (a:l.head≠ -1):(it0 t l c).Ok t 0:=by
 refine⟨iN _,?_,?_,iN _,?_,fun h=> ?_⟩<;>simp only[it0]at * <;>(try split)<;>(try omega)
theorem It.Ok.step {nx:Config->Choice->Config} {t:Int} {l:Loop} {s:It} {n:Int} (h:s.Ok t n) (m:cg l (-1)=false) (x:Choice):
 (itS nx t l s x).Ok t (n+if bH t x then 1 else 0)/\s.best<=(itS nx t l s x).best/\(itS nx t l s x).best<=s.best+1:=by
 obtain⟨p,q,r,u,v,k⟩:=h
 generalize g:nx s.c x=j
 generalize c:atI j.at_ t=a
 have o:(0:Int)<=(if bH t x=true then 1 else 0):=by split<;>omega
 have i:(bH t x||decide (atI s.c.at_ t= -1))=true->(bH t x=true\/s.arr=0):=by
  intro h;simp only[fg,aQ]at h;exact h.imp id k
 have d:cg l a=true->a≠ -1:=fun h e=>by rw[e,m]at h;cases h
 simp only[itS,It.see,g,c];cases hi:cg l a
 ·simp only[lr,aU];refine⟨⟨?_,?_,?_,?_,?_,?_⟩,?_,?_⟩<;>(try dsimp only)<;>(try split)<;>(try omega)
 ·simp only[jq,aX,zG];cases f:(bH t x||decide (atI s.c.at_ t= -1))&&decide (a=l.head)
  ·simp only[aX,zG];refine⟨⟨?_,?_,?_,?_,?_,fun e=>absurd (c.symm.trans e) (d hi)⟩,?_,?_⟩<;>(try dsimp only)<;>(try split)<;>(try omega)
  ·simp only[aU];simp only[zF]at f;have b:=i f.1;refine⟨⟨?_,?_,?_,?_,?_,fun e=>absurd (c.symm.trans e) (d hi)⟩,?_,?_⟩<;>(try dsimp only)
   all_goals(rcases b with b | b<;>(try rw[b])<;>(try simp only[aU])<;>(try split)<;>omega)
inductive Rch (E:Nat->Nat->Prop):Nat->Nat->Prop where
 | refl (a:Nat):Rch E a a
 | cons {a b c:Nat} (h:E a b) (r:Rch E b c):Rch E a c
theorem Rch.trans {E:Nat->Nat->Prop} {a b c:Nat} (e:Rch E a b) (d:Rch E b c):Rch E a c:=by
 induction e with
 | refl=>exact d
 | cons h _ f=>exact .cons h (f d)
theorem Rch.snoc {E:Nat->Nat->Prop} {a b c:Nat} (d:Rch E a b) (e:E b c):Rch E a c:=d.trans (.cons e (.refl _))
structure DfsOrd (E:Nat->Nat->Prop) (ord:List Nat) (S:Nat->Nat->Prop):Prop where
 succ: ∀(i u v:Nat),ord[i]? =some u->E u v->S i v
 mono: ∀(i j v:Nat),i<=j->j<ord.length->S i v->S j v
 gray: ∀(i u v:Nat),ord[i]? =some u->S i v->(∃j,j<=i/\ord[j]? =some v)\/Rch E v u
inductive Pln (E:Nat->Nat->Prop) (ord:List Nat) (m r:Nat):Nat->Nat->Prop where
 | root (h:ord[m]? =some r):Pln E ord m r 0 r
 | step {k j v a:Nat} (hj:ord[j]? =some a) (hm:j<=m) (h:E a v) (t:Pln E ord m r k v):Pln E ord m r (k+1) a
theorem Pln.at {E:Nat->Nat->Prop} {a:List Nat} {m r k u:Nat} (h:Pln E a m r k u): ∃j,j<=m/\a[j]? =some u:=by
 cases h with
 | root h=>exact⟨m,ay _,h⟩
 | step b c _ _=>exact⟨_,c,b⟩
theorem Pln.rch {E:Nat->Nat->Prop} {a:List Nat} {m r k u:Nat} (h:Pln E a m r k u):Rch E u r:=by
 induction h with
 | root h=>exact .refl _
 | step _ _ h _ b=>exact .cons h b
theorem Pln.first {E:Nat->Nat->Prop} {b:List Nat} {S:Nat->Nat->Prop} (e:DfsOrd E b S) {m r i:Nat} (o:i<m) {k w:Nat} (h:Pln E b m r k w) (f:S i w):
 ∃c w' j,Pln E b m r c w'/\c<=k/\b[j]? =some w'/\i<j/\S i w':=by
 induction h with
 | root h=>exact⟨0,r,m,.root h,ay _,h,o,f⟩
 | @step k j v a hj hm he t d=>
   rcases bw i j with l | n
   ·exact⟨k+1,a,j,.step hj hm he t,ay _,hj,l,f⟩
   ·have hi:i<b.length:=by
     obtain⟨g,s,y⟩:=t.at
     have:m<b.length:=by
      have : ∀{k u},Pln E b m r k u->m<b.length:=by
       intro k u h
       induction h with
       | root h=>exact(zH.1 h).1
       | step _ _ _ _ d=>exact d
      exact this t
     omega
    obtain⟨c,w',g,p,x,q⟩:=d (e.mono j i v n hi (e.succ j a v hj he));exact⟨c,w',g,p,aa,q⟩
theorem kah {E:Nat->Nat->Prop} {a:List Nat} {S:Nat->Nat->Prop} (c:DfsOrd E a S) (l:a.Nodup) {m r:Nat}: ∀(n k u:Nat),k<=n->Pln E a m r k u->Rch E r u:=by
 intro n
 induction n with
 | zero=>
   intro k u w h
   cases h with
   | root h=>exact .refl _
   | step _ _ _ _=>omega
 | succ n d=>
   intro k u w h
   cases h with
   | root h=>exact .refl _
   | @step k j v _ hj hm he t=>
     rcases bw j m with e | e
     ·obtain⟨y,w',x,o,z,p,A,q⟩:=t.first c e (c.succ j u v hj he);have b:=d y w' aa o;rcases c.gray j u w' hj q with⟨i,hi,f⟩ | s
      ·have g:=(zH.1 f).1;have:i=x:=(wh g l).1 (f.trans p.symm);omega
      ·exact b.trans s
     ·have b:a[m]? =some r:=by
       have : ∀{k u},Pln E a m r k u->a[m]? =some r:=by
        intro k u h
        induction h with
        | root h=>exact h
        | step _ _ _ _ d=>exact d
       exact this t
      have:j=m:=aa
      subst this;rw[hj]at b;cases b;exact .refl _
def ix (E:Nat->List (Nat×Choice)):Nat->List Choice->Nat->Prop
 | u,[],w=>u=w
 | u,x::r,w=> ∃v,(v,x)∈E u/\ix E v r w
theorem ix.app {E:Nat->List (Nat×Choice)}: ∀{r s:List Choice} {u v w:Nat},ix E u r v->ix E v s w->ix E u (r++s) w
 | [],s,u,v,w,h1,h2=>by cases h1;exact h2
 | x::r,s,u,v,w,⟨v',h,h1⟩,h2=>⟨v',h,ix.app h1 h2⟩
def kT (E:Nat->List (Nat×Choice)) (u v:Nat):Prop:= ∃x,(v,x)∈E u
theorem ix.rch {E:Nat->List (Nat×Choice)}: ∀{r:List Choice} {u w:Nat},ix E u r w->Rch (kT E) u w
 | [],u,w,h=>by cases h;exact .refl _
 | x::r,u,w,⟨v,h,hr⟩=> .cons ⟨x,h⟩ (ix.rch hr)
structure PathOk (E:Nat->List (Nat×Choice)) (s n:Nat) (par:List Int) (ch:List Choice) (q:List Nat) (i:Nat):Prop where
 lp:par.length=n
 lc:ch.length=n
 le:i<=q.length
 z:q[0]? =some s
 nd:q.Nodup
 lt: ∀v∈q,v<n
 met: ∀v,v<n->(v∈q<->par.getD v (-1)≠ -1)
 pre: ∀(j v:Nat),0<j->q[j]? =some v-> ∃(k u:Nat),k<j/\q[k]? =some u/\par.getD v (-1)=u/\(v,ch.getD v ⟨0,0,0⟩)∈E u
 cl: ∀(j u:Nat),j<i->q[j]? =some u-> ∀e∈E u,e.1<n->e.1∈q
theorem PathOk.add {E:Nat->List (Nat×Choice)} {s n:Nat} {d:List Int} {m:List Choice} {q:List Nat} {i u v:Nat} {x:Choice} (h:PathOk E s n d m q i) (y:q[i]? =some u) (P:(v,x)∈E u) (g:v<n)
 (A:d.getD v (-1)= -1):PathOk E s n (d.set v u) (m.set v x) (q++[v]) i:=by
 have r:v∉ q:=fun O=>(h.met v g).1 O A
 have G:=(zH.1 y).1;refine⟨by simp[h.lp],by simp[h.lc],by simp;omega,by rw[bU aa];exact h.z,?_,?_,?_,?_,?_⟩
 ·rw[o9];exact⟨h.nd,af,fun a M b t C=>by simp only[bB]at t;subst t C;exact r M⟩
 ·intro w c;rcases cz.1 c with c | c
  ·exact h.lt w c
  ·simp only[bB]at c;subst c;exact g
 ·intro w c;have l:v<d.length:=by rw[h.lp];exact g
  by_cases f:v=w
  ·subst f;simp[zK,cx,l]
  ·have:=h.met w c;simp only[cz,bB,zK,cx,ac f]at this⊢;rw[this];exact⟨fun o=>o.resolve_right fun e=>f e.symm,.inl⟩
 ·intro j w p c;rcases bw j q.length with z | B
  ·rw[bU z]at c;obtain⟨k,Q,I,J,K,L⟩:=h.pre j w p c;have f:v≠w:=fun e=>r (e▸zL c)
   refine⟨k,Q,I,by rw[bU aa];exact J,?_,?_⟩
   ·simpa[zK,cx,ac f]using K
   ·simpa[zK,cx,ac f]using L
  ·rw[eJ B]at c
   have H:j-q.length=0:=by
    have:=(zH.1 c).1;simp at this;omega
   rw[H]at c;cases c;have l:v<d.length:=by rw[h.lp];exact g
   have F:v<m.length:=by rw[h.lc];exact g
   refine⟨i,u,aa,by rw[bU G];exact y,?_,?_⟩
   ·simp[zK,cx,l]
   ·simpa[zK,cx,F]using P
 ·intro j w p c e N D;have:=h.le;rw[bU aa]at c;exact ii _ (h.cl j w p c e N D)
theorem PathOk.back {E:Nat->List (Nat×Choice)} {s n:Nat} {b:List Int} {c:List Choice} {q:List Nat} {i:Nat} (h:PathOk E s n b c q i): ∀(j v:Nat),q[j]? =some v->Rch (kT E) s v:=by
 intro j
 induction j using Nat.strongRecOn with
 | _ j l=>
   intro v a
   by_cases g:j=0
   ·subst g;rw[h.z]at a;cases a;exact .refl _
   ·obtain⟨k,u,d,e,m,f⟩:=h.pre j v aa a;exact(l k d u e).snoc ⟨_,f⟩
theorem PathOk.all {E:Nat->List (Nat×Choice)} {s n:Nat} {d:List Int} {l:List Choice} {q:List Nat} (h:PathOk E s n d l q q.length) (m: ∀u,u<n-> ∀e∈E u,e.1<n) {w:Nat} (p:Rch (kT E) s w):w∈q:=by
 have c: ∀{a b:Nat},Rch (kT E) a b->a∈q->b∈q:=by
  intro a b k
  induction k with
  | refl=>exact id
  | cons o _ r=>
    intro f;obtain⟨x,i⟩:=o;obtain⟨j,g⟩:=eH f;exact r (h.cl j _ (zH.1 g).1 g _ i (m _ (h.lt _ f) _ i))
 exact c p (zL h.z)
theorem StepOk.set {p:Prog} {t:Int} {x:Thread} {s:Step} (h:StepOk p t x s):SetOk p s.set:=⟨h.rng.2,h.wid,h.dif⟩
end Rg
end
section
set_option maxRecDepth 10000
namespace Rg
open Go
end Rg
end
section
set_option maxRecDepth 10000
namespace Rg
open Go
structure Proper (p:Prog) (e:Entry):Prop where
 ne:e.cells≠[]
 len:e.values.length=e.cells.length
 nd:e.cells.Nodup
 cell: ∀(i:Nat) (n v:Int),e.cells[i]? =some n->e.values[i]? =some v->0<=n/\ ∃y,p.cells[n.toNat]? =some y/\y.thread= -1/\y.ghost=decide (0<i)/\0<=v/\v<2^y.w.toNat
structure IsB (p:Prog) (c:Config):Prop where
 lm:c.mem.length=p.cells.length
 la:c.at_.length=p.threads.length
 lb:c.buf.length=p.threads.length
 mem: ∀(i:Nat) (v:Int) (y:Cell),c.mem[i]? =some v->p.cells[i]? =some y->0<=v/\v<2^y.w.toNat
 at_: ∀(i:Nat) (a:Int) (x:Thread),c.at_[i]? =some a->p.threads[i]? =some x-> -1<=a/\a<x.points/\(a= -1->x.asleep=true)
 buf: ∀(t:Nat) (b:List Entry),c.buf[t]? =some b->b.length<=3/\(∀e∈b,Proper p e)/\(c.at_[t]? =some (-1)->b=[])
def d5 (m:List Int) (e:Entry):List Int:=(e.cells.zip e.values).foldl (fun m q=>m.set q.1.toNat q.2) m
def aF (c:Config) (t:Nat):List Entry:=c.buf.getD t []
def aM (c:Config) (t:Nat):List Int:=(aF c t).foldl d5 c.mem
def lR (a b:Entry):Bool:=b.cells.any fun n=>a.cells.contains n
def jh (older:List Entry) (e:Entry):Bool:=older.any fun o=>lR o e
def dm (k:Int) (b:List Entry) (i:Nat) (e:Entry):Bool:=decide (i=0)||(decide (k=2)&& !jh (b.take i) e)
def df (p:Prog) (c:Config) (t:Nat) (s:Step):Bool:=
 decide (atI c.at_ t=s.fr)&&decide (s.guard.eval (aM c t) (aM c t)=1)&&
  (if s.kind=3 then(if s.release then decide ((aF c t).length=0)else decide ((aF c t).length<3))
   else if s.kind=4\/s.kind=5 then decide ((aF c t).length=0)
   else if s.kind=6 then decide ((aF c t).length=0)&&decide (atI c.at_ s.target= -1)
   else if s.kind=7 then decide ((aF c t).length=0)&&(decide (atI c.at_ s.target=kF p s.target-1)&&decide ((aF c s.target.toNat).length=0))
   else true)
def fH (p:Prog) (c:Config) (t:Nat) (x:Thread) (i:Nat):List Choice:=
 (x.steps.take i).zipIdx.filterMap fun q=>if df p c t q.1 then some ⟨t,q.2,0⟩else none
def ct (e:Entry):Int:=e.cells.headD 0
def iS (k:Int) (t:Nat) (b:List Entry) (i:Nat):List Choice:=
 (b.take i).zipIdx.filterMap fun q=>if dm k b q.2 q.1 then some ⟨t,-1,ct q.1⟩else none
def eK (p:Prog) (k:Int) (c:Config) (i:Nat):List Choice:=
 (p.threads.take i).zipIdx.flatMap fun q=>fH p c q.2 q.1 q.1.steps.length++iS k q.2 (aF c q.2) (aF c q.2).length
def lJ (p:Prog) (k:Int) (c:Config):List Choice:=eK p k c p.threads.length
def ba (p:Prog) (a:Assign):Bool:=cN p a.cell fun y=>decide (y.thread= -1)
def mF (p:Prog) (view:List Int) (set:List Assign):Entry:=⟨(set.filter (ba p)).map Assign.cell,(set.filter (ba p)).map fun a=>a.to.eval view view⟩
def eo (p:Prog) (c:Config) (t:Nat) (s:Step):Config:=
 ⟨bp c.mem (aM c t) (if s.kind=3 then s.set.filter (fun a=> !ba p a)else s.set),
  if s.kind=6 then(c.at_.set t s.to).set s.target.toNat 0 else c.at_.set t s.to,
  if s.kind=3 then c.buf.set t (aF c t++[mF p (aM c t) s.set])else c.buf⟩
def c7 (c:Config) (t i:Nat):Config:=match(aF c t)[i]? with
 | some e=>⟨d5 c.mem e,c.at_,c.buf.set t ((aF c t).eraseIdx i)⟩
 | none=>eQ
def lZ (k:Int) (b:List Entry) (n:Int):Option Nat:=(List.range b.length).find? fun i=>match b[i]? with
 | some e=>dm k b i e&&decide (ct e=n)
 | none=>false
def en (p:Prog) (k:Int) (c:Config) (x:Choice):Config×Int:=
 if x.thread<0\/(p.threads.length:Int)<=x.thread\/x.step< -1 then(eQ,110)
 else if x.step= -1 then(match lZ k (aF c x.thread.toNat) x.cell with
  | some i=>(c7 c x.thread.toNat i,0)
  | none=>(eQ,110))
 else match li p x with
  | some s=>if decide (x.cell=0)&&df p c x.thread.toNat s then(eo p c x.thread.toNat s,0)else(eQ,110)
  | none=>(eQ,110)
theorem RM {c:Config} {t:Nat} {b:List Entry} (h:c.buf[t]? =some b):aF c t=b:=by simp[aF,List.getD,h]
theorem fC {c:Config} {t:Nat} (h:t<c.buf.length):c.buf[t]? =some (aF c t):=by simp[aF,List.getD,zI h]
theorem tt: ∀(l:List (Int×Int)) (m:List Int),(l.foldl (fun m q=>m.set q.1.toNat q.2) m).length=m.length
 | [],m=>rfl
 | q::l,m=>by rw[iy,tt l];simp
theorem xK (m:List Int) (e:Entry):(d5 m e).length=m.length:=tt _ m
theorem qn: ∀(l:List Entry) (m:List Int),(l.foldl d5 m).length=m.length
 | [],m=>rfl
 | e::l,m=>by rw[iy,qn l,xK]
theorem kab (c:Config) (t:Nat):(aM c t).length=c.mem.length:=qn _ _
theorem J5 {p:Prog}: ∀(l:List (Int×Int)) (m:List Int),(∀q∈l,∀y,p.cells[q.1.toNat]? =some y->0<=q.2/\q.2<2^y.w.toNat)->
 (∀(i:Nat) (v:Int) (y:Cell),m[i]? =some v->p.cells[i]? =some y->0<=v/\v<2^y.w.toNat)->
 ∀(i:Nat) (v:Int) (y:Cell),(l.foldl (fun m q=>m.set q.1.toNat q.2) m)[i]? =some v->p.cells[i]? =some y->0<=v/\v<2^y.w.toNat
 | [],m,_,hm=>hm
 | q::l,m,hl,hm=>by
   rw[iy];refine J5 l _ (fun r c=>hl r (gt _ c)) ?_;intro i v y a b;rw[cx]at a;split at a
   ·rename_i hi;split at a
    ·cases a;subst hi;exact hl q fh y b
    ·simp at a
   ·exact hm i v y a b
theorem JG {p:Prog} {e:Entry} (h:Proper p e) {q:Int×Int} (f:q∈e.cells.zip e.values):0<=q.1/\ ∃y,p.cells[q.1.toNat]? =some y/\y.thread= -1/\0<=q.2/\q.2<2^y.w.toNat:=by
 obtain⟨i,hi⟩:=eH f;rw[oH]at hi;obtain⟨a,y,b,c,_,d⟩:=h.cell i q.1 q.2 hi.1 hi.2;exact⟨a,y,b,c,d⟩
theorem kaO {p:Prog} {e:Entry} (b:Proper p e) {m:List Int} (c: ∀(i:Nat) (v:Int) (y:Cell),m[i]? =some v->p.cells[i]? =some y->0<=v/\v<2^y.w.toNat):
 ∀(i:Nat) (v:Int) (y:Cell),(d5 m e)[i]? =some v->p.cells[i]? =some y->0<=v/\v<2^y.w.toNat:=by
 refine J5 _ m (fun q d y f=> ?_) c;obtain⟨_,z,a,_,h⟩:=JG b d;rw[f]at a;cases a;exact h
theorem lG {p:Prog} {e:Entry} (h:Proper p e) {n:Int} (f:n∈e.cells):0<=n/\n.toNat<p.cells.length/\ ∃y,p.cells[n.toNat]? =some y/\y.thread= -1:=by
 obtain⟨i,hi⟩:=eH f;have b:i<e.values.length:=by rw[h.len];exact(zH.1 hi).1
 obtain⟨c,y,a,d,_⟩:=h.cell i n _ hi (zI b);exact⟨c,(zH.1 a).1,y,a,d⟩
theorem us: ∀(n:Nat) (l:List Int),l.Nodup->(∀x∈l,0<=x/\x<n)->l.length<=n
 | 0,[],_,_=>ay _
 | 0,x::l,_,hl=>by have:=hl x fh;omega
 | n+1,l,Bt,hl=>by
   have h:=us n (l.erase (n:Int)) (Bt.erase _) fun x b=>by
    have a:=Bt.mem_erase_iff.1 b;have c:=hl x a.2;have d:=a.1;omega
   rw[List.length_erase]at h;split at h<;>omega
theorem gX {p:Prog} {e:Entry} (h:Proper p e):e.cells.length<=p.cells.length:=
 us _ _ h.nd fun x a=>by have:=lG h a;omega
theorem Zd {p:Prog} {a:Assign} (h:ba p a=true): ∃y,p.cells[a.cell.toNat]? =some y/\y.thread= -1:=by
 unfold ba cN at h;split at h
 ·rename_i y b;exact⟨y,b,al h⟩
 ·simp at h
theorem Xw {p:Prog} {t:Int} {s:Step} (g:s.kind=3) (h:db p t s=true): ∃a r,s.set=a::r/\fV p s false t=true/\ba p a=true/\cN p a.cell Cell.ghost=false/\
 ∀b∈r,cN p b.cell Cell.ghost=true/\e_ p t b.cell=true:=by
 rw[db,ac aa,ac aa,ah g,mE]at h;split at h
 ·simp at h
 ·rename_i a r i;simp only[zF,eI,zN]at h;obtain⟨⟨⟨c,d⟩,e⟩,f⟩:=h;obtain⟨l,y,k,j⟩:=K6 d;exact⟨a,r,i,c,by rw[ba,fo k];simpa using j,e,f⟩
theorem YW {l:List Assign} (h: ∀(i j:Nat) (a b:Assign),l[i]? =some a->l[j]? =some b->a.cell=b.cell->i=j):(l.map Assign.cell).Nodup:=by
 rw[s9,qt];intro i j hi d e c;simp only[cP]at hi d;simp only[vJ]at c;have:=h i j _ _ (zI hi) (zI d) c;omega
theorem w_ {p:Prog} {t:Int} {x:Thread} {s:Step} (d:StepOk p t x s) (B:s.kind=3) (view:List Int):Proper p (mF p view s.set):=by
 obtain⟨a,r,D,F,A,l,C⟩:=Xw B d.row;have k:s.set.filter (ba p)=a::r.filter (ba p):=by rw[D,o_,ah A]
 refine⟨by simp[mF,k],by simp[mF],?_,?_⟩
 ·exact List.Nodup.sublist ((List.filter_sublist).map _) (YW d.dif)
 ·intro i n v m j;simp only[mF,zJ,zE]at m j;obtain⟨b,c,rfl⟩:=m;obtain⟨b',h,rfl⟩:=j;rw[c]at h;cases h;have u:=zL c;obtain⟨g,q⟩:=f_.1 u;obtain⟨y,e,w⟩:=Zd q;have f:=(d.rng.2 b g).1;simp only[inR,aQ]at f;obtain⟨z,o,E⟩:=d.wid b g;rw[e]at o;cases o;refine⟨f.1,y,e,w,?_,by rw[<- E];exact MH _ _ _⟩;rw[k]at c
  cases i with
  | zero=>
    simp only[dv,zA]at c;subst c;rw[fo e]at l
    simpa using l
  | succ i=>
    simp only[lz]at c;have:=(C b (f_.1 (zL c)).1).1;rw[fo e]at this;simpa using this
theorem kaH {p:Prog} {c:Config} {t i:Nat} {x:Thread} {s:Step} (h:aN p=true) (l:p.threads[t]? =some x) (g:StepOk p t x s)
 (f: ∀(i:Nat) (a:Int) (x:Thread),c.at_[i]? =some a->p.threads[i]? =some x-> -1<=a/\a<x.points/\(a= -1->x.asleep=true)):
 ∀(i:Nat) (a:Int) (z:Thread),(if s.kind=6 then(c.at_.set t s.to).set s.target.toNat 0 else c.at_.set t s.to)[i]? =some a->p.threads[i]? =some z-> -1<=a/\a<z.points/\(a= -1->z.asleep=true):=by
 have e: ∀(j:Nat) (a:Int) (z:Thread),(c.at_.set t s.to)[j]? =some a->p.threads[j]? =some z-> -1<=a/\a<z.points/\(a= -1->z.asleep=true):=by
  intro j a z b d;rw[cx]at b;split at b
  ·rename_i k;split at b
   ·cases b;subst k;rw[l]at d;cases d;have:=g.to;exact⟨aa,aa,aa⟩
   ·simp at b
  ·exact f j a z b d
 intro j a z b d;split at b
 ·rw[cx]at b;split at b
  ·split at b
   ·cases b;have:=qb h d;exact⟨aa,aa,aa⟩
   ·simp at b
  ·exact e j a z b d
 ·exact e j a z b d
theorem wn {c:Config} {t j:Nat} {s:Step} (b:0<=s.to) (h:(if s.kind=6 then(c.at_.set t s.to).set s.target.toNat 0 else c.at_.set t s.to)[j]? =some (-1)):c.at_[j]? =some (-1):=by
 have a:(c.at_.set t s.to)[j]? =some (-1)->c.at_[j]? =some (-1):=by
  intro h;rw[cx]at h;split at h
  ·split at h
   ·simp only[zA]at h;omega
   ·simp at h
  ·exact h
 split at h
 ·rw[cx]at h;split at h
  ·split at h
   ·simp at h
   ·simp at h
  ·exact a h
 ·exact a h
theorem P' {p:Prog} (v:aN p=true) {c:Config} (d:IsB p c) {t i:Nat} {x:Thread} {s:Step} (n:p.threads[t]? =some x) (B:x.steps[i]? =some s) (m:df p c t s=true):IsB p (eo p c t s):=by
 have j:=kX v n B;have u:t<c.buf.length:=by rw[d.lb];exact(zH.1 n).1
 refine⟨by simp only[eo,iE];exact d.lm,?_,?_,?_,kaH (i:=i) v n j d.at_,?_⟩
 ·show(if s.kind=6 then _ else _:List Int).length=_;split
  ·rw[cL,cL];exact d.la
  ·rw[cL];exact d.la
 ·show(if s.kind=3 then _ else _:List (List Entry)).length=_;split
  ·rw[cL];exact d.lb
  ·exact d.lb
 ·refine xv (fun a f=> ?_) d.mem;refine j.wid a ?_
  try simp only at f
  split at f
  ·exact(f_.1 f).1
  ·exact f
 ·intro w b g;simp only[eo]at g⊢
  by_cases k:s.kind=3
  ·rw[ah k,cx]at g;split at g
   ·rename_i A;subst A
    try rw[ah u]at g
    simp only[zA]at g;subst g;have y:=d.buf t _ (fC u);refine⟨?_,?_,?_⟩
    ·simp only[df,zF,k,aU]at m;have l:=m.2;split at l
     ·have:(aF c t).length=0:=al l
      simp[this]
     ·have:(aF c t).length<3:=al l
      simp;omega
    ·intro e z;rcases cz.1 z with h | h
     ·exact y.2.1 e h
     ·rw[bB]at h;subst h;exact w_ j k _
    ·intro f;have:=wn j.to.1 f;simp only[df,zF,aQ]at m;have C:atI c.at_ t= -1:=iO (al this);have:=j.fr.1;omega
   ·obtain⟨o,q,r⟩:=d.buf w b g;exact⟨o,q,fun f=>r (wn j.to.1 f)⟩
  ·rw[ac k]at g;obtain⟨o,q,r⟩:=d.buf w b g;exact⟨o,q,fun f=>r (wn j.to.1 f)⟩
theorem Lz {p:Prog} {c:Config} (a:IsB p c) {t i:Nat} {e:Entry} (hi:(aF c t)[i]? =some e):IsB p (c7 c t i):=by
 have g:t<c.buf.length:=by
  rcases bw t c.buf.length with h | h
  ·exact h
  ·simp[aF,List.getD,gq h]at hi
 have f:=a.buf t _ (fC g);have k:c7 c t i=⟨d5 c.mem e,c.at_,c.buf.set t ((aF c t).eraseIdx i)⟩:=by simp only[c7,hi]
 rw[k];refine⟨by simp only[xK];exact a.lm,a.la,by simp;exact a.lb,kaO (f.2.1 e (zL hi)) a.mem,a.at_,?_⟩;intro n b d;rw[cx]at d;split at d
 ·rename_i j;subst j
  try rw[ah g]at d
  simp only[zA]at d;subst d;refine⟨cU (Hk _ _) f.1,fun e m=>f.2.1 e (vU m),fun l=> ?_⟩;have:=f.2.2 l;rw[this]at hi;simp at hi
 ·exact a.buf n b d
theorem YT {p:Prog} (c:aN p=true):IsB p (dz p):=by
 have h:=mW.1 (Pm c);refine⟨h.lm,h.la,h.lb,h.mem,h.at_,fun t b a=> ?_⟩;have:=h.buf b (zL a);subst this;exact⟨af,af,fun _=>rfl⟩
theorem S6 {p:Prog} {c:Config} (h:IsC p c):IsB p c:=
 ⟨h.lm,h.la,h.lb,h.mem,h.at_,fun t b a=>by
   have:=h.buf b (zL a);subst this
   exact⟨af,af,fun _=>rfl⟩⟩
theorem kcK {p:Prog} {c:Config} (h:IsB p c) (a: ∀b∈c.buf,b=[]):IsC p c:=⟨h.lm,h.la,h.lb,h.mem,h.at_,a⟩
end Rg
end
