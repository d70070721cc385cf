/- Part of the proof of laws of relyguardlaw36. No condition. -/
import Derived.Test.YtaiokglcgiemnaaGreatDoorFartAN
import Derived.Test.YtaiokglcgiemnaaGreatDoorFartAK
import Derived.Test.YtaiokglcgiemnaaGreatDoorFartAL
set_option linter.unusedSimpArgs false
set_option linter.unusedVariables false
set_option linter.defProp false
section
namespace Rg
open Go
theorem aw.cells {h:ae} {x:Nat} {v:V} {a:Nat} {rows:List (List V)} (o:aw h x v a rows):v.cells=some [v]:=by
 rcases o with⟨rfl,_⟩ | ⟨k,rfl,_,_⟩<;>rfl
def bz (p:Prog):Config:=
 if aM p then⟨p.cells.map Cell.init,p.threads.map fun x=>if x.asleep then -1 else 0,p.threads.map fun _=>[]⟩else⟨[],[],[]⟩
theorem ui (h:ae): ∀n:Nat,(List.replicate n [V.t .nils]).mapM (fun row=>row.mapM (toT h 999))=some (List.replicate n [T.sl []])
 | 0=>rfl
 | n+1=>by rw[oy,oy,cP,ui h n];rfl
theorem tm {α β:Type} (l:List α) (b:β):List.replicate l.length b=l.map fun _=>b:=by
 induction l with
 | nil=>rfl
 | cons x r a=>simp[oy,a]
theorem Yv (p:Prog) (T:p.sane):Den Γ G 13 [(zP p)]=some (.agg [.t (ints (bz p).mem),.t (ints (bz p).at_),.t (.sl ((bz p).buf.map (fun b=>[.sl (b.map Entry.enc)])))]):=by
 refine aB (q:=?_)
 have S:=Lo p T;refine aC S ?_;refine gy ?_ ?_<;>intro h
 ·simp[bz,h]
 ·have J:aM p=true:=bB
  obtain⟨⟨l1,l2,l3,l4⟩,l5⟩:=cR (cS J).1;have L:(p.threads.length:Int)<=4294967296:=aa
  refine aR L @gz ?_;have hN:(p.cells.map Cell.init).length=p.cells.length:=af
  refine aS 17179803672 p.cells.length (fun i f h x=>(f 4).v=vi i/\ ∃v0,(f 3).v= .lb/\(f 3).box=some [v0,.t .nils,.ms 8 0 p.threads.length]/\aw h x v0 1 (ai ((p.cells.map Cell.init).take i))/\aJ v0 8/\h 8=some (.rows 1 (List.replicate p.threads.length [.t .nils]) false)/\8<x)
   rfl ⟨am,.t .nils,am,am,.inl ⟨rfl,rfl⟩,(fun i n h=>by cases h),am,am⟩ ?_
  rintro i f u H x bs hi ⟨q,v0,e,j,a,P,m,I⟩;have B:=ay i aa;refine aC q ?_;refine aO q ?_ ?_<;>intro h
  ·obtain⟨c,s,_⟩:=au ‹i<p.cells.length›;have o:(p.cells.map Cell.init)[i]? =some c.init:=by simp[s]
   have l:=a.valOf;have Z:=a.r2;have v3:=a.r3;refine gx q s e j l Z v3 ?_;refine bY (a.upd aa _) aa (by rw[aA];simp;omega) aG rfl (ey _) ?_;intro v hp g z w;rw[show ai ((p.cells.map Cell.init).take i)++[[V.t (ti c.init)]]=ai ((p.cells.map Cell.init).take (i+1))from by rw[a8 o,fy]]at g
   have A:At (updC H (x+5+8) (some (O.rows 1 [[V.t (ti c.init)]] false))) hp 8=some (.rows 1 (List.replicate p.threads.length [.t .nils]) false):=by
    rw[w 8 aa P,aq,ac aa];exact m
   have F:=g.valOf;have t:=g.cells;simp only[V.cells]at t;refine cN q e j F t ?_;refine⟨aa,al B,v,al e,am,?_,z 8 aa,al A,?_⟩
   ·refine aE ?_;exact g.le aa
   ·refine aE ?_;omega
  ·have:i=p.cells.length:=aa
   subst this;rw[show(p.cells.map Cell.init).take p.cells.length=p.cells.map Cell.init from de af]at a
   generalize C:(p.threads.map fun x=>if x.asleep then(-1:Int)else 0)=d
   have FH:d.length=p.threads.length:=by rw[<- C];simp
   refine aS 9007182074871912 p.threads.length (fun i f h x=>(f 5).v=vi i/\ ∃l,(f 3).v= .lb/\(f 3).box=some [v0,l,.ms 8 0 p.threads.length]/\aw h x v0 1 (ai (p.cells.map Cell.init))/\aw h x l 1 (ai (d.take i))/\
    aJ l 8/\(∀k,k<x-> ¬aJ v0 k->aJ l k)/\h 8=some (.rows 1 (List.replicate p.threads.length [.t .nils]) false)/\8<x)
    rfl ⟨am,.t .nils,al e,al j,by simp -dsimp only[go_sem,seval];exact a.le aa,.inl ⟨rfl,rfl⟩,(fun i n h=>by cases h),(fun k _ _ i n h=>by cases h),al m,av⟩ ?_
   clear q B a e j m I;rintro i f u H x bs hi ⟨r,l,e,j,D,a,R,N,m,I⟩;have B:=ay i aa;refine aC r ?_;refine aO r ?_ ?_<;>intro h
   ·obtain⟨c,s,_⟩:=au ‹i<p.threads.length›;have o:d[i]? =some (if c.asleep then(-1:Int)else 0):=by rw[<- C];simp[s]
    have w1:=a.valOf;have w2:=a.r2;have w3:=a.r3;have w4:=a.r4;have w5:=a.r5;refine aR r s ?_;cases M:c.asleep
    all_goals(
     rw[M]at o;simp only[aT,zG,aX]at o;refine vw r e j w1 w2 w3 w4 w5 ?_;refine bY (a.upd aa _) aa (by rw[aA];simp;omega) aG rfl (ey _) ?_;intro v hp g z w;rw[<- fy,<- a8 o]at g;have F:=g.valOf;have t:=g.cells;simp only[V.cells]at t;have A:=w 8 aa R;rw[aq,ac aa,m]at A;have Q:=D.keep (y:=x) (ax _) (fun k K E=>(w k aa (N k K E)).trans (by rw[aq,ac aa]));refine cN r e j F t ?_;refine⟨aa,al B,v,al e,am,by simp -dsimp only[go_sem,seval];exact Q.le aa,?_,z 8 aa,?_,al A,av⟩
     ·refine aE ?_;exact g.le aa
     ·intro k K E
      by_cases ND:k<x
      ·exact z k aa
      ·exact absurd (D.off aa) E)
   ·have:i=p.threads.length:=aa
    subst this;rw[show d.take p.threads.length=d from de aa]at a;have U:=i8 D (iI _);have W:=i8 a (iI _);have X:List.take p.threads.length (List.replicate p.threads.length [V.t .nils])=List.replicate p.threads.length [V.t .nils]:=de af;have Y:=ui H p.threads.length;simp -dsimp only[go_sem,seval,e,j,U,W,X,Y,m,iE,ax];simp[bz,J,C,tm]
def gp (l:List Int) (i:Nat):List Int:=l.take i++List.replicate (l.length-i) 0
theorem QF (l:List Int):gp l 0=List.replicate l.length 0:=by simp[gp]
theorem MY (l:List Int):gp l l.length=l:=by simp[gp]
theorem Mz (l:List Int) {i:Nat} (h:i<=l.length):(gp l i).length=l.length:=by simp[gp];omega
theorem M4 {l:List Int} {i:Nat} {x:Int} (h:l[i]? =some x):(gp l i).set i x=gp l (i+1):=by
 have hi:i<l.length:=(zH.1 h).1;apply p8;intro j;simp only[gp];rw[cu];have c:(l.take i).length=i:=by simp;omega
 have d:(l.take (i+1)).length=i+1:=by simp;omega
 by_cases a:i=j
 ·subst a;have b:i<(l.take i++List.replicate (l.length-i) 0).length:=by simp;omega
  rw[ah rfl,ah b,bR aa,zO,ah aa,h]
 ·rw[ac a]
  by_cases e:j<i
  ·rw[bR aa,bR aa,zO,zO,ah e,ah aa]
  ·rw[eF aa,eF aa,c,d,nj,nj]
   by_cases f:j<l.length
   ·rw[ah aa,ah aa]
   ·rw[ac aa,ac aa]
theorem YM {l:List Int} {i:Nat} (h:l[i]? =some 0):gp l i=gp l (i+1):=by
 have hi:i<l.length:=(zH.1 h).1;simp only[gp,a8 h];rw[zQ,show l.length-i=(l.length-(i+1))+1 from aa,oy];rfl
theorem dW (l:List Int) (i:Nat) (x:Int):(ai l).set i [vi x]=ai (l.set i x):=by simp[ai,o6]
theorem ul (n:Nat):ai (List.replicate n 0)=List.replicate n [vi 0]:=by simp[ai]
theorem gP {l:List Int} {i:Nat} (h:i<l.length):(ai l)[i]? =some [vi l[i]]:=by simp[ai,h]
theorem g7 (h:ae) (d:Nat) (l:List Int):(ai l).mapM (fun row=>row.mapM (toT h d))=some (l.map fun n=>[ti n]):=mC h d (l.map fun n=>[ti n]) (iI _)
theorem AZ (p:Prog) (F:p.sane):Den Γ G 12 [(zP p)]=some (.agg [.t (ints (bz p).mem),.t (ints (bz p).at_),.t (.sl ((bz p).buf.map (fun b=>[.sl (b.map Entry.enc)])))]):=by
 refine aB (q:=?_)
 have E:=w7 p F;refine aC E ?_;refine gy ?_ ?_<;>intro h
 ·simp[bz,h]
 ·have A:aM p=true:=bB
  obtain⟨⟨R,S,T,U⟩,W⟩:=cR (cS A).1;have B:(p.threads.length:Int)<=4294967296:=aa
  have D:(p.cells.length:Int)<=4294967296:=aa
  generalize w:p.cells.map Cell.init=mems
  have y:mems.length=p.cells.length:=by rw[<- w];simp
  generalize t:(p.threads.map fun x=>if x.asleep then(-1:Int)else 0)=a
  have v:a.length=p.threads.length:=by rw[<- t];simp
  refine bj B D @gz ?_;have J:=ul p.cells.length;have K:=ul p.threads.length
  refine aS 1099444518928 p.cells.length (fun i f h x=>(f 26).v=vi i/\h 8=some (.rows 1 (ai (gp mems i)) false)/\h 12=some (.rows 1 (ai (List.replicate p.threads.length 0)) false)/\h 16=some (.rows 1 (List.replicate p.threads.length [.t .nils]) false))
   rfl ⟨am,by simp -dsimp only[go_sem,seval];rw[QF,y,J],by simp -dsimp only[go_sem,seval];rw[K],am⟩ ?_
  rintro i f u H x bs hi ⟨q,g,d,e⟩;have o:=ay i aa;refine aC q ?_;refine aO q ?_ ?_<;>intro h
  ·obtain⟨c,n,_⟩:=au ‹i<p.cells.length›;have j:mems[i]? =some c.init:=by rw[<- w];simp[n]
   have C:=Mz mems (i:=i) aa;have s:=gP (l:=gp mems i) (i:=i) aa;have k:=dW (gp mems i) i c.init;rw[M4 j]at k;have r:i<p.cells.length:=bB
   refine cN q n g s r ?_;refine⟨aa,al o,?_,?_,?_⟩
   ·exact al k
   ·exact al d
   ·exact al e
  ·have:i=p.cells.length:=aa
   subst this;rw[<- y,MY]at g
   refine aS 144106391982833696 p.threads.length (fun i f h x=>(f 43).v=vi i/\h 8=some (.rows 1 (ai mems) false)/\h 12=some (.rows 1 (ai (gp a i)) false)/\h 16=some (.rows 1 (List.replicate p.threads.length [.t .nils]) false))
    rfl ⟨am,al g,dx d @QF v,al e⟩ ?_
   clear q g d e o;rintro i f u H x bs hi ⟨m,g,d,e⟩;have o:=ay i aa;refine aC m ?_;refine aO m ?_ ?_<;>intro h
   ·obtain⟨c,n,_⟩:=au ‹i<p.threads.length›;have j:a[i]? =some (if c.asleep then(-1:Int)else 0):=by rw[<- t];simp[n]
    have C:=Mz a (i:=i) aa;have s:=gP (l:=gp a i) (i:=i) aa;have r:i<p.threads.length:=bB
    refine aR m n ?_;cases z:c.asleep
    ·rw[z]at j;have I:=YM (l:=a) (i:=i) (ak j);refine aC m ?_;refine⟨aa,al o,al g,bh d I,al e⟩
    ·rw[z]at j;have k:=dW (gp a i) i (-1);rw[M4 (ak j)]at k;refine cV m d s r ?_;refine⟨aa,al o,al g,al k,al e⟩
   ·have:i=p.threads.length:=aa
    subst this;rw[<- v,MY]at d;have L:List.take p.threads.length (List.replicate p.threads.length [V.t .nils])=List.replicate p.threads.length [V.t .nils]:=de af;have M:=ui H p.threads.length;have N:List.take p.cells.length (ai mems)=ai mems:=de (by rw[aA];omega);have O:List.take p.threads.length (ai a)=ai a:=de (by rw[aA];omega);have P:=g7 H 999 mems;have Q:=g7 H 999 a;simp -dsimp only[go_sem,seval,L,M,N,O,P,Q,g,d,e,iE,ax,aA,y,v];simp[bz,A,t,w,tm]
end Rg
end
section
-- FULL
namespace Rg
open Go
def kF (p:Prog) (t:Int):Int:=match p.threads[t.toNat]? with
 | some x=>x.points
 | none=>0
def iv (p:Prog) (c:Config) (t:Int) (s:Step):Bool:=
 decide (atI c.at_ t=s.fr)&&decide (s.guard.eval c.mem c.mem=1)&&
  (if s.kind=6 then decide (atI c.at_ s.target= -1)else if s.kind=7 then decide (atI c.at_ s.target=kF p s.target-1)else true)
structure StepOk (p:Prog) (t:Int) (x:Thread) (s:Step):Prop where
 kind:1<=s.kind/\s.kind<=7
 fr:0<=s.fr/\s.fr<x.points-1
 to:0<=s.to/\s.to<x.points
 rng:sp p s
 row:da p t s=true
 tgt:s.kind=6\/s.kind=7->inR s.target p.threads.length=true/\s.target≠t
 wid: ∀a∈s.set,∃y,p.cells[a.cell.toNat]? =some y/\a.to.w=y.w
 dif: ∀(i j:Nat) (a b:Assign),s.set[i]? =some a->s.set[j]? =some b->a.cell=b.cell->i=j
theorem MS {p:Prog} {set:List Assign}: ∀{l:List Assign} {i:Nat},(a7 (c8 p set) i l).1=0-> ∀a∈l,∃y,p.cells[a.cell.toNat]? =some y/\a.to.w=y.w
 | [],_,_,a,c=>by simp at c
 | x::r,i,h,a,c=>by
   rw[a7]at h;split at h
   ·rename_i b;rcases cj.1 c with rfl | c
    ·unfold c8 at b;split at b
     ·simp at b
     ·split at b
      ·simp at b
      ·rename_i d;simp only[eH,ld,eE,rG]at d;have:=d.2;unfold cL at this;rcases e:p.cells[a.cell.toNat]? with _ | y
       ·rw[e]at this;simp at this
       ·rw[e]at this;exact⟨y,rfl,ak this⟩
    ·exact MS h a c
   ·rename_i b;exact absurd h b
theorem MW {p:Prog} {set:List Assign}: ∀{l:List Assign} {i:Nat},set.drop i=l->(a7 (c8 p set) i l).1=0-> ∀(j:Nat) (a:Assign),i<=j->set[j]? =some a->(set.take j).any (fun b=>decide (b.cell=a.cell))=false
 | [],i,hd,_,j,a,Av,ha=>by
   have:set.length<=i:=ak hd
   have:=(zH.1 ha).1
   omega
 | x::r,i,hd,h,j,a,Av,ha=>by
   rw[a7]at h
   have d:set[i]? =some x:=by
    have:=bx (·[0]?) hd;simpa using this
   have f:set.drop (i+1)=r:=by
    have:=iQ d;rw[hd]at this;exact(List.cons.inj this).2.symm
   split at h
   ·rename_i c
    by_cases g:j=i
    ·subst g;rw[d]at ha;cases ha;unfold c8 at c;split at c
     ·simp at c
     ·rename_i e;simp only[eH,ld,z_]at e;exact e.2
    ·exact MW f h j a aa ha
   ·rename_i c;exact absurd h c
theorem Y3 {p:Prog} {t:Int} {x:Thread} {s:Step} (h:cG p t x.points s=0):StepOk p t x s:=by
 unfold cG at h;split at h
 ·simp at h
 ·rename_i c;split at h
  ·simp at h
  ·rename_i q;split at h
   ·rename_i u;exact absurd h u
   ·rename_i e;split at h
    ·rename_i d;have e:(a7 (c8 p s.set) 0 s.set).1=0:=ak e
     have m:kO p x.points s=false:=ak c
     simp only[kO,ju,lF,nh,en]at m;obtain⟨⟨⟨⟨⟨⟨w,b2⟩,n⟩,o⟩,y⟩,z⟩,A⟩:=m;simp only[inR,aQ]at n o;simp only[eH,ld,eE,rG,aQ]at q;refine⟨aa,n,o,⟨q.1,tC (set:=s.set) e⟩,d,fun v=> ?_,MS e,fun i j a b k c g=> ?_⟩
     ·rw[da,ac aa,ac aa,ac aa,ac aa,ac aa]at d
      have l:gl p t s=true:=by
       split at d
       ·simp only[zF]at d;exact d.1
       ·exact d
      simp only[gl,zF,aQ]at l;exact⟨l.2,l.1.2⟩
     ·have f: ∀(i j:Nat) (a b:Assign),s.set[i]? =some a->s.set[j]? =some b->a.cell=b.cell-> ¬i<j:=fun i j a b k c g r=>by
       have:=MW (i:=0) rfl e j b aa c;rw[qd k r (ak g)]at this;simp at this
      have B:=f i j a b k c g;have C:=f j i b a c k g.symm;omega
    ·simp at h
theorem ON {p:Prog}: ∀{l:List Thread} {i:Nat},eT p i l=(0,-1,-1)-> ∀(j:Nat) (x:Thread),l[j]? =some x->(bI p (i+j) x).1=0
 | [],_,_,j,x,hx=>by simp at hx
 | y::r,i,h,j,x,hx=>by
   rw[eT]at h;split at h
   ·rename_i a
    cases j with
    | zero=>simp at hx;subst hx;exact a
    | succ j=>
      have:=ON h j x (ak hx);rw[show i+(j+1)=i+1+j by omega];exact this
   ·rename_i a;exact absurd (bx Prod.fst h) a
theorem Ih {p:Prog} (a:aM p=true) {t:Nat} {x:Thread} (b:p.threads[t]? =some x):(bI p t x).1=0:=by
 have:=ON (cS a).2.2.2.2 t x b;simpa using this
theorem SZ {α:Type} {f:Nat->α->Int}: ∀{l:List α} {i:Nat},(a7 f i l).1=0-> ∀(j:Nat) (x:α),l[j]? =some x->f (i+j) x=0
 | [],_,_,j,x,hx=>by simp at hx
 | y::r,i,h,j,x,hx=>by
   rw[a7]at h;split at h
   ·rename_i a
    cases j with
    | zero=>simp at hx;subst hx;exact a
    | succ j=>
      have:=SZ h j x (ak hx);rw[show i+(j+1)=i+1+j by omega];exact this
   ·rename_i a;exact absurd h a
theorem KP {p:Prog} {t:Nat} {x:Thread} (h:(bI p t x).1=0):1<=x.points/\(x.asserts.length:Int)=x.points/\(x.modules.length:Int)=x.points/\(a7 (fun _ s=>cG p t x.points s) 0 x.steps).1=0:=by
 unfold bI at h;split at h
 ·simp at h
 ·split at h
  ·simp at h
  ·split at h
   ·simp at h
   ·rename_i b;split at h
    ·simp at h
    ·split at h
     ·simp at h
     ·split at h
      ·rename_i a;exact absurd h a
      ·rename_i a;exact⟨aa,aa,aa,ak a⟩
theorem lf {p:Prog} (b:aM p=true) {t i:Nat} {x:Thread} {s:Step} (d:p.threads[t]? =some x) (c:x.steps[i]? =some s):StepOk p t x s:=by
 have a:=(KP (Ih b d)).2.2.2;exact Y3 (SZ a i s c)
end Rg
end
section
-- FULL
namespace Rg
open Go
theorem Tr {p:Prog} {c:Config} (h:isM p c=true):c.mem.length=p.cells.length/\c.at_.length=p.threads.length/\c.buf.length=p.threads.length:=by
 simp only[isM,jm,zF,aQ]at h;exact⟨h.1.1.1.1.1,h.1.1.1.1.2,h.1.2⟩
theorem Z7 (p:Prog) (c:Config) (t:Int) (y:Thread) (a:Int) (d:0<=t) (e:c.at_[t.toNat]? =some a) (g:p.threads[t.toNat]? =some y) (h: -2^40<y.points/\y.points<2^40):Den Γ G 21 [(zP p),(.agg [.t (ints (c).mem),.t (ints (c).at_),.t (.sl ((c).buf.map (fun b=>[.sl (b.map Entry.enc)])))]),vi t]=some (vb (decide (a=y.points-1))):=by
 refine aB (q:=?_)
 have f:IntKind.i64.wrap (y.points-1)=y.points-1:=bt aa;exact G1 d e g f
theorem jp {l:List Int} {n:Int} {a:Int} (h:l[n.toNat]? =some a):atI l n=a:=by simp[atI,List.getD,h]
theorem p' {p:Prog} (a:aM p=true) {t:Nat} {x:Thread} (b:p.threads[t]? =some x):1<=x.points/\x.points<=48:=
 ⟨(KP (Ih a b)).1,((cR (cS a).1).2 x (zL b)).1⟩
theorem Xb (p:Prog) (u:aM p=true) (c:Config) (z:isM p c=true) (t:Nat) (x:Thread) (e:p.threads[t]? =some x) (i:Nat) (s:Step) (h:x.steps[i]? =some s):
 Den Γ G 67 [(zP p),(.agg [.t (ints (c).mem),.t (ints (c).at_),.t (.sl ((c).buf.map (fun b=>[.sl (b.map Entry.enc)])))]),vi t,vi i]=some (vb (iv p c t s)):=by
 obtain⟨F,H,I⟩:=Tr z;have v:=lf u e h;have D:t<p.threads.length:=(zH.1 e).1;obtain⟨a,f,_⟩:=au (show t<c.at_.length from aa);have r:atI c.at_ t=a:=jp (ak f);have j:=pb s.guard c.mem c.mem
 refine aB (q:=?_)
 by_cases d:a=s.fr
 ·by_cases l:s.guard.eval c.mem c.mem=1
  ·have k:iv p c t s=(if s.kind=6 then decide (atI c.at_ s.target= -1)else if s.kind=7 then decide (atI c.at_ s.target=kF p s.target-1)else true):=by
    simp[iv,r,d,l]
   rw[l]at j;rw[k]
   by_cases g:s.kind=6\/s.kind=7
   ·obtain⟨n,_⟩:=v.tgt g;simp only[inR,aQ]at n;obtain⟨b,m,_⟩:=au (show s.target.toNat<c.at_.length from aa);obtain⟨y,o,_⟩:=au (show s.target.toNat<p.threads.length from aa);have E:=p' u o;have A:IntKind.i64.wrap (y.points-1)=y.points-1:=bt aa;have q:=jp m;have w:kF p s.target=y.points:=by simp[kF,o]
    rcases g with g | g
    ·simp -dsimp [go_sem,e,h,f,d,j,g,n.1,m,q]
    ·simp -dsimp [go_sem,e,h,f,d,j,g,n.1,m,o,A,q,w]
   ·have B: ¬s.kind=6:=aa
    have C: ¬s.kind=7:=aa
    simp -dsimp [go_sem,e,h,f,d,j,B,C]
  ·have k:iv p c t s=false:=by simp[iv,l]
   rw[k];exact VQ e h f d j l
 ·have k:iv p c t s=false:=by simp[iv,r,d]
  rw[k];exact G1 e h f d
def jC (p:Prog) (c:Config) (t:Nat) (x:Thread) (i:Nat):List Choice:=
 (x.steps.take i).zipIdx.filterMap fun q=>if iv p c t q.1 then some ⟨t,q.2,0⟩else none
def ji (p:Prog) (c:Config) (i:Nat):List Choice:=(p.threads.take i).zipIdx.flatMap fun q=>jC p c q.2 q.1 q.1.steps.length
def fD (p:Prog) (c:Config):List Choice:=ji p c p.threads.length
theorem rj {α:Type} {l:List α} {i:Nat} {x:α} (h:l[i]? =some x):(l.take (i+1)).zipIdx=(l.take i).zipIdx++[(x,i)]:=by
 have hi:i<l.length:=(zH.1 h).1;rw[a8 h,List.zipIdx_append];simp;omega
theorem XK {p:Prog} {c:Config} {t:Nat} {x:Thread} {i:Nat} {s:Step} (h:x.steps[i]? =some s):
 jC p c t x (i+1)=jC p c t x i++(if iv p c t s then [⟨t,i,0⟩]else []):=by
 unfold jC;rw[rj h,wc]
 congr 1
 cases a:iv p c t s<;>simp[a]
theorem JQ {p:Prog} {c:Config} {i:Nat} {x:Thread} (h:p.threads[i]? =some x):ji p c (i+1)=ji p c i++jC p c i x x.steps.length:=by
 unfold ji;rw[rj h,jg];simp
theorem I9 (p:Prog) (c:Config) (t:Nat) (x:Thread) (i:Nat):(jC p c t x i).length<=i:=by
 unfold jC;refine cT (v7 _ _) ?_;simp;omega
theorem tG {p:Prog} (b:aM p=true) (c:Config): ∀i:Nat,(ji p c i).length<=64*i
 | 0=>by simp[ji]
 | i+1=>by
   have g:=tG b c i;rcases a:p.threads[i]? with _ | x
   ·have:p.threads.length<=i:=ak a
    have e:ji p c (i+1)=ji p c i:=by
     unfold ji;rw[de aa,de aa]
    rw[e];omega
   ·have d:=((cR (cS b).1).2 x (zL a)).2.1;have f:=I9 p c i x x.steps.length;rw[JQ a,zM];omega
def bf (l:List Choice):List (List V):=(l.map Choice.enc).map (·.map V.t)
theorem f_ (l:List Choice):(bf l).length=l.length:=by simp[bf]
theorem mz (l:List Choice) (c:Choice):bf (l++[c])=bf l++[[vi c.thread,vi c.step,vi c.cell]]:=by simp[bf,Choice.enc]
theorem kX (l:List Choice):((bf l).all fun r=>decide (r.length=3))=true:=by simp[bf,Choice.enc]
theorem mS (l:List Choice): ∀e∈l.map Choice.enc,∀t∈e,T.norm t=t:=by
 intro e b t a;obtain⟨n,_,rfl⟩:=cv.1 b;simp[Choice.enc]at a;rcases a with rfl | rfl | rfl<;>rfl
theorem I_ (p:Prog) (m:aM p=true) (c:Config) (C:isM p c=true):Den Γ G 44 [(zP p),(.agg [.t (ints (c).mem),.t (ints (c).at_),.t (.sl ((c).buf.map (fun b=>[.sl (b.map Entry.enc)])))])]=some (.t (.sl ((fD p c).map Choice.enc))):=by
 refine aB (q:=?_)
 obtain⟨⟨T,U,V,W⟩,E⟩:=cR (cS m).1;refine aE ?_;refine aS 137438951648 p.threads.length (fun i f h x=>(f 11).v=vi i/\aw h x (f 5).v 3 (bf (ji p c i))) rfl ⟨am,.inl ⟨am,rfl⟩⟩ ?_;rintro i f u H x bs hi ⟨d,a⟩;have D:=ay i aa;refine aC d ?_;refine aO d ?_ ?_<;>intro h
 ·obtain⟨t,n,A⟩:=au ‹i<p.threads.length›;obtain⟨_,L,_⟩:=E t A;refine aR d n ?_;refine aS 68717379744 t.steps.length (fun j l h x=>(l 21).v=vi j/\aw h x (l 5).v 3 (bf (ji p c i++jC p c i t j))) rfl ⟨am,by simp -dsimp only[go_sem,seval,jC,fw,vU,rC,bK];exact a.le aa⟩ ?_;clear a;rintro j l X R Y B S ⟨e,a⟩;have q:=ay j aa;refine aC e ?_;refine dI e d ?_ ?_<;>intro h
  ·obtain⟨s,w,Q⟩:=au ‹j<t.steps.length›;have z:=Xb p m c C i t n j s w;have g:=XK (p:=p) (c:=c) (t:=i) w;have M:=tG m c i;have P:=I9 p c i t j;refine bj e d z ?_;refine dI e d ?_ ?_<;>intro h
   ·rw[h]at g;have o:=a.valOf;have F:=a.r2;have I:=a.r3;have J:=a.r4;have k:=a.r5;refine gx e d o F I J k ?_;refine bY (a.upd aa _) aa (by rw[f_,zM];omega) aG rfl (kX _) ?_;intro v hp r O N;have K:=r.valOf;refine aR K e ?_;refine⟨aa,al q,?_⟩;simp -dsimp only[go_sem,seval,g,aT];rw[<- zQ,mz];exact r.le aa
   ·rw[h]at g;refine⟨aa,al q,?_⟩;simp -dsimp only[go_sem,seval,g,bK,zG,aX];exact a.le aa
  ·have:j=t.steps.length:=aa
   subst this;refine⟨aa,al D,?_⟩;refine aE ?_;rw[JQ n];exact a.le aa
 ·have:i=p.threads.length:=aa
  subst this;have o:=a.valOf;have y:=a.reify (mS _);have k:=a.resVal;simp only[Rg.resVal]at k;refine aR o k ?_;exact y
def pJ (p:Prog) (c:Config):List Choice:=if aM p&&isM p c then fD p c else []
theorem Xl (p:Prog) (i:p.sane) (c:Config) (e:c.sane):Den Γ G 17 [(zP p),(.agg [.t (ints (c).mem),.t (ints (c).at_),.t (.sl ((c).buf.map (fun b=>[.sl (b.map Entry.enc)])))])]=some (.t (.sl ((pJ p c).map Choice.enc))):=by
 refine aB (q:=?_)
 have f:=w7 p i;refine aC f ?_;cases a:aM p
 ·refine aE ?_;simp[pJ,a]
 ·have g:=N7 p a c e;refine aC g ?_;cases d:isM p c
  ·refine aE ?_;simp[pJ,a,d]
  ·have h:=I_ p a c d;refine aC h ?_;simp[pJ,a,d]
def pm (l:List Choice) (x:Choice):Bool:=l.any fun y=>decide (y=x)
theorem yh (a b:Choice):(decide (a.thread=b.thread)&&(decide (a.step=b.step)&&decide (a.cell=b.cell)))=decide (a=b):=by
 cases a;cases b;simp only[Choice.mk.injEq];simp
theorem kb7 (l:List Choice) (x:Choice) (g:l.length<2^40):Den Γ G 20 [.t (.sl (l.map Choice.enc)),(.agg [.t (ti (x).thread),.t (ti (x).step),.t (ti (x).cell)])]=some (vb (pm l x)):=by
 refine aB (q:=aE ?_);refine aZ 262128 l.length (fun i f=>(f 5).v=vi i/\pm l x=(l.drop i).any fun y=>decide (y=x)) rfl rfl ⟨am,rfl⟩ ?_;rintro i f u j bb hi ⟨a,b⟩;have e:=ay i aa;refine aC a ?_;refine aO a ?_ ?_<;>intro h
 ·obtain⟨y,c,_⟩:=au ‹i<l.length›;have d:=yh y x;refine cV a c d @Bool.bne_false ?_;refine aO a ?_ ?_<;>intro h
  ·rw[b,xH c (ak h)]
  ·refine⟨aa,al e,?_⟩;rw[b,xI c (ak h)]
 ·have:i=l.length:=aa
  subst this;rw[b,y9]
def bm (b view:List Int) (set:List Assign):List Int:=set.foldl (fun m a=>m.set a.cell.toNat (a.to.eval view view)) b
theorem iG (view:List Int): ∀(set:List Assign) (b:List Int),(bm b view set).length=b.length
 | [],b=>rfl
 | a::r,b=>by
   have:=iG view r (b.set a.cell.toNat (a.to.eval view view));simpa[bm]using this
theorem wK {b view:List Int} {set:List Assign} {i:Nat} {a:Assign} (h:set[i]? =some a):bm b view (set.take (i+1))=(bm b view (set.take i)).set a.cell.toNat (a.to.eval view view):=by
 unfold bm;rw[a8 h,f8];rfl
theorem Yx (b view:List Int) (set:List Assign) (E:b.length<2^31) (L:set.length<2^48) (s: ∀a∈set,0<=a.cell/\a.cell<b.length):
 Den Γ G 66 [.t (ints b),.t (ints view),.t (.sl (set.map Assign.enc))]=some (.t (ints (bm b view set))):=by
 refine aB (q:=aE ?_);have A:=tS b E (fun _=>none) 0;obtain⟨r,h',I,g,c,_,_⟩:=A;refine qH (es:=b.map fun n=>[ti n]) rfl rfl ⟨r,h',I,g,c⟩ ?_;clear g c;intro v hp c _ _;have m:=c.valOf;refine aC m ?_;refine aS 4294965504 set.length (fun i f h x=>(f 8).v=vi i/\aw h x v 1 (ai (bm b view (set.take i)))) rfl ⟨am,by simp -dsimp only[go_sem,seval];exact c.le aa⟩ ?_;clear c;rintro i f u H x bs hi ⟨d,c⟩;have F:=ay i aa;refine aC d ?_;refine aO d ?_ ?_<;>intro h
 ·obtain⟨a,j,z⟩:=au ‹i<set.length›;obtain⟨B,J⟩:=s a z;have t:=xv a.to view view;have p:(bm b view (set.take i)).length=b.length:=iG view _ b;rcases c with⟨_,C⟩ | ⟨k,rfl,K,D⟩
  ·exfalso;have:(ai (bm b view (set.take i))).length=0:=by rw[C];rfl
   rw[aA]at this;omega
  ·have q:a.cell<(((ai (bm b view (set.take i))).length:Nat):Int):=by rw[aA];omega
   have w:=gP (l:=bm b view (set.take i)) (i:=a.cell.toNat) aa;have e:=dW (bm b view (set.take i)) a.cell.toNat (a.to.eval view view);rw[<- wK j]at e;refine gx d j t B q D w ?_;refine⟨aa,al F,.inr ⟨k,?_,av,?_⟩⟩
   ·rw[aA,aA,p,iG]
   ·exact al e
 ·have:i=set.length:=aa
  subst this;rw[bc]at c;have y:=c.reify (iI _);have o:=c.resVal;simp only[Rg.resVal]at o;refine aR m o ?_;exact y
theorem Jz {p:Prog} {c:Config} {t:Nat} {x:Thread} {n:Nat} {y:Choice}:y∈jC p c t x n<-> ∃i s,i<n/\x.steps[i]? =some s/\iv p c t s=true/\y=⟨t,i,0⟩:=by
 unfold jC;rw[pZ];constructor
 ·rintro⟨⟨s,i⟩,a,h⟩;rw[ka]at a;simp only at a;rw[zO]at a;split at a
  ·rename_i hi;split at h
   ·rename_i b;simp only[zA]at h;exact⟨i,s,hi,a,b,h.symm⟩
   ·simp at h
  ·simp at a
 ·rintro⟨i,s,hi,d,b,rfl⟩;refine⟨(s,i),?_,by simp[b]⟩;rw[ka];simp only;rw[zO,ah hi];exact d
theorem wu {p:Prog} {c:Config} {y:Choice}:y∈fD p c<-> ∃(t:Nat) (x:Thread) (i:Nat) (s:Step),p.threads[t]? =some x/\x.steps[i]? =some s/\iv p c t s=true/\y=⟨t,i,0⟩:=by
 unfold fD ji;rw[di];constructor
 ·rintro⟨⟨x,t⟩,d,h⟩;rw[ka,bc]at d;obtain⟨i,s,_,a,b,rfl⟩:=Jz.1 h;exact⟨t,x,i,s,d,a,b,rfl⟩
 ·rintro⟨t,x,i,s,e,a,b,rfl⟩;refine⟨(x,t),?_,Jz.2 ⟨i,s,(zH.1 a).1,a,b,rfl⟩⟩;rw[ka,bc];exact e
def h_ (p:Prog) (c:Config) (t:Nat) (s:Step):Config:=
 ⟨bm c.mem c.mem s.set,if s.kind=6 then(c.at_.set t s.to).set s.target.toNat 0 else c.at_.set t s.to,p.threads.map fun _=>[]⟩
def lx (p:Prog) (x:Choice):Option Step:=(p.threads[x.thread.toNat]?).bind fun t=>t.steps[x.step.toNat]?
def eO:Config:=⟨[],[],[]⟩
def rN (p:Prog) (c:Config) (x:Choice):Config:=match lx p x with
 | some s=>h_ p c x.thread.toNat s
 | none=>eO
def jZ (p:Prog) (c:Config) (x:Choice):Config×Int:=
 if aM p&&isM p c then(if pm (fD p c) x then(rN p c x,0)else(eO,110))else(eO,1)
theorem Sn (l:List Choice) (x:Choice):pm l x=true<->x∈l:=by
 unfold pm;rw[lC];constructor
 ·rintro⟨y,a,h⟩;simp at h;exact h▸a
 ·intro h;exact⟨x,h,af⟩
theorem ec {α:Type} {l:List α} {n:Nat} (h:n=l.length):l.take n=l:=de aa
theorem Y6 {α:Type} {l:List α} {n:Nat} (h:n=l.length):l.drop n=[]:=oH aa
theorem XP (p:Prog) (J:aM p=true) (c:Config) (hc:isM p c=true) (t:Nat) (x:Thread) (A:p.threads[t]? =some x) (i:Nat) (s:Step) (L:x.steps[i]? =some s) (y:Choice) (hy:y=⟨t,i,0⟩) (E8:s.set.length<2^48):
 Den Γ G 45 [(zP p),(.agg [.t (ints (c).mem),.t (ints (c).at_),.t (.sl ((c).buf.map (fun b=>[.sl (b.map Entry.enc)])))]),(.agg [.t (ti (y).thread),.t (ti (y).step),.t (ti (y).cell)])]=some (.agg [.t (ints (h_ p c t s).mem),.t (ints (h_ p c t s).at_),.t (.sl ((h_ p c t s).buf.map (fun b=>[.sl (b.map Entry.enc)])))]):=by
 subst hy;obtain⟨l1,l2,l3⟩:=Tr hc;obtain⟨⟨m1,m2,m3,m4⟩,_⟩:=cR (cS J).1;have C:=lf J A L;have Dd:t<p.threads.length:=(zH.1 A).1;have X:(c.mem.length:Int)<=4294967296:=aa
 have Y:(c.at_.length:Int)<=4294967296:=aa
 have Z:(c.buf.length:Int)<=4294967296:=aa
 refine aB (q:=?_)
 have r1:=ey c.mem;have r2:=ey c.at_;have r3:List.take c.mem.length (ai c.mem)=ai c.mem:=ec (aA _).symm;have r4:List.take c.at_.length (ai c.at_)=ai c.at_:=ec (aA _).symm;have r5: ∀(n:Nat) (v:List V),List.drop n (List.replicate n v)=[]:=fun n v=>Y6 af
 have O: ∀a∈s.set,0<=a.cell/\a.cell<c.mem.length:=fun a o=>by
  have:=(C.rng.2 a o).1;simp only[inR,aQ]at this;omega
 simp -dsimp only[go_sem,seval,X,Y,Z,gz,xM,r1,r2,r3,r4,r5,aA,iE,ax,bK,Nat.min_self,A,L]
 refine aS 36893206672442393600 s.set.length (fun j f h z=>(f 48).v=vi j/\h 7=some (.rows 1 (ai (bm c.mem c.mem (s.set.take j))) false)/\h 11=some (.rows 1 (ai c.at_) false)/\h 15=some (.rows 1 (List.replicate c.buf.length [.t .nils]) false)) rfl
  ⟨am,by simp -dsimp only[go_sem,seval];rfl,am,am⟩ ?_
 rintro j f u H z bs hj ⟨w,m,e,d⟩;have hw:=ay j aa;refine aC w ?_;refine aO w ?_ ?_<;>intro h
 ·obtain⟨a,o,P⟩:=au ‹j<s.set.length›;obtain⟨U,W⟩:=O a P;have N:=pb a.to c.mem c.mem;have Ac:(bm c.mem c.mem (s.set.take j)).length=c.mem.length:=iG c.mem _ c.mem;have q:=gP (l:=bm c.mem c.mem (s.set.take j)) (i:=a.cell.toNat) aa;have k:=dW (bm c.mem c.mem (s.set.take j)) a.cell.toNat (a.to.eval c.mem c.mem);rw[<- wK o]at k;refine gx w o N U W m q ?_;refine⟨aa,al hw,al k,al e,al d⟩
 ·have:j=s.set.length:=aa
  subst this;rw[bc]at m;have q:=gP (l:=c.at_) (i:=t) aa;have k:=dW c.at_ t s.to;have M:(t:Int)<(c.at_.length:Int):=aa
  have t0:(0:Int)<=(t:Int):=aa
  have S:t<c.at_.length:=aa
  have D:List.take p.threads.length (List.replicate p.threads.length [V.t T.nils])=List.replicate p.threads.length [V.t T.nils]:=ec af;have B:c.buf.length=p.threads.length:=l3;have F:=fun h=>ui h p.threads.length
  have E:List.take c.mem.length (ai (bm c.mem c.mem s.set))=ai (bm c.mem c.mem s.set):=ec (by rw[aA,iG]);have I:(ai (bm c.mem c.mem s.set)).length=c.mem.length:=by rw[aA,iG]
  simp -dsimp only[go_sem,seval,e,q,M,S,k,aA,cJ]
  by_cases g:s.kind=6
  ·obtain⟨K,_⟩:=C.tgt (.inl g);simp only[inR,aQ]at K;have q1:s.target<(c.at_.length:Int):=aa
   have q2:=K.1;have Q:=gP (l:=c.at_.set t s.to) (i:=s.target.toNat) (by simp;omega);have R:=dW (c.at_.set t s.to) s.target.toNat 0;have r:List.take c.at_.length (ai ((c.at_.set t s.to).set s.target.toNat 0))=ai ((c.at_.set t s.to).set s.target.toNat 0):=ec (by rw[aA];simp);simp -dsimp only[go_sem,seval,g,q1,q2,Q,R,m,d,D,F,E,I,r,aA,cJ,iE,ax,g7,B];simp[h_,g,tm]
  ·have r:List.take c.at_.length (ai (c.at_.set t s.to))=ai (c.at_.set t s.to):=ec (by rw[aA];simp);simp -dsimp only[go_sem,seval,g,m,d,D,F,E,I,r,aA,cJ,iE,ax,g7,B];simp[h_,g,tm]
theorem kaA (p:Prog) (v:p.sane) (c:Config) (z:c.sane) (x:Choice):Den Γ G 18 [(zP p),(.agg [.t (ints (c).mem),.t (ints (c).at_),.t (.sl ((c).buf.map (fun b=>[.sl (b.map Entry.enc)])))]),(.agg [.t (ti (x).thread),.t (ti (x).step),.t (ti (x).cell)])]=some (.tup [(.agg [.t (ints ((jZ p c x).1).mem),.t (ints ((jZ p c x).1).at_),.t (.sl (((jZ p c x).1).buf.map (fun b=>[.sl (b.map Entry.enc)])))]),vi (jZ p c x).2]):=by
 refine aB (q:=?_)
 have C:=w7 p v;refine aC C ?_;cases a:aM p
 ·refine aE ?_;simp[jZ,a,eO]
 ·have D:=N7 p a c z;refine aC D ?_;cases k:isM p c
  ·refine aE ?_;simp[jZ,a,k,eO]
  ·have E:=I_ p a c k
   have J:(fD p c).length<2^40:=by
    have:=tG a c p.threads.length;have:=(cR (cS a).1).1;unfold fD;omega
   have g:jZ p c x=if pm (fD p c) x then(rN p c x,0)else(eO,110):=by simp[jZ,a,k]
   refine aC E ?_;refine aZ 68702700224 (fD p c).length (fun i f=>(f 24).v=vi i/\(f 6).v= .lb/\(f 6).box=some [.t .nils,.t .nils,.t .nils]/\pm (fD p c) x=((fD p c).drop i).any fun y=>decide (y=x)) rfl rfl ⟨am,am,am,rfl⟩ ?_;rintro i f u K bb hi ⟨e,n,b2,d⟩;have I:=ay i aa;refine aC e ?_;refine aO e ?_ ?_<;>intro h
   ·obtain⟨y,q,Eq⟩:=au ‹i<(fD p c).length›;have H:=yh x y;refine cV e q H @Bool.bne_false ?_;refine aO e ?_ ?_<;>intro h
    ·have l:x=y:=ak h
     rw[xH q (ak l.symm)]at d;obtain⟨t,w,j,s,o,m,_,r⟩:=wu.1 Eq;have B:=zL o;have A:=XP p a c k t w o j s m x (l.trans r) (v.sets w B s (zL m))
     have F:rN p c x=h_ p c t s:=by
      rw[l,r];simp[rN,lx,o,m]
     rw[d,ah rfl,F]at g;rw[g];exact dx A n b2
    ·refine⟨aa,al I,al n,al b2,?_⟩;rw[d,xI q (by simpa[eq_comm]using h)]
   ·have:i=(fD p c).length:=aa
    subst this;rw[y9]at d;rw[d]at g;rw[g];refine aR n b2 ?_;simp[eO]
theorem vH {α β:Type} {l:List α} {m:List β} (h:l.length=m.length):(l.zip m).length=l.length:=by rw[kj];omega
theorem sG {α:Type} [DecidableEq α]: ∀{a b:List α},a.length=b.length->((a.zip b).all fun q=>decide (q.1=q.2))=decide (a=b)
 | [],[],_=>rfl
 | [],_::_,h=>by simp at h
 | _::_,[],h=>by simp at h
 | x::a,y::b,h=>by
   simp only[d_,Nat.add_right_cancel_iff]at h;rw[wp,ep,sG h]
   by_cases c:x=y<;>by_cases d:a=b<;>simp[c,d]
theorem vN (a b:List Int) (o:a.length<2^48):Den Γ G 34 [.t (ints a),.t (ints b)]=some (vb (decide (a=b))):=by
 refine aB (q:=?_)
 simp -dsimp only[go_sem,seval]
 by_cases d:a.length=b.length
 ·have j:decide (¬(a.length:Int)=b.length)=false:=by simp[d]
  simp -dsimp only[go_sem,seval,j];rw[<- sG d];have m:=vH d;refine aZ 67106864 a.length (fun i f=>(f 5).v=vi i/\((a.zip b).all fun q=>decide (q.1=q.2))=((a.zip b).drop i).all fun q=>decide (q.1=q.2)) rfl rfl ⟨am,rfl⟩ ?_;rintro i f u p bb hi ⟨e,g⟩;have n:=ay i aa;simp -dsimp only[go_sem,seval,e];refine aO e ?_ ?_<;>intro h<;>try exact⟨⟩<;>try exact h.elim
  ·obtain⟨x,k,_⟩:=au ‹i<a.length›;obtain⟨y,l,_⟩:=au (show i<b.length from aa);have c:=l6 k l;simp -dsimp only[go_sem,seval,e,k,l];refine aO e ?_ ?_<;>intro h<;>try exact⟨⟩<;>try exact h.elim
   ·rw[g,dy c (ak h)]
   ·refine⟨aa,al n,?_⟩;rw[g,dz c (ak h)]
  ·have:i=a.length:=aa
   subst this;have c:=dA (fun q:Int×Int=>decide (q.1=q.2)) (a.zip b);rw[m]at c;rw[g,c]
 ·have j:decide (¬(a.length:Int)=b.length)=true:=by simp;omega
  simp -dsimp only[go_sem,seval,j];have : ¬a=b:=fun h=>d (by rw[h])
  simp[this]
theorem VJ (a b:List Choice) (r:a.length<2^48):Den Γ G 40 [.t (.sl (a.map Choice.enc)),.t (.sl (b.map Choice.enc))]=some (vb (decide (a=b))):=by
 refine aB (q:=aE ?_)
 by_cases e:a.length=b.length
 ·have j:decide (¬(a.length:Int)=b.length)=false:=by simp[e]
  refine aC j ?_;rw[<- sG e];have n:=vH e;refine aZ 67106864 a.length (fun i f=>(f 5).v=vi i/\((a.zip b).all fun q=>decide (q.1=q.2))=((a.zip b).drop i).all fun q=>decide (q.1=q.2)) rfl rfl ⟨am,rfl⟩ ?_;rintro i f u s bb hi ⟨c,g⟩;have p:=ay i aa;refine aC c ?_;refine aO c ?_ ?_<;>intro h
  ·obtain⟨x,l,_⟩:=au ‹i<a.length›;obtain⟨y,m,_⟩:=au (show i<b.length from aa);have d:=l6 l m;have o:=yh x y;refine cN c l m o @Bool.bne_true ?_;cases k:decide (x=y)
   ·refine aC c ?_;rw[g,dy d (ak k)]
   ·refine aC c ?_;refine⟨aa,al p,?_⟩;rw[g,dz d (ak k)]
  ·have:i=a.length:=aa
   subst this;have d:=dA (fun q:Choice×Choice=>decide (q.1=q.2)) (a.zip b);rw[n]at d;rw[g,d]
 ·have j:decide (¬(a.length:Int)=b.length)=true:=by simp;omega
  refine aC j ?_;have : ¬a=b:=fun h=>e (by rw[h])
  simp[this]
def CS (l:List Entry):Prop:=l.length<2^48/\ ∀e∈l,e.cells.length<2^48/\e.values.length<2^48
theorem TF (a b:List Entry) (p:CS a):Den Γ G 37 [.t (.sl (a.map Entry.enc)),.t (.sl (b.map Entry.enc))]=some (vb (decide (a=b))):=by
 obtain⟨p,o⟩:=p
 refine aB (q:=?_)
 simp -dsimp only[go_sem,seval]
 by_cases d:a.length=b.length
 ·have j:decide (¬(a.length:Int)=b.length)=false:=by simp[d]
  simp -dsimp only[go_sem,seval,j];rw[<- sG d];have r:=vH d;refine aZ 8796093020208 a.length (fun i f=>(f 5).v=vi i/\((a.zip b).all fun q=>decide (q.1=q.2))=((a.zip b).drop i).all fun q=>decide (q.1=q.2)) rfl rfl ⟨am,rfl⟩ ?_;rintro i f u w bb hi ⟨e,g⟩;have s:=ay i aa;simp -dsimp only[go_sem,seval,e];refine aO e ?_ ?_<;>intro h<;>try exact⟨⟩<;>try exact h.elim
  ·obtain⟨x,k,n⟩:=au ‹i<a.length›;obtain⟨y,l,_⟩:=au (show i<b.length from aa);have c:=l6 k l;have t:=vN x.cells y.cells (o x n).1;have v:=vN x.values y.values (o x n).2
   have m:decide (x=y)=(decide (x.cells=y.cells)&&decide (x.values=y.values)):=by
    cases x;cases y;simp
   simp -dsimp only[go_sem,seval,e,k,l,t]
   repeat'(refine lq e k l v ?_ ?_<;>intro h<;>try exact⟨⟩<;>try exact h.elim)
   all_goals first
    | (rw[g,dy c (by simp only[m];simp[*])];done)
    | (refine⟨aa,al s,?_⟩
       rw[g,dz c (by simp only[m];simp[*])])
  ·have:i=a.length:=aa
   subst this;have c:=dA (fun q:Entry×Entry=>decide (q.1=q.2)) (a.zip b);rw[r]at c;rw[g,c]
 ·have j:decide (¬(a.length:Int)=b.length)=true:=by simp;omega
  simp -dsimp only[go_sem,seval,j];have : ¬a=b:=fun h=>d (by rw[h])
  simp[this]
theorem TK (a b:Config) (k:a.sane) (v: ∀l∈a.buf,CS l):Den Γ G 11 [(.agg [.t (ints (a).mem),.t (ints (a).at_),.t (.sl ((a).buf.map (fun b=>[.sl (b.map Entry.enc)])))]),(.agg [.t (ints (b).mem),.t (ints (b).at_),.t (.sl ((b).buf.map (fun b=>[.sl (b.map Entry.enc)])))])]=some (vb (decide (a=b))):=by
 refine aB (q:=?_)
 have z:=vN a.mem b.mem k.mem;have A:=vN a.at_ b.at_ k.at_;have C:=k.buf
 have p:decide (a=b)=(decide (a.mem=b.mem)&&decide (a.at_=b.at_)&&decide (a.buf=b.buf)):=by
  cases a;cases b;simp[vQ]
 rw[p];simp -dsimp only[go_sem,seval,z];refine aO A ?_ ?_<;>intro h<;>try exact⟨⟩<;>try exact h.elim
 ·simp[h]
 ·have s:a.mem=b.mem:=bB
  refine gy ?_ ?_<;>intro h<;>try exact⟨⟩<;>try exact h.elim
  ·simp[h]
  ·have t:a.at_=b.at_:=bB
   by_cases d:a.buf.length=b.buf.length
   ·have j:decide (¬(a.buf.length:Int)=b.buf.length)=false:=by simp[d]
    simp -dsimp only[go_sem,seval,j];rw[<- sG d];have r:=vH d;refine aZ 281474439839792 a.buf.length (fun i f=>(f 5).v=vi i/\((a.buf.zip b.buf).all fun q=>decide (q.1=q.2))=((a.buf.zip b.buf).drop i).all fun q=>decide (q.1=q.2)) rfl rfl ⟨am,rfl⟩ ?_;rintro i f u D bb hi ⟨e,g⟩;have w:=ay i aa;simp -dsimp only[go_sem,seval,e];refine aO e ?_ ?_<;>intro h<;>try exact⟨⟩<;>try exact h.elim
    ·obtain⟨x,m,o⟩:=au ‹i<a.buf.length›;obtain⟨y,n,_⟩:=au (show i<b.buf.length from aa);have c:=l6 m n;have B:=TF x y (v x o);simp -dsimp only[go_sem,seval,e,m,n,B];refine aO e ?_ ?_<;>intro h<;>try exact⟨⟩<;>try exact h.elim
     ·rw[g,dy c (ak h)];simp
     ·refine⟨aa,al w,?_⟩;rw[g,dz c (ak h)]
    ·have:i=a.buf.length:=aa
     subst this;have c:=dA (fun q:List Entry×List Entry=>decide (q.1=q.2)) (a.buf.zip b.buf);rw[r]at c;rw[g,c];simp[s,t]
   ·have j:decide (¬(a.buf.length:Int)=b.buf.length)=true:=by simp;omega
    simp -dsimp only[go_sem,seval,j];have : ¬a.buf=b.buf:=fun h=>d (by rw[h])
    simp[this]
end Rg
end
section
-- FULL
namespace Rg
open Go
structure Prog.lite (p:Prog):Prop where
 steps: ∀x∈p.threads,x.steps.length<2^50
 cname: ∀c∈p.cells,c.name.size<2^50
 mname: ∀m∈p.modules,m.name.size<2^50/\m.owner.size<2^50
 tname: ∀t∈p.threads,t.name.size<2^50
theorem Zf {l:List Thread}: ∀{n:Int},ma n l=true->0<=n-> ∀x∈l,x.steps.length<=24/\x.asserts.length<=48/\x.modules.length<=48/\x.loops.length<=8/\j7 x=true:=by
 induction l with
 | nil=>intro n _ _ x a;simp at a
 | cons y r c=>
   intro n h d x a;rw[ma]at h;split at h
   ·simp at h
   ·rename_i b;simp only[ld,rG]at b;rcases cj.1 a with rfl | a
    ·refine⟨aa,aa,aa,aa,b.2.2.2.2⟩
    ·exact c h aa x a
theorem QH {p:Prog} (g:p.lite) (h:jb p=true):p.sane:=by
 simp only[jb,zF,aQ,zN]at h;obtain⟨⟨⟨⟨⟨⟨q,r⟩,u⟩,v⟩,k⟩,n⟩,w⟩:=h;have i:=Zf k aa;refine⟨aa,aa,aa,aa,g.cname,?_,?_,?_,?_⟩
 ·intro m f;have:=n m f;simp only[lQ,zF,aQ]at this;exact⟨(g.mname m f).1,(g.mname m f).2,aa⟩
 ·intro t f;obtain⟨a,b,c,d,_⟩:=i t f;exact⟨g.tname t f,aa,aa,aa,aa⟩
 ·intro t f s o;obtain⟨_,_,_,_,e⟩:=i t f;simp only[j7,zF,zN,mg,aQ]at e;have:=e.1.1 s o;omega
 ·intro t f l j;obtain⟨_,_,_,_,e⟩:=i t f;simp only[j7,zF,zN,nf,aQ]at e;have:=e.2 l j;omega
end Rg
end
section
-- FULL
namespace Rg
open Go
end Rg
end
section
-- FULL
namespace Rg
open Go
theorem Cs (l:List Choice):(l.map Choice.enc).map (fun x=>x.map V.t)=bf l:=rfl
structure IsC (p:Prog) (c:Config):Prop where
 lm:c.mem.length=p.cells.length
 la:c.at_.length=p.threads.length
 lb:c.buf.length=p.threads.length
 mem: ∀(i:Nat) (v:Int) (y:Cell),c.mem[i]? =some v->p.cells[i]? =some y->0<=v/\v<2^y.w.toNat
 at_: ∀(i:Nat) (a:Int) (x:Thread),c.at_[i]? =some a->p.threads[i]? =some x-> -1<=a/\a<x.points/\(a= -1->x.asleep=true)
 buf: ∀b∈c.buf,b=[]
theorem kb8 {α β:Type} {l:List α} {m:List β} {f:α×β->Bool}:(l.zip m).all f=true<-> ∀(i:Nat) (a:α) (b:β),l[i]? =some a->m[i]? =some b->f (a,b)=true:=by
 rw[zN];constructor
 ·intro h i a b c d;exact h _ (zL (l6 c d))
 ·intro h q e;obtain⟨i,hi⟩:=eD e;rw[oz]at hi;exact h i _ _ hi.1 hi.2
theorem mV {p:Prog} {c:Config}:isM p c=true<->IsC p c:=by
 simp only[isM,jm,zF,aQ,kb8];simp only[iM,ig,zN,zF,aQ,eE,lF,en,nh,List.isEmpty_iff];constructor
 ·rintro⟨⟨⟨⟨⟨g,j⟩,k⟩,b⟩,l⟩,m⟩
  exact⟨g,j,l,k,fun i a x d e=>⟨(b i a x d e).1.1,(b i a x d e).1.2,fun f=>by
   rcases(b i a x d e).2 with h | h
   ·exact absurd f h
   ·exact h⟩,m⟩
 ·rintro⟨g,j,l,k,b,m⟩;refine⟨⟨⟨⟨⟨g,j⟩,k⟩,fun i a x d e=>⟨⟨(b i a x d e).1,(b i a x d e).2.1⟩,?_⟩⟩,l⟩,m⟩
  by_cases f:a= -1
  ·exact .inr ((b i a x d e).2.2 f)
  ·exact .inl f
theorem PO {p:Prog} (c:aM p=true):isM p (bz p)=true:=by
 rw[mV,bz,ah c];refine⟨af,af,af,?_,?_,?_⟩
 ·intro i v y f j;simp only[zJ,j,cZ,zA]at f;subst f;exact(qk c (zL j)).2.2
 ·intro i a x d g;simp only[zJ,g,cZ,zA]at d;have:=p' c g;subst d;split
  ·rename_i h;exact⟨aa,aa,fun _=>h⟩
  ·exact⟨aa,aa,aa⟩
 ·intro b e;simp only[cv]at e;obtain⟨_,_,rfl⟩:=e;rfl
theorem M0 (e:Expr) (b a:List Int):0<=e.eval b a/\e.eval b a<2^e.w.toNat:=by
 unfold Expr.eval;split
 ·rename_i h;exact tR b a 40 e (nw h)
 ·exact⟨aa,iN _⟩
theorem xy {p:Prog} {view:List Int}: ∀{set:List Assign} {c:List Int},
 (∀a∈set,∃y,p.cells[a.cell.toNat]? =some y/\a.to.w=y.w)->
 (∀(i:Nat) (v:Int) (y:Cell),c[i]? =some v->p.cells[i]? =some y->0<=v/\v<2^y.w.toNat)->
 ∀(i:Nat) (v:Int) (y:Cell),(bm c view set)[i]? =some v->p.cells[i]? =some y->0<=v/\v<2^y.w.toNat
 | [],c,_,hm=>hm
 | a::r,c,hw,hm=>by
   have:bm c view (a::r)=bm (c.set a.cell.toNat (a.to.eval view view)) view r:=rfl;rw[this];refine xy (fun b h=>hw b (gu _ h)) ?_;intro i v y d e;rw[cu]at d;split at d
   ·rename_i hi;split at d
    ·cases d;obtain⟨z,f,g⟩:=hw a ff;rw[hi,e]at f;cases f;rw[<- g];exact M0 _ _ _
    ·simp at d
   ·exact hm i v y d e
theorem kaR {p:Prog} (l:aM p=true) {c:Config} (f:isM p c=true) {t i:Nat} {x:Thread} {s:Step} (m:p.threads[t]? =some x) (o:x.steps[i]? =some s):isM p (h_ p c t s)=true:=by
 rw[mV]at f⊢;have h:=lf l m o;refine⟨by simp only[h_,iG];exact f.lm,?_,by simp[h_],?_,?_,?_⟩
 ·simp only[h_];split<;>simp <;>exact f.la
 ·exact xy h.wid f.mem
 ·have g: ∀(j:Nat) (a:Int) (z:Thread),(c.at_.set t s.to)[j]? =some a->p.threads[j]? =some z-> -1<=a/\a<z.points/\(a= -1->z.asleep=true):=by
   intro j a z d e;rw[cu]at d;split at d
   ·rename_i n;split at d
    ·cases d;subst n;rw[m]at e;cases e;have:=h.to;exact⟨aa,aa,aa⟩
    ·simp at d
   ·exact f.at_ j a z d e
  intro j a z d e;simp only[h_]at d;split at d
  ·rw[cu]at d;split at d
   ·split at d
    ·cases d;have:=p' l e;exact⟨aa,aa,aa⟩
    ·simp at d
   ·exact g j a z d e
  ·exact g j a z d e
 ·intro b k;simp only[h_,cv]at k;obtain⟨_,_,rfl⟩:=k;rfl
theorem SD {p:Prog} (e:aM p=true) {c:Config} (d:isM p c=true) {y:Choice} (f:y∈fD p c):
 ∃(t:Nat) (x:Thread) (i:Nat) (s:Step),p.threads[t]? =some x/\x.steps[i]? =some s/\iv p c t s=true/\y=⟨t,i,0⟩/\jZ p c y=(h_ p c t s,0)/\isM p (h_ p c t s)=true:=by
 obtain⟨t,x,i,s,b,a,g,rfl⟩:=wu.1 f;refine⟨t,x,i,s,b,a,g,rfl,?_,kaR e d b a⟩;rw[jZ,e,d];simp only[sH,aT,(Sn _ _).2 f];simp[rN,lx,b,a]
theorem Yh {p:Prog} (b:aM p=true) {c:Config} (a:isM p c=true):pJ p c=fD p c:=by
 rw[pJ,b,a];rfl
namespace Expr
mutual
def mapL (f:Expr->Expr):Expr->Expr
 | .mk o w n []=>f (.mk o w n [])
 | .mk o w n (k::ks)=> .mk o w n (mapL f k::Tx f ks)
def Tx (f:Expr->Expr):List Expr->List Expr
 | []=>[]
 | e::r=>mapL f e::Tx f r
end
end Expr
def asg (set:List Assign) (c:Int):Option Expr:=(set.find? fun a=>decide (a.cell=c)).map Assign.to
structure SetOk (p:Prog) (set:List Assign):Prop where
 rng: ∀a∈set,inR a.cell p.cells.length=true/\a.to.valid p.cells false=true
 wid: ∀a∈set,∃y,p.cells[a.cell.toNat]? =some y/\a.to.w=y.w
 dif: ∀(i j:Nat) (a b:Assign),set[i]? =some a->set[j]? =some b->a.cell=b.cell->i=j
def wOf (p:Prog) (c:Int):Nat:=match p.cells[c.toNat]? with
 | some x=>x.w.toNat
 | none=>0
def stM (p:Prog):List Int->Int->List Int->List Int
 | [],_,s=>s
 | c::r,n,s=>stM p r (n/ 2^wOf p c) (s.set c.toNat (n % 2^wOf p c))
def cM (p:Prog) (l:List Int):Nat:=(l.map (wOf p)).sum
theorem ve {p:Prog}: ∀(l:List Int) (n:Int) (s:List Int),(stM p l n s).length=s.length
 | [],_,_=>rfl
 | c::r,n,s=>by rw[stM,ve r];simp
def rM (p:Prog) (l:List Int) (A V:Expr) (x:List Int×Int) (n:Nat):List Int×Int:=
 (stM p l n x.1,if A.eval (stM p l n x.1) (stM p l n x.1)=1 then(if V.eval (stM p l n x.1) (stM p l n x.1)>x.2 then V.eval (stM p l n x.1) (stM p l n x.1)else x.2)else x.2)
def dm (p:Prog) (l:List Int) (A V:Expr) (k:Nat):List Int×Int:=(List.range k).foldl (rM p l A V) (List.replicate p.cells.length 0,0)
def zu (p:Prog) (l:List Int) (A V:Expr):Int:=(dm p l A V (2^cM p l)).2
theorem t_ (p:Prog) (l:List Int) (A V:Expr) (k:Nat):dm p l A V (k+1)=rM p l A V (dm p l A V k) k:=by
 rw[dm,sU,f8];rfl
theorem xq (p:Prog) (l:List Int) (A V:Expr): ∀k,(dm p l A V k).1.length=p.cells.length
 | 0=>by simp[dm]
 | k+1=>by rw[t_,rM];simp only[ve];exact xq p l A V k
def dq (l:Loop) (a:Int):Bool:=decide (a=l.head)||l.body.contains a
def cg (t:Int) (x:Choice):Bool:=decide (x.thread=t)&&decide (x.step≠ -1)
structure It where
 c:Config
 best:Int
 arr:Int
def It.see (l:Loop) (s:It) (b:Config) (a:Int) (mv:Bool):It:=
 ⟨b,if(if !dq l a then 0 else if mv&&decide (a=l.head)then s.arr+1 else s.arr)-1>s.best then(if !dq l a then 0 else if mv&&decide (a=l.head)then s.arr+1 else s.arr)-1 else s.best,
   if !dq l a then 0 else if mv&&decide (a=l.head)then s.arr+1 else s.arr⟩
def itS (nx:Config->Choice->Config) (t:Int) (l:Loop) (s:It) (x:Choice):It:=
 s.see l (nx s.c x) (atI (nx s.c x).at_ t) (cg t x||decide (atI s.c.at_ t= -1))
def it0 (t:Int) (l:Loop) (c:Config):It:=⟨c,0,if atI c.at_ t=l.head then 1 else 0⟩
def itM (nx:Config->Choice->Config) (t:Int) (l:Loop) (c:Config) (a:List Choice):It:=a.foldl (itS nx t l) (it0 t l c)
theorem kbt (nx:Config->Choice->Config) (t:Int) (l:Loop) (c:Config) (a:List Choice) (x:Choice):itM nx t l c (a++[x])=itS nx t l (itM nx t l c a) x:=by
 rw[itM,f8];rfl
theorem CT (nx:Config->Choice->Config) (t:Int) (l:Loop): ∀(a:List Choice) (c:Config) (s:It),s.c=c->(a.foldl (itS nx t l) s).c=a.foldl nx c
 | [],_,_,h=>h
 | x::r,c,s,h=>by
   rw[eQ,eQ];exact CT nx t l r _ _ (by rw[itS,It.see,h])
structure It.Ok (t:Int) (s:It) (n:Int):Prop where
 b0:0<=s.best
 a0:0<=s.arr
 ab:s.arr<=s.best+1
 bn:s.best<=n
 an:s.arr<=n+1
 az:atI s.c.at_ t= -1->s.arr=0
theorem It.Ok.init {t:Int} {l:Loop} {c:Config} (a:l.head≠ -1):(it0 t l c).Ok t 0:=by
 refine⟨gz _,?_,?_,gz _,?_,fun h=> ?_⟩<;>simp only[it0]at * <;>(try split)<;>(try omega)
theorem It.Ok.step {nx:Config->Choice->Config} {t:Int} {l:Loop} {s:It} {n:Int} (h:s.Ok t n) (m:dq l (-1)=false) (x:Choice):
 (itS nx t l s x).Ok t (n+if cg t x then 1 else 0)/\s.best<=(itS nx t l s x).best/\(itS nx t l s x).best<=s.best+1:=by
 obtain⟨p,q,r,u,v,k⟩:=h
 generalize g:nx s.c x=j
 generalize c:atI j.at_ t=a
 have o:(0:Int)<=(if cg t x=true then 1 else 0):=by split<;>omega
 have i:(cg t x||decide (atI s.c.at_ t= -1))=true->(cg t x=true\/s.arr=0):=by
  intro h;simp only[eH,aQ]at h;exact h.imp id k
 have d:dq l a=true->a≠ -1:=fun h e=>by rw[e,m]at h;cases h
 simp only[itS,It.see,g,c];cases hi:dq l a
 ·simp only[lB,aT];refine⟨⟨?_,?_,?_,?_,?_,?_⟩,?_,?_⟩<;>(try dsimp only)<;>(try split)<;>(try omega)
 ·simp only[iA,aX,zG];cases f:(cg t x||decide (atI s.c.at_ t= -1))&&decide (a=l.head)
  ·simp only[aX,zG];refine⟨⟨?_,?_,?_,?_,?_,fun e=>absurd (c.symm.trans e) (d hi)⟩,?_,?_⟩<;>(try dsimp only)<;>(try split)<;>(try omega)
  ·simp only[aT];simp only[zF]at f;have b:=i f.1;refine⟨⟨?_,?_,?_,?_,?_,fun e=>absurd (c.symm.trans e) (d hi)⟩,?_,?_⟩<;>(try dsimp only)
   all_goals(rcases b with b | b<;>(try rw[b])<;>(try simp only[aT])<;>(try split)<;>omega)
inductive Rch (E:Nat->Nat->Prop):Nat->Nat->Prop where
 | refl (a:Nat):Rch E a a
 | cons {a b c:Nat} (h:E a b) (r:Rch E b c):Rch E a c
theorem Rch.trans {E:Nat->Nat->Prop} {a b c:Nat} (e:Rch E a b) (d:Rch E b c):Rch E a c:=by
 induction e with
 | refl=>exact d
 | cons h _ f=>exact .cons h (f d)
theorem Rch.snoc {E:Nat->Nat->Prop} {a b c:Nat} (d:Rch E a b) (e:E b c):Rch E a c:=d.trans (.cons e (.refl _))
structure DfsOrd (E:Nat->Nat->Prop) (ord:List Nat) (S:Nat->Nat->Prop):Prop where
 succ: ∀(i u v:Nat),ord[i]? =some u->E u v->S i v
 mono: ∀(i j v:Nat),i<=j->j<ord.length->S i v->S j v
 gray: ∀(i u v:Nat),ord[i]? =some u->S i v->(∃j,j<=i/\ord[j]? =some v)\/Rch E v u
inductive Pln (E:Nat->Nat->Prop) (ord:List Nat) (m r:Nat):Nat->Nat->Prop where
 | root (h:ord[m]? =some r):Pln E ord m r 0 r
 | step {k j v a:Nat} (hj:ord[j]? =some a) (hm:j<=m) (h:E a v) (t:Pln E ord m r k v):Pln E ord m r (k+1) a
theorem Pln.at {E:Nat->Nat->Prop} {a:List Nat} {m r k u:Nat} (h:Pln E a m r k u): ∃j,j<=m/\a[j]? =some u:=by
 cases h with
 | root h=>exact⟨m,ax _,h⟩
 | step b c _ _=>exact⟨_,c,b⟩
theorem Pln.rch {E:Nat->Nat->Prop} {a:List Nat} {m r k u:Nat} (h:Pln E a m r k u):Rch E u r:=by
 induction h with
 | root h=>exact .refl _
 | step _ _ h _ b=>exact .cons h b
theorem Pln.first {E:Nat->Nat->Prop} {b:List Nat} {S:Nat->Nat->Prop} (e:DfsOrd E b S) {m r i:Nat} (o:i<m) {k w:Nat} (h:Pln E b m r k w) (f:S i w):
 ∃c w' j,Pln E b m r c w'/\c<=k/\b[j]? =some w'/\i<j/\S i w':=by
 induction h with
 | root h=>exact⟨0,r,m,.root h,ax _,h,o,f⟩
 | @step k j v a hj hm he t d=>
   rcases bv i j with l | n
   ·exact⟨k+1,a,j,.step hj hm he t,ax _,hj,l,f⟩
   ·have hi:i<b.length:=by
     obtain⟨g,s,y⟩:=t.at
     have:m<b.length:=by
      have : ∀{k u},Pln E b m r k u->m<b.length:=by
       intro k u h
       induction h with
       | root h=>exact(zH.1 h).1
       | step _ _ _ _ d=>exact d
      exact this t
     omega
    obtain⟨c,w',g,p,x,q⟩:=d (e.mono j i v n hi (e.succ j a v hj he));exact⟨c,w',g,p,aa,q⟩
theorem kas {E:Nat->Nat->Prop} {a:List Nat} {S:Nat->Nat->Prop} (c:DfsOrd E a S) (l:a.Nodup) {m r:Nat}: ∀(n k u:Nat),k<=n->Pln E a m r k u->Rch E r u:=by
 intro n
 induction n with
 | zero=>
   intro k u w h
   cases h with
   | root h=>exact .refl _
   | step _ _ _ _=>omega
 | succ n d=>
   intro k u w h
   cases h with
   | root h=>exact .refl _
   | @step k j v _ hj hm he t=>
     rcases bv j m with e | e
     ·obtain⟨y,w',x,o,z,p,A,q⟩:=t.first c e (c.succ j u v hj he);have b:=d y w' aa o;rcases c.gray j u w' hj q with⟨i,hi,f⟩ | s
      ·have g:=(zH.1 f).1;have:i=x:=(wm g l).1 (f.trans p.symm);omega
      ·exact b.trans s
     ·have b:a[m]? =some r:=by
       have : ∀{k u},Pln E a m r k u->a[m]? =some r:=by
        intro k u h
        induction h with
        | root h=>exact h
        | step _ _ _ _ d=>exact d
       exact this t
      have:j=m:=aa
      subst this;rw[hj]at b;cases b;exact .refl _
def iz (E:Nat->List (Nat×Choice)):Nat->List Choice->Nat->Prop
 | u,[],w=>u=w
 | u,x::r,w=> ∃v,(v,x)∈E u/\iz E v r w
theorem iz.app {E:Nat->List (Nat×Choice)}: ∀{r s:List Choice} {u v w:Nat},iz E u r v->iz E v s w->iz E u (r++s) w
 | [],s,u,v,w,h1,h2=>by cases h1;exact h2
 | x::r,s,u,v,w,⟨v',h,h1⟩,h2=>⟨v',h,iz.app h1 h2⟩
def kW (E:Nat->List (Nat×Choice)) (u v:Nat):Prop:= ∃x,(v,x)∈E u
theorem iz.rch {E:Nat->List (Nat×Choice)}: ∀{r:List Choice} {u w:Nat},iz E u r w->Rch (kW E) u w
 | [],u,w,h=>by cases h;exact .refl _
 | x::r,u,w,⟨v,h,hr⟩=> .cons ⟨x,h⟩ (iz.rch hr)
structure PathOk (E:Nat->List (Nat×Choice)) (s n:Nat) (par:List Int) (ch:List Choice) (q:List Nat) (i:Nat):Prop where
 lp:par.length=n
 lc:ch.length=n
 le:i<=q.length
 z:q[0]? =some s
 nd:q.Nodup
 lt: ∀v∈q,v<n
 met: ∀v,v<n->(v∈q<->par.getD v (-1)≠ -1)
 pre: ∀(j v:Nat),0<j->q[j]? =some v-> ∃(k u:Nat),k<j/\q[k]? =some u/\par.getD v (-1)=u/\(v,ch.getD v ⟨0,0,0⟩)∈E u
 cl: ∀(j u:Nat),j<i->q[j]? =some u-> ∀e∈E u,e.1<n->e.1∈q
theorem PathOk.add {E:Nat->List (Nat×Choice)} {s n:Nat} {d:List Int} {m:List Choice} {q:List Nat} {i u v:Nat} {x:Choice} (h:PathOk E s n d m q i) (y:q[i]? =some u) (P:(v,x)∈E u) (g:v<n)
 (A:d.getD v (-1)= -1):PathOk E s n (d.set v u) (m.set v x) (q++[v]) i:=by
 have r:v∉ q:=fun O=>(h.met v g).1 O A
 have G:=(zH.1 y).1;refine⟨by simp[h.lp],by simp[h.lc],by simp;omega,by rw[bR aa];exact h.z,?_,?_,?_,?_,?_⟩
 ·rw[o7];exact⟨h.nd,af,fun a M b t C=>by simp only[bD]at t;subst t C;exact r M⟩
 ·intro w c;rcases cA.1 c with c | c
  ·exact h.lt w c
  ·simp only[bD]at c;subst c;exact g
 ·intro w c;have l:v<d.length:=by rw[h.lp];exact g
  by_cases f:v=w
  ·subst f;simp[zK,cu,l]
  ·have:=h.met w c;simp only[cA,bD,zK,cu,ac f]at this⊢;rw[this];exact⟨fun o=>o.resolve_right fun e=>f e.symm,.inl⟩
 ·intro j w p c;rcases bv j q.length with z | B
  ·rw[bR z]at c;obtain⟨k,Q,I,J,K,L⟩:=h.pre j w p c;have f:v≠w:=fun e=>r (e▸zL c)
   refine⟨k,Q,I,by rw[bR aa];exact J,?_,?_⟩
   ·simpa[zK,cu,ac f]using K
   ·simpa[zK,cu,ac f]using L
  ·rw[eF B]at c
   have H:j-q.length=0:=by
    have:=(zH.1 c).1;simp at this;omega
   rw[H]at c;cases c;have l:v<d.length:=by rw[h.lp];exact g
   have F:v<m.length:=by rw[h.lc];exact g
   refine⟨i,u,aa,by rw[bR G];exact y,?_,?_⟩
   ·simp[zK,cu,l]
   ·simpa[zK,cu,F]using P
 ·intro j w p c e N D;have:=h.le;rw[bR aa]at c;exact ik _ (h.cl j w p c e N D)
theorem PathOk.back {E:Nat->List (Nat×Choice)} {s n:Nat} {b:List Int} {c:List Choice} {q:List Nat} {i:Nat} (h:PathOk E s n b c q i): ∀(j v:Nat),q[j]? =some v->Rch (kW E) s v:=by
 intro j
 induction j using Nat.strongRecOn with
 | _ j l=>
   intro v a
   by_cases g:j=0
   ·subst g;rw[h.z]at a;cases a;exact .refl _
   ·obtain⟨k,u,d,e,m,f⟩:=h.pre j v aa a;exact(l k d u e).snoc ⟨_,f⟩
theorem PathOk.all {E:Nat->List (Nat×Choice)} {s n:Nat} {d:List Int} {l:List Choice} {q:List Nat} (h:PathOk E s n d l q q.length) (m: ∀u,u<n-> ∀e∈E u,e.1<n) {w:Nat} (p:Rch (kW E) s w):w∈q:=by
 have c: ∀{a b:Nat},Rch (kW E) a b->a∈q->b∈q:=by
  intro a b k
  induction k with
  | refl=>exact id
  | cons o _ r=>
    intro f;obtain⟨x,i⟩:=o;obtain⟨j,g⟩:=eD f;exact r (h.cl j _ (zH.1 g).1 g _ i (m _ (h.lt _ f) _ i))
 exact c p (zL h.z)
theorem StepOk.set {p:Prog} {t:Int} {x:Thread} {s:Step} (h:StepOk p t x s):SetOk p s.set:=⟨h.rng.2,h.wid,h.dif⟩
end Rg
end
section
set_option maxRecDepth 10000
namespace Rg
open Go
end Rg
end
section
set_option maxRecDepth 10000
namespace Rg
open Go
structure Proper (p:Prog) (e:Entry):Prop where
 ne:e.cells≠[]
 len:e.values.length=e.cells.length
 nd:e.cells.Nodup
 cell: ∀(i:Nat) (n v:Int),e.cells[i]? =some n->e.values[i]? =some v->0<=n/\ ∃y,p.cells[n.toNat]? =some y/\y.thread= -1/\y.ghost=decide (0<i)/\0<=v/\v<2^y.w.toNat
structure IsB (p:Prog) (c:Config):Prop where
 lm:c.mem.length=p.cells.length
 la:c.at_.length=p.threads.length
 lb:c.buf.length=p.threads.length
 mem: ∀(i:Nat) (v:Int) (y:Cell),c.mem[i]? =some v->p.cells[i]? =some y->0<=v/\v<2^y.w.toNat
 at_: ∀(i:Nat) (a:Int) (x:Thread),c.at_[i]? =some a->p.threads[i]? =some x-> -1<=a/\a<x.points/\(a= -1->x.asleep=true)
 buf: ∀(t:Nat) (b:List Entry),c.buf[t]? =some b->b.length<=3/\(∀e∈b,Proper p e)/\(c.at_[t]? =some (-1)->b=[])
def d6 (m:List Int) (e:Entry):List Int:=(e.cells.zip e.values).foldl (fun m q=>m.set q.1.toNat q.2) m
def aF (c:Config) (t:Nat):List Entry:=c.buf.getD t []
def aK (c:Config) (t:Nat):List Int:=(aF c t).foldl d6 c.mem
def lW (a b:Entry):Bool:=b.cells.any fun n=>a.cells.contains n
def jj (older:List Entry) (e:Entry):Bool:=older.any fun o=>lW o e
def dk (k:Int) (b:List Entry) (i:Nat) (e:Entry):Bool:=decide (i=0)||(decide (k=2)&& !jj (b.take i) e)
def db (p:Prog) (c:Config) (t:Nat) (s:Step):Bool:=
 decide (atI c.at_ t=s.fr)&&decide (s.guard.eval (aK c t) (aK c t)=1)&&
  (if s.kind=3 then(if s.release then decide ((aF c t).length=0)else decide ((aF c t).length<3))
   else if s.kind=4\/s.kind=5 then decide ((aF c t).length=0)
   else if s.kind=6 then decide ((aF c t).length=0)&&decide (atI c.at_ s.target= -1)
   else if s.kind=7 then decide ((aF c t).length=0)&&(decide (atI c.at_ s.target=kF p s.target-1)&&decide ((aF c s.target.toNat).length=0))
   else true)
def fE (p:Prog) (c:Config) (t:Nat) (x:Thread) (i:Nat):List Choice:=
 (x.steps.take i).zipIdx.filterMap fun q=>if db p c t q.1 then some ⟨t,q.2,0⟩else none
def cn (e:Entry):Int:=e.cells.headD 0
def iU (k:Int) (t:Nat) (b:List Entry) (i:Nat):List Choice:=
 (b.take i).zipIdx.filterMap fun q=>if dk k b q.2 q.1 then some ⟨t,-1,cn q.1⟩else none
def eI (p:Prog) (k:Int) (c:Config) (i:Nat):List Choice:=
 (p.threads.take i).zipIdx.flatMap fun q=>fE p c q.2 q.1 q.1.steps.length++iU k q.2 (aF c q.2) (aF c q.2).length
def lN (p:Prog) (k:Int) (c:Config):List Choice:=eI p k c p.threads.length
def a_ (p:Prog) (a:Assign):Bool:=cL p a.cell fun y=>decide (y.thread= -1)
def mH (p:Prog) (view:List Int) (set:List Assign):Entry:=⟨(set.filter (a_ p)).map Assign.cell,(set.filter (a_ p)).map fun a=>a.to.eval view view⟩
def eg (p:Prog) (c:Config) (t:Nat) (s:Step):Config:=
 ⟨bm c.mem (aK c t) (if s.kind=3 then s.set.filter (fun a=> !a_ p a)else s.set),
  if s.kind=6 then(c.at_.set t s.to).set s.target.toNat 0 else c.at_.set t s.to,
  if s.kind=3 then c.buf.set t (aF c t++[mH p (aK c t) s.set])else c.buf⟩
def c6 (c:Config) (t i:Nat):Config:=match(aF c t)[i]? with
 | some e=>⟨d6 c.mem e,c.at_,c.buf.set t ((aF c t).eraseIdx i)⟩
 | none=>eO
def l_ (k:Int) (b:List Entry) (n:Int):Option Nat:=(List.range b.length).find? fun i=>match b[i]? with
 | some e=>dk k b i e&&decide (cn e=n)
 | none=>false
def ef (p:Prog) (k:Int) (c:Config) (x:Choice):Config×Int:=
 if x.thread<0\/(p.threads.length:Int)<=x.thread\/x.step< -1 then(eO,110)
 else if x.step= -1 then(match l_ k (aF c x.thread.toNat) x.cell with
  | some i=>(c6 c x.thread.toNat i,0)
  | none=>(eO,110))
 else match lx p x with
  | some s=>if decide (x.cell=0)&&db p c x.thread.toNat s then(eg p c x.thread.toNat s,0)else(eO,110)
  | none=>(eO,110)
theorem R9 {c:Config} {t:Nat} {b:List Entry} (h:c.buf[t]? =some b):aF c t=b:=by simp[aF,List.getD,h]
theorem fA {c:Config} {t:Nat} (h:t<c.buf.length):c.buf[t]? =some (aF c t):=by simp[aF,List.getD,zI h]
theorem tp: ∀(l:List (Int×Int)) (m:List Int),(l.foldl (fun m q=>m.set q.1.toNat q.2) m).length=m.length
 | [],m=>rfl
 | q::l,m=>by rw[eQ,tp l];simp
theorem xN (m:List Int) (e:Entry):(d6 m e).length=m.length:=tp _ m
theorem ql: ∀(l:List Entry) (m:List Int),(l.foldl d6 m).length=m.length
 | [],m=>rfl
 | e::l,m=>by rw[eQ,ql l,xN]
theorem kam (c:Config) (t:Nat):(aK c t).length=c.mem.length:=ql _ _
theorem KM {p:Prog}: ∀(l:List (Int×Int)) (m:List Int),(∀q∈l,∀y,p.cells[q.1.toNat]? =some y->0<=q.2/\q.2<2^y.w.toNat)->
 (∀(i:Nat) (v:Int) (y:Cell),m[i]? =some v->p.cells[i]? =some y->0<=v/\v<2^y.w.toNat)->
 ∀(i:Nat) (v:Int) (y:Cell),(l.foldl (fun m q=>m.set q.1.toNat q.2) m)[i]? =some v->p.cells[i]? =some y->0<=v/\v<2^y.w.toNat
 | [],m,_,hm=>hm
 | q::l,m,hl,hm=>by
   rw[eQ];refine KM l _ (fun r c=>hl r (gu _ c)) ?_;intro i v y a b;rw[cu]at a;split at a
   ·rename_i hi;split at a
    ·cases a;subst hi;exact hl q ff y b
    ·simp at a
   ·exact hm i v y a b
theorem Kb {p:Prog} {e:Entry} (h:Proper p e) {q:Int×Int} (f:q∈e.cells.zip e.values):0<=q.1/\ ∃y,p.cells[q.1.toNat]? =some y/\y.thread= -1/\0<=q.2/\q.2<2^y.w.toNat:=by
 obtain⟨i,hi⟩:=eD f;rw[oz]at hi;obtain⟨a,y,b,c,_,d⟩:=h.cell i q.1 q.2 hi.1 hi.2;exact⟨a,y,b,c,d⟩
theorem kaY {p:Prog} {e:Entry} (b:Proper p e) {m:List Int} (c: ∀(i:Nat) (v:Int) (y:Cell),m[i]? =some v->p.cells[i]? =some y->0<=v/\v<2^y.w.toNat):
 ∀(i:Nat) (v:Int) (y:Cell),(d6 m e)[i]? =some v->p.cells[i]? =some y->0<=v/\v<2^y.w.toNat:=by
 refine KM _ m (fun q d y f=> ?_) c;obtain⟨_,z,a,_,h⟩:=Kb b d;rw[f]at a;cases a;exact h
theorem lK {p:Prog} {e:Entry} (h:Proper p e) {n:Int} (f:n∈e.cells):0<=n/\n.toNat<p.cells.length/\ ∃y,p.cells[n.toNat]? =some y/\y.thread= -1:=by
 obtain⟨i,hi⟩:=eD f;have b:i<e.values.length:=by rw[h.len];exact(zH.1 hi).1
 obtain⟨c,y,a,d,_⟩:=h.cell i n _ hi (zI b);exact⟨c,(zH.1 a).1,y,a,d⟩
theorem up: ∀(n:Nat) (l:List Int),l.Nodup->(∀x∈l,0<=x/\x<n)->l.length<=n
 | 0,[],_,_=>ax _
 | 0,x::l,_,hl=>by have:=hl x ff;omega
 | n+1,l,Bt,hl=>by
   have h:=up n (l.erase (n:Int)) (Bt.erase _) fun x b=>by
    have a:=Bt.mem_erase_iff.1 b;have c:=hl x a.2;have d:=a.1;omega
   rw[List.length_erase]at h;split at h<;>omega
theorem g6 {p:Prog} {e:Entry} (h:Proper p e):e.cells.length<=p.cells.length:=
 up _ _ h.nd fun x a=>by have:=lK h a;omega
end Rg
end
