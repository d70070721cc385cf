/- Part of the proof of laws of relyguardlaw36. No condition. -/
import Derived.Test.YtaiokglcgiemnaaGreatDoorFartAM
set_option linter.unusedSimpArgs false
set_option linter.unusedVariables false
set_option linter.defProp false
section
namespace Rg
open Go
theorem Rc (p:Prog):IsF (.fa 100 [.sl (p.cells.map Cell.enc),.sl (p.modules.map Contract.enc),.sl (p.locks.map Lock.enc),.sl (p.threads.map Thread.enc)]) (bq p (-1)):=
 kcT (by simp[T.norm]) (fun n=>rl p n)
theorem WW (p:Prog) (c:Int):eZ p (-1) c=bq p (-1) c:=by simp[eZ]
theorem Xw (p:Prog):lV p true (-1)=bq p (-1):=by funext c;simp[lV,WW]
theorem xU (p:Prog) (t:Int):lV p true t=eZ p t:=by funext c;simp[lV]
theorem yO (p:Prog) (t:Int):lV p false t=bq p t:=by funext c;simp[lV]
theorem xp (p:Prog) (e:Expr) (pair:Bool):Den Γ G 99 [(zP p),(.agg [.t (ti (e).op),.t (ti (e).w),.t (ti (e).n),.t (.sl ((e).kids.map (Expr.enc)))]),vb pair,.t (.fa 100 [.sl (p.cells.map Cell.enc),.sl (p.modules.map Contract.enc),.sl (p.locks.map Lock.enc),.sl (p.threads.map Thread.enc)])]=some (vb (cE p e pair (-1))):=by
 rw[Sa p e pair _ _ (Rc p),cE,c9,Xw]
theorem Xn (p:Prog) (t:p.sane):Den Γ G 81 [(zP p)]=some (vi (fp p)):=by
 refine aB (q:=aE ?_);have L:=t.modules;refine aS 4611686018427385892 p.modules.length (fun i f h x=>(f 11).v=vi i/\h 2=some (.map (eJ ((p.modules.take i).map Contract.name)))/\fp p=(a7 (hD p) i (p.modules.drop i)).1) rfl ⟨am,by simp -dsimp only[go_sem,seval];rfl,rfl⟩ ?_;rintro i f u H x bs hi ⟨a,z,j⟩;have K:=ay i aa;refine aC a ?_;refine aO a ?_ ?_<;>intro h
 ·obtain⟨c,e,y⟩:=au ‹i<p.modules.length›;obtain⟨_,_,N⟩:=t.mname c y
  have b: ∀k:Int,k≠0->hD p i c=k->fp p=k:=fun k I s=>by
   rw[j,g9 e (by rw[s];exact I)];exact s
  have J:=t6 c.name;have A:=t6 c.owner;refine bj a e J ?_;refine dI a A ?_ ?_<;>intro h
  ·rw[b 1 aG (by simp[hD,h])]
  ·have o:ee c.name=true:=bB
   refine aO a ?_ ?_<;>intro h
   ·rw[b 1 aG (by simp[hD,h])]
   ·have q:ee c.owner=true:=bB
    have C:=fun n=>OO 2 c.name ((p.modules.take i).map Contract.name) H n z
    have l:((p.modules.take i).map Contract.name).any (fun d=>d.toList==c.name.toList)=(p.modules.take i).any (fun d=>d.name.toList==c.name.toList):=by rw[ra];rfl
    refine be (C _) ?_;rintro r h' M ⟨rfl,m⟩;rw[l]at m;refine aR a l ?_;have B:=Xk c.rely;have F:=xp p c.rely true;have E:=xp p c.guar true;refine dI a B ?_ ?_<;>intro h
    ·rw[b 41 aG (by rw[hD,ac (by simp[o,q]),ah h])]
    ·have g:hD p i c=if(!c.rely.absent&& !cE p c.rely true (-1)) || !cE p c.guar true (-1)then 60 else if !fY c.frame || !c.frame.all (bq p (-1))then 1 else 0:=by
      rw[hD,ac (by simp[o,q]),ac (by simp[h])]
     have v:=m h;have D:=Jl c.frame aa;have w:=rq _ _ (Rc p) c.frame aa
     repeat'(refine lj a F E D w ?_ ?_<;>intro h)
     all_goals first
      | (rw[b 60 aG (by rw[g];simp[*])];done)
      | (rw[b 1 aG (by rw[g];simp[*])];done)
      | (refine⟨aa,al K,?_,?_⟩
         ·refine aC v ?_;rw[a8 e];simp
         ·rw[j,iL e (by rw[g];simp[*])])
 ·have:i=p.modules.length:=aa
  subst this;rw[j,iT]
theorem Lp {p:Prog} {t c:Int} (h:bq p t c=true):0<=c/\ ∃x,p.cells[c.toNat]? =some x/\x.thread=t:=by
 unfold bq at h;simp only[zF,aQ]at h;refine⟨h.1,?_⟩;rcases a:p.cells[c.toNat]? with _ | x
 ·rw[a]at h;simp at h
 ·rw[a]at h;exact⟨x,rfl,ak h.2⟩
theorem ZG (p:Prog) (I:p.sane):Den Γ G 82 [(zP p)]=some (vi (fG p)):=by
 refine aB (q:=aE ?_);have L:=I.locks;refine aS 9444732965739290419428 p.locks.length (fun i f h x=>(f 13).v=vi i/\h 2=some (.map (mf ((p.locks.take i).map Lock.cell)))/\fG p=(a7 (ix p) i (p.locks.drop i)).1) rfl ⟨am,by simp -dsimp only[go_sem,seval];rfl,rfl⟩ ?_;rintro i f u N x bs hi ⟨a,m,q⟩;have K:=ay i aa;refine aC a ?_;refine aO a ?_ ?_<;>intro h
 ·obtain⟨l,b,M⟩:=au ‹i<p.locks.length›
  have e: ∀k:Int,k≠0->ix p i l=k->fG p=k:=fun k H w=>by
   rw[q,g9 b (by rw[w];exact H)];exact w
  have B:=rl p l.cell;have F:=iJ l.module p.modules.length;have J:=xp p l.inv false;have o:((p.locks.take i).map Lock.cell).any (fun d=>decide (d=l.cell))=(p.locks.take i).any (fun d=>decide (d.cell=l.cell)):=by rw[ra];rfl
  have j:=yI l.cell ((p.locks.take i).map Lock.cell);rw[o]at j;refine bj a b B ?_;refine aO a ?_ ?_<;>intro h
  ·rw[e 1 aG (by simp[ix,h])]
  ·have A:bq p (-1) l.cell=true:=bB
   obtain⟨t,y,n,_⟩:=Lp A;have s:=fh (g:=fun x=>decide (x.w=1)) n;have r:=fh (g:=Cell.ghost) n;refine cV a b t n ?_;refine lq a b t n ?_ ?_<;>intro h
   ·rw[e 1 aG (by rw[ix,ah (by rw[s];simp[h])])]
   ·have D:y.w=1:=bB
    refine bp (fun h=> ?_) (fun h=> ?_)<;>(try rw[h])<;>(try simp only[bg]at h)<;>(try simp -dsimp only[go_sem,seval,a,b,m,j,kf,gJ,ml,zG,aT,aX])
    ·rw[e 1 aG (by rw[ix,ah (by rw[r];simp[h])])]
    ·have E:y.ghost=false:=bB
     have c:ix p i l=if !inR l.module p.modules.length then 1 else if(p.locks.take i).any (fun d=>decide (d.cell=l.cell))then 1 else if !cE p l.inv false (-1)then 60 else 0:=by
      rw[ix,A,s,r,D,E];simp
     cases z:(p.locks.take i).any (fun d=>decide (d.cell=l.cell))
     ·rw[z]at j o c;have C:=wW l.cell _ o;simp -dsimp only[go_sem,seval,a,b,m,j,kf,gJ,ml,zG,aT,aX,F];refine lj a b m C J ?_ ?_<;>intro h
      ·rw[e 1 aG (by rw[c];simp[h])]
      ·have v:inR l.module p.modules.length=true:=bB
       refine aO a ?_ ?_<;>intro h
       ·rw[e 60 aG (by rw[c];simp[h,v])]
       ·refine⟨aa,al K,?_,?_⟩
        ·refine aE ?_;rw[a8 b];simp
        ·rw[q,iL b (by rw[c];simp[h,v])]
     ·rw[z]at j c;simp -dsimp only[go_sem,seval,a,b,m,j,kf,gJ,ml,zG,aT,aX];rw[e 1 aG (by rw[c];simp)]
 ·have:i=p.locks.length:=aa
  subst this;rw[q,iT]
def xo (F:T) (P:Int->Bool) (D:Int->Prop):Prop:=T.norm F=F/\ ∃g a b,cD (.t F)=some (g,a,b)/\(∀(h:ae) (n:Int),(a++[vi n]++b).mapM (toT1 h)=some (a++[vi n]++b))/\
 (∀n:Int,(a++[vi n]++b).all V.tree=true)/\ ∀n:Int,D n->Den Γ G g (a++[vi n]++b)=some (vb (P n))
theorem IsF.on {F:T} {P:Int->Bool} (h:IsF F P):xo F P (fun _=>True):=by
 obtain⟨c,g,a,b,d,e,f,i⟩:=h;exact⟨c,g,a,b,d,e,f,fun n _=>i n⟩
theorem wy (set:List Assign) (F:T) (P:Int->Bool) (D:Int->Prop) (n:xo F P D) (l: ∀a∈set,D a.cell) (t:set.length<2^48):
 Den Γ G 162 [.t (.sl (set.map Assign.enc)),.t F]=some (vb (set.all fun a=>P a.cell)):=by
 refine aB (q:=?_)
 obtain⟨_,g,a,b,q,r,o,p⟩:=n;have m:=yx q;refine aE ?_;refine aZ 523856 set.length (fun i f=>(f 9).v=vi i/\(set.all fun a=>P a.cell)=(set.drop i).all fun a=>P a.cell) rfl rfl ⟨am,rfl⟩ ?_;rintro i f u v bb hi ⟨c,d⟩;have s:=ay i aa;refine aC c ?_;refine aO c ?_ ?_<;>intro h
 ·obtain⟨x,e,j⟩:=au ‹i<set.length›;have k:=p x.cell (l x j);refine fZ c e m r o k ?_;refine aO c ?_ ?_<;>intro h
  ·rw[d,dy e h]
  ·refine⟨aa,al s,?_⟩;rw[d,dz e h]
 ·have:i=set.length:=aa
  subst this;rw[d,dA]
theorem ww (s:Step) (F:T) (P:Int->Bool) (d:IsF F P) (n:s.set.length<2^48):
 Den Γ G 161 [(zS s),.t F]=some (vb (((s.guard.sup 3).all P&&(s.guard.sup 2).all P)&&s.set.all fun a=>(a.to.sup 3).all P&&(a.to.sup 2).all P)):=by
 refine aB (q:=?_)
 have e:=d.1;simp only[T.norm]at e;have k:=r9 s.guard F P d;refine aR k e ?_;refine gy ?_ ?_<;>intro h
 ·rw[h];simp
 ·rw[h,eq];refine aZ 33521744 s.set.length (fun i f=>(f 15).v=vi i/\(s.set.all fun a=>(a.to.sup 3).all P&&(a.to.sup 2).all P)=(s.set.drop i).all fun a=>(a.to.sup 3).all P&&(a.to.sup 2).all P) rfl rfl ⟨am,rfl⟩ ?_;rintro i f u o bb hi ⟨b,c⟩;have l:=ay i aa;refine aC b ?_;refine aO b ?_ ?_<;>intro h
  ·obtain⟨x,g,m⟩:=au ‹i<s.set.length›;have j:=r9 x.to F P d;refine cV b g j e ?_;refine aO b ?_ ?_<;>intro h
   ·rw[c,dy g h]
   ·refine⟨aa,al l,?_⟩;rw[c,dz g h]
  ·have:i=s.set.length:=aa
   subst this;rw[c,dA]
theorem Ry (s:Step):Den Γ G 165 [(zS s)]=some (vb (s.guard.one&&decide (s.set=[]))):=by
 refine aB (q:=?_)
 have b:=kcz s.guard;refine aC b ?_;refine gy ?_ ?_<;>intro h
 ·rcases s.set with _ | ⟨a,r⟩
  ·simp
  ·simp;omega
 ·simp
theorem vo (p:Prog) (t:Int):IsF (.fn 146 [] [bA p,.ip [ti t]]) (bq p t):=(Vj p t).isF
theorem uV (p:Prog) (t:Int):IsF (.fn 134 [] [bA p,.ip [.fn 146 [] [bA p,.ip [ti t]]]]) (eZ p t):=(Pe p t).isF
theorem Wc (p:Prog) (t:Int) (s:Step) (b:s.set.length<2^48):Den Γ G 147 [(.agg [.t (.sl ((p).cells.map (Cell.enc))),.t (.sl ((p).modules.map (Contract.enc))),.t (.sl ((p).locks.map (Lock.enc))),.t (.sl ((p).threads.map (Thread.enc)))]),vi t,(.agg [.t (ti (s).kind),.t (ti (s).fr),.t (ti (s).to),.t (ti ((s).guard).op),.t (ti ((s).guard).w),.t (ti ((s).guard).n),.t (.sl (((s).guard).kids.map Expr.enc)),.t (.sl ((s).set.map Assign.enc)),.t (tb (s).release),.t (ti (s).target),.t (ti (s).module)])]=some (vb (fW p s false t&&s.set.all fun a=>bq p t a.cell)):=by
 refine aB (q:=?_)
 have c:=uF p t
 have d:Den Γ G 161 [(zS s),.t (.fn 146 [] [bA p,.ip [ti t]])]=some (vb (fW p s false t)):=by
  rw[ww s _ _ (vo p t) b];simp only[fW,c9,yO]
 have e:=wy s.set _ _ _ (vo p t).on (fun _ _=>trivial) b;refine aR c d ?_;refine aO e ?_ ?_<;>intro h<;>try exact⟨⟩
 ·simp
theorem V8 (p:Prog) (t:Int) (s:Step) (b:s.set.length<2^48):Den Γ G 150 [(.agg [.t (.sl ((p).cells.map (Cell.enc))),.t (.sl ((p).modules.map (Contract.enc))),.t (.sl ((p).locks.map (Lock.enc))),.t (.sl ((p).threads.map (Thread.enc)))]),vi t,(.agg [.t (ti (s).kind),.t (ti (s).fr),.t (ti (s).to),.t (ti ((s).guard).op),.t (ti ((s).guard).w),.t (ti ((s).guard).n),.t (.sl (((s).guard).kids.map Expr.enc)),.t (.sl ((s).set.map Assign.enc)),.t (tb (s).release),.t (ti (s).target),.t (ti (s).module)])]=some (vb (fW p s true t&&s.set.all fun a=>eZ p t a.cell)):=by
 refine aB (q:=?_)
 have c:=wv p t
 have d:Den Γ G 161 [(zS s),.t (.fn 134 [] [bA p,.ip [.fn 146 [] [bA p,.ip [ti t]]]])]=some (vb (fW p s true t)):=by
  rw[ww s _ _ (uV p t) b];simp only[fW,c9,xU]
 have e:=wy s.set _ _ _ (uV p t).on (fun _ _=>trivial) b;refine aR c d ?_;refine aO e ?_ ?_<;>intro h<;>try exact⟨⟩
 ·simp
theorem Wd (p:Prog) (t:Int) (s:Step):Den Γ G 151 [(.agg [.t (.sl ((p).cells.map (Cell.enc))),.t (.sl ((p).modules.map (Contract.enc))),.t (.sl ((p).locks.map (Lock.enc))),.t (.sl ((p).threads.map (Thread.enc)))]),vi t,(.agg [.t (ti (s).kind),.t (ti (s).fr),.t (ti (s).to),.t (ti ((s).guard).op),.t (ti ((s).guard).w),.t (ti ((s).guard).n),.t (.sl (((s).guard).kids.map Expr.enc)),.t (.sl ((s).set.map Assign.enc)),.t (tb (s).release),.t (ti (s).target),.t (ti (s).module)])]=some (vb (s.guard.one&&decide (s.set=[]))):=by
 refine aB (q:=?_)
 have a:=Ry s;exact al a
theorem KN (p:Prog) (t:Int) (s:Step):Den Γ G 153 [(.agg [.t (.sl ((p).cells.map (Cell.enc))),.t (.sl ((p).modules.map (Contract.enc))),.t (.sl ((p).locks.map (Lock.enc))),.t (.sl ((p).threads.map (Thread.enc)))]),vi t,(.agg [.t (ti (s).kind),.t (ti (s).fr),.t (ti (s).to),.t (ti ((s).guard).op),.t (ti ((s).guard).w),.t (ti ((s).guard).n),.t (.sl (((s).guard).kids.map Expr.enc)),.t (.sl ((s).set.map Assign.enc)),.t (tb (s).release),.t (ti (s).target),.t (ti (s).module)])]=some (vb (gl p t s)):=by
 refine aB (q:=?_)
 have a:=Ry s;have c:=iJ s.target p.threads.length;refine aC a ?_;cases b:(s.guard.one&&decide (s.set=[]))
 ·rw[b]at a;refine aC a ?_;simp[gl,b]
 ·rw[b]at a;refine aC a ?_;refine aO c ?_ ?_<;>intro h
  ·simp[gl,b,h]
  ·simp[gl,b,h]
theorem Wb (p:Prog) (t:Int) (s:Step):Den Γ G 152 [(.agg [.t (.sl ((p).cells.map (Cell.enc))),.t (.sl ((p).modules.map (Contract.enc))),.t (.sl ((p).locks.map (Lock.enc))),.t (.sl ((p).threads.map (Thread.enc)))]),vi t,(.agg [.t (ti (s).kind),.t (ti (s).fr),.t (ti (s).to),.t (ti ((s).guard).op),.t (ti ((s).guard).w),.t (ti ((s).guard).n),.t (.sl (((s).guard).kids.map Expr.enc)),.t (.sl ((s).set.map Assign.enc)),.t (tb (s).release),.t (ti (s).target),.t (ti (s).module)])]=some (vb (gl p t s&&pL p s.target)):=by
 refine aB (q:=?_)
 have b:=KN p t s;refine aC b ?_;cases a:gl p t s
 ·rw[a]at b;refine aE ?_;simp
 ·have c:inR s.target p.threads.length=true:=by
   simp only[gl,zF]at a;exact a.2
  simp only[inR,aQ]at c;obtain⟨e,f⟩:=c;obtain⟨y,d⟩: ∃y,p.threads[s.target.toNat]? =some y:=⟨_,zI aa⟩
  refine aR e d ?_;simp[pL,d]
theorem SJ (p:Prog) (t:Int) (e:Expr):Den Γ G 108 [(.agg [.t (ti (e).op),.t (ti (e).w),.t (ti (e).n),.t (.sl ((e).kids.map (Expr.enc)))]),.t (.fn 146 [] [bA p,.ip [ti t]])]=some (vb (c9 p e false t)):=by
 rw[r9 e _ _ (vo p t),c9,yO]
theorem K0 (r:List Assign):((r.map Assign.enc).all fun x=>decide (x.length=5))=true:=by
 simp[Assign.enc,Expr.enc_eq]
theorem RN (n:Nat):(((n+1:Nat):Int)-1).toNat=n:=aa
theorem PD {α β:Type} (f:α->β) (r:List α):List.take r.length (r.map f)=r.map f:=de af
theorem XO (p:Prog) (t:Int) (s:Step) (u:s.set.length<2^48) (k:sp p s):Den Γ G 148 [(.agg [.t (.sl ((p).cells.map (Cell.enc))),.t (.sl ((p).modules.map (Contract.enc))),.t (.sl ((p).locks.map (Lock.enc))),.t (.sl ((p).threads.map (Thread.enc)))]),vi t,(.agg [.t (ti (s).kind),.t (ti (s).fr),.t (ti (s).to),.t (ti ((s).guard).op),.t (ti ((s).guard).w),.t (ti ((s).guard).n),.t (.sl (((s).guard).kids.map Expr.enc)),.t (.sl ((s).set.map Assign.enc)),.t (tb (s).release),.t (ti (s).target),.t (ti (s).module)])]=some (vb (mI p t s)):=by
 refine aB (q:=?_)
 have q:=uF p t;have W:=SJ p t s.guard;rcases c:s.set with _ | ⟨a,r⟩
 ·refine aR q c ?_;simp[mI,c]
 ·have H: ¬(((r.length+1:Nat):Int)=0):=aa
  have E:(1:Int)<=((r.length+1:Nat):Int):=aa
  have d:mI p t s=(c9 p s.guard false t&&bq p t a.cell&& !cL p a.cell Cell.ghost&&decide (a.to.op=2)&&bq p (-1) a.to.n&& !cL p a.to.n Cell.ghost&&
   r.all fun b=>bq p t b.cell&&cL p b.cell Cell.ghost&&c9 p b.to false t):=by rw[mI,c]
  have l:a∈s.set:=by rw[c];simp
  obtain⟨P,x,v⟩:=gf (k.2 a l).1;have X:=tM p t a.cell;have K:=sC p a.cell x P v;have B:=fh (g:=Cell.ghost) v;have I:=rl p a.to.n;refine cV q c H W ?_;refine qV c X @bA.eq_1 ?_ ?_<;>intro h
  ·rw[d,h];simp
  ·have S:c9 p s.guard false t=true:=bB
   refine dI K c ?_ ?_<;>intro h
   ·rw[d,h];simp
   ·have T:bq p t a.cell=true:=bB
    refine aO c ?_ ?_<;>intro h
    ·rw[d,B,h];simp
    ·have U:x.ghost=false:=bB
     refine aO I ?_ ?_<;>intro h
     ·rw[d];simp[h]
     ·have n:a.to.op=2:=bB
      obtain⟨Q,y,w⟩:=gf (K3 (k.2 a l).2 n);have M:=sC p a.to.n y Q w;have C:=fh (g:=Cell.ghost) w;refine aO M ?_ ?_<;>intro h
      ·rw[d,h];simp
      ·have V:bq p (-1) a.to.n=true:=bB
       refine dI c E ?_ ?_<;>intro h
       ·rw[d,C,h];simp
       ·rw[B,C,S,T,U,V,h]at d;simp only[n,jt,lB,fV,eq]at d;have Z:=K0 r;have t2:=RN r.length;have t3:=PD Assign.enc r;refine cV Z t2 t3 @gz ?_;refine aZ 2475879930996807960121837632 r.length (fun j o=>(o 67).v=vi j/\mI p t s=(r.drop j).all fun b=>bq p t b.cell&&cL p b.cell Cell.ghost&&c9 p b.to false t) rfl rfl ⟨am,d⟩ ?_;rintro j o u' Y O hj ⟨e,f⟩;have F:=ay j (by rw[c]at u;simp at u;omega);refine aC e ?_;refine aO e ?_ ?_<;>intro h
        ·obtain⟨b,i,L⟩:=au ‹j<r.length›;obtain⟨R,z,A⟩:=gf (k.2 b (by rw[c];simp[L])).1;have J:=tM p t b.cell;have N:=sC p b.cell z R A;have D:=fh (g:=Cell.ghost) A;have m:=SJ p t b.to;simp only[bA]at m;refine cV e i J @bA.eq_1 ?_
         repeat'(refine lq e N m @bA.eq_1 ?_ ?_<;>intro h)
         all_goals first
          | (rw[f,dy i (by rw[D];simp[*])];done)
          | (refine⟨aa,al F,?_⟩
             rw[f,dz i (by rw[D];simp[*])])
        ·have:j=r.length:=aa
         subst this;rw[f,dA]
theorem kbV (p:Prog) (t:Int):xo (.fn 164 [] [bA p,.ip [.fn 134 [] [bA p,.ip [.fn 146 [] [bA p,.ip [ti t]]]]]]) (fun c=>cL p c Cell.ghost&&eZ p t c) (fun c=>inR c p.cells.length=true):=by
 have k:IsP 134 [bA p,.ip [.fn 146 [] [bA p,.ip [ti t]]]] (eZ p t):=Pe p t;have m: ∀x∈[bA p,.ip [.fn 134 [] [bA p,.ip [.fn 146 [] [bA p,.ip [ti t]]]]]],T.norm x=x:=by simp[bA,T.norm]
 refine⟨rfl,164,[],[bA p,.ip [.fn 134 [] [bA p,.ip [.fn 146 [] [bA p,.ip [ti t]]]]]].map V.t,rfl,fun l n=> ?_,fun n=> ?_,fun n f=> ?_⟩
 ·exact xO l (ti n::[bA p,.ip [.fn 134 [] [bA p,.ip [.fn 146 [] [bA p,.ip [ti t]]]]]]) (fun x a=>(cj.1 a).elim (fun e=>by rw[e];rfl) (m x))
 ·exact Pj (ti n::[bA p,.ip [.fn 134 [] [bA p,.ip [.fn 146 [] [bA p,.ip [ti t]]]]]])
 ·obtain⟨j,x,a⟩:=gf f;have i:=sC p n x j a;have d:=fh (g:=Cell.ghost) a;have b:=k.2 n;simp only[aU,ba,bA,eG,iP]at b⊢
  refine aB (q:=aC i ?_);refine aO b ?_ ?_<;>intro h
  ·rw[d,h];simp
  ·rw[d,h];simp
theorem Wa (p:Prog) (t:Int) (s:Step) (F:s.set.length<2^48) (l:sp p s):Den Γ G 149 [(.agg [.t (.sl ((p).cells.map (Cell.enc))),.t (.sl ((p).modules.map (Contract.enc))),.t (.sl ((p).locks.map (Lock.enc))),.t (.sl ((p).threads.map (Thread.enc)))]),vi t,(.agg [.t (ti (s).kind),.t (ti (s).fr),.t (ti (s).to),.t (ti ((s).guard).op),.t (ti ((s).guard).w),.t (ti ((s).guard).n),.t (.sl (((s).guard).kids.map Expr.enc)),.t (.sl ((s).set.map Assign.enc)),.t (tb (s).release),.t (ti (s).target),.t (ti (s).module)])]=some (vb (mG p t s)):=by
 refine aB (q:=?_)
 have k:=uF p t
 have H:Den Γ G 161 [(zS s),.t (.fn 146 [] [bA p,.ip [ti t]])]=some (vb (fW p s false t)):=by
  rw[ww s _ _ (vo p t) F];simp only[fW,c9,yO]
 by_cases e:s.set=[]
 ·refine aR k e ?_;simp[mG,e]
 ·obtain⟨a,r,d⟩: ∃a r,s.set=a::r:=by
   rcases h:s.set with _ | ⟨a,r⟩
   ·exact absurd h e
   ·exact⟨a,r,rfl⟩
  have f:s.set.length=r.length+1:=by rw[d];rfl
  have j:s.set[0]? =some a:=by rw[d];rfl
  have z:List.drop 1 (s.set.map Assign.enc)=r.map Assign.enc:=by rw[d];rfl
  have q: ¬(((r.length+1:Nat):Int)=0):=aa
  have o:(1:Int)<=((r.length+1:Nat):Int):=aa
  have c:mG p t s=(fW p s false t&&bq p (-1) a.cell&& !cL p a.cell Cell.ghost&&r.all fun b=>cL p b.cell Cell.ghost&&eZ p t b.cell):=by rw[mG,d]
  have v:a∈s.set:=by rw[d];simp
  obtain⟨B,x,m⟩:=gf (l.2 a v).1;have A:=sC p a.cell x B m;have n:=fh (g:=Cell.ghost) m;have u:=rl p a.cell;have y:=wv p t;have i:=wy r _ _ _ (kbV p t) (fun b E=>(l.2 b (by rw[d];simp[E])).1) aa;have I:=K0 s.set;have J:=RN r.length;have K:=PD Assign.enc r;refine cN k f q H j ?_;refine dI j u ?_ ?_<;>intro h
  ·rw[c,h];simp
  ·have C:fW p s false t=true:=bB
   refine aO A ?_ ?_<;>intro h
   ·rw[c,h];simp
   ·have D:bq p (-1) a.cell=true:=bB
    refine bp (fun h=> ?_) (fun h=> ?_)<;>(try rw[h])<;>(try simp only[bg]at h)<;>(try simp -dsimp only[go_sem,seval,y,f,z,I,J,K,o,gz,i])
    ·rw[c,n,h];simp
    ·rw[n,C,D,h]at c;simp only[lB,fV,eq]at c;rw[c];have w:T.ip [.sl (p.cells.map Cell.enc),.sl (p.modules.map Contract.enc),.sl (p.locks.map Lock.enc),.sl (p.threads.map Thread.enc)]=bA p:=rfl;exact bh w i
theorem Z9:Den Γ G 135 []=some (.agg [.t .nilf,.t (.fn 147 [] []),.t (.fn 148 [] []),.t (.fn 149 [] []),.t (.fn 150 [] []),.t (.fn 151 [] []),.t (.fn 152 [] []),.t (.fn 153 [] [])]):=by
 exact aB (q:=am)
set_option maxHeartbeats 4000000 in
theorem Y2 (p:Prog) (t:Int) (x:Thread) (K7: -2^48<x.points/\x.points<2^48) (s:Step) (E:s.set.length<2^48):
 Den Γ G 105 [(zP p),vi t,(zT x),(zS s)]=some (vi (cG p t x.points s)):=by
 refine aB (q:=?_)
 have Y:IntKind.i64.wrap (x.points-1)=x.points-1:=bt aa;have j:=iJ s.fr (x.points-1);have J:=iJ s.to x.points;have I:=iJ s.module p.modules.length;have U:=ua s.guard p.cells false;simp -dsimp only[go_sem,seval]
 by_cases D:kO p x.points s=true
 ·rw[cG,ah D]
  repeat'(refine lq Y j J I ?_ ?_<;>intro h<;>try exact⟨⟩<;>try exact h.elim)
  all_goals(exfalso;simp only[kO,eH,zF,eE,aQ]at D;simp_all;try omega)
 ·have M:cG p t x.points s=if !s.guard.valid p.cells false||decide (s.guard.w≠1)then 60 else if ¬(a7 (c8 p s.set) 0 s.set).1=0 then(a7 (c8 p s.set) 0 s.set).1 else if da p t s then 0 else 70:=by rw[cG,ac D]
  have X:kO p x.points s=false:=ak D
  simp only[kO,ju,lF,nh,en]at X;obtain⟨⟨⟨⟨⟨⟨b1,b2⟩,b3⟩,b4⟩,b5⟩,b6⟩,b7⟩:=X;rw[b3]at j;rw[b4]at J;rw[b5]at I
  have W: ∀Q:Prop,(∀(A m B r v:Bool),decide (s.kind=6)=m->decide (s.kind=7)=B->decide (s.kind=3)=A->s.release=r->decide (s.target=0)=v->
   ((m=true/\r=false)\/(m=false/\B=true/\r=false)\/(m=false/\B=false/\v=true/\r=false)\/(m=false/\B=false/\v=true/\r=true/\A=true))->Q)->Q:=fun Q q=>by
   refine q _ _ _ _ _ rfl rfl rfl rfl rfl ?_;simp only[aQ,en]
   by_cases h6:s.kind=6<;>by_cases h7:s.kind=7<;>by_cases h3:s.kind=3<;>cases T:s.release<;>by_cases V:s.target=0<;>simp_all
  refine W _ (fun A m B r v R S P er ez n=> ?_);have l:s.guard.valid p.cells false=true->s.guard.w=1->cG p t x.points s=if ¬(a7 (c8 p s.set) 0 s.set).1=0 then(a7 (c8 p s.set) 0 s.set).1 else if da p t s then 0 else 70:=fun g1 g2=>by rw[M,ac (by simp[g1,g2])]
  have N:(s.guard.valid p.cells false=false\/ ¬s.guard.w=1)->cG p t x.points s=60:=fun g=>by rw[M,ah (by rcases g with g | g<;>simp[g])]
  have b1':1<=s.kind/\s.kind<=7:=aa
  have c:(decide ¬s.kind=3)= !A:=by rw[<- P];simp
  have e:(decide ¬s.target=0)= !v:=by rw[<- ez];simp
  rcases n with⟨rfl,rfl⟩ | ⟨rfl,rfl,rfl⟩ | ⟨rfl,rfl,rfl,rfl⟩ | ⟨rfl,rfl,rfl,rfl,rfl⟩
  all_goals(try cases v)
  all_goals(try cases A)
  all_goals(try(exfalso;simp only[aQ]at P R S;omega))
  all_goals(
   (try simp only[iA,lB]at c e)
   simp -dsimp only[go_sem,seval,Y,j,J,I,b1,b2,R,S,c,e,er,U]
   repeat'(refine aO U ?_ ?_<;>intro h<;>try exact⟨⟩<;>try exact h.elim))
  all_goals(try(rw[N (.inl ‹_›)];done))
  all_goals(try(rw[N (.inr ‹_›)];done))
  all_goals(
   have Z:s.guard.valid p.cells false=true:=bB
   have QA:s.guard.w=1:=bB
   have l:=l Z QA;clear W N M U j J I c e er P R;refine aS 2722258935367498036300439942420748071168 s.set.length (fun i f h y=>(f 83).v=vi i/\h 74=some (.map (mf ((s.set.take i).map Assign.cell)))/\a7 (c8 p s.set) 0 s.set=a7 (c8 p s.set) i (s.set.drop i)) rfl ⟨am,by simp -dsimp only[go_sem,seval];rfl,rfl⟩ ?_;rintro i f u hh y bs hi ⟨b,H,o⟩;have hw:=ay i aa;simp -dsimp only[go_sem,seval,b];refine aO b ?_ ?_<;>intro h<;>try exact⟨⟩<;>try exact h.elim
   ·obtain⟨a,C,Cp⟩:=au ‹i<s.set.length›;have j:=iJ a.cell p.cells.length
    have F: ∀k:Int,k≠0->c8 p s.set i a=k->cG p t x.points s=k:=fun k hk h0=>by
     have h2:=o.trans (g9 C (by rw[h0];exact hk));rw[l,h2,h0,ah hk]
    have L:((s.set.take i).map Assign.cell).any (fun d=>decide (d=a.cell))=(s.set.take i).any (fun d=>decide (d.cell=a.cell)):=by rw[ra];rfl
    have w:=yI a.cell ((s.set.take i).map Assign.cell);rw[L]at w;cases n:(s.set.take i).any (fun d=>decide (d.cell=a.cell))
    ·rw[n]at w L;have Jj:=wW a.cell _ L;simp -dsimp only[go_sem,seval,b,C,H,w,kf,gJ,ml,zG,aT,aX,j];cases O:inR a.cell p.cells.length
     ·simp -dsimp only[go_sem,seval,b];rw[F 70 aG (by simp[c8,O])]
     ·obtain⟨d0,z,V⟩:=gf O;have DT:=ua a.to p.cells false;have Id:=fh (g:=fun x=>decide (a.to.w=x.w)) V
      have K:c8 p s.set i a=if !a.to.valid p.cells false || !cL p a.cell (fun x=>decide (a.to.w=x.w))then 60 else 0:=by
       rw[c8,ac (by rw[O,n];simp)]
      rw[Id]at K;simp -dsimp only[go_sem,seval,b,H,Jj,d0,V];refine dI b DT ?_ ?_<;>intro h<;>try exact⟨⟩<;>try exact h.elim
      ·rw[F 60 aG (by rw[K];simp[h])]
      ·have Ke:a.to.w=z.w:=bB
       refine aO b ?_ ?_<;>intro h<;>try exact⟨⟩<;>try exact h.elim
       ·rw[F 60 aG (by rw[K];simp[h])]
       ·refine⟨aa,al hw,?_,?_⟩
        ·simp -dsimp only[go_sem,seval];rw[a8 C];simp
        ·rw[o,iL C (by rw[K];simp[h,Ke])]
    ·rw[n]at w;simp -dsimp only[go_sem,seval,b,C,H,w,kf,gJ,ml,zG,aT,aX];rw[F 70 aG (by rw[c8,ah (by rw[n];simp)])]
   ·have:i=s.set.length:=aa
    subst this;rw[iT]at o;rw[o,ac af]at l;have T:sp p s:=⟨Z,tC (i:=0) (set:=s.set) (by rw[o])⟩
    have AB:=Z9;have f1:=Wc p t s E;have f2:=XO p t s E T;have f3:=Wa p t s E T;have f4:=V8 p t s E;have f5:=Wd p t s;have f6:=Wb p t s;have f7:=KN p t s;have Dn:s.kind=1\/s.kind=2\/s.kind=3\/s.kind=4\/s.kind=5\/s.kind=6\/s.kind=7:=aa
    rw[l];clear l o H;rcases Dn with k | k | k | k | k | k | k
    all_goals(try(exfalso;simp only[en]at S;omega))
    all_goals(
     simp only[k]at f1 f2 f3 f4 f5 f6 f7;simp -dsimp only[go_sem,seval,AB,k,f1,f2,f3,f4,f5,f6,f7];refine gy ?_ ?_<;>intro h<;>try exact⟨⟩<;>try exact h.elim
     all_goals(simp[da,k,h])))
theorem Y0 (p:Prog):IsF (.fn 103 [] [bA p]) (fun m=>inR m p.modules.length):=by
 refine IsP.isF ⟨by simp[bA,T.norm],fun n=> ?_⟩;simp only[aU,ba,bA]
 refine aB (q:=?_)
 have a:=iJ n p.modules.length;exact al a
def uB (x:Thread):T:=.ip [.str x.name,ti x.points,.sl (x.asserts.map Expr.enc),ints x.modules,.sl (x.steps.map Step.enc),.sl (x.loops.map Loop.enc),tb x.asleep]
def u9 (l:Loop):T:=.ip [ti l.head,ints l.body,ti l.variant.op,ti l.variant.w,ti l.variant.n,.sl (l.variant.kids.map Expr.enc)]
theorem YZ (x:Thread) (l:Loop):IsF (.fn 106 [] [uB x,u9 l]) (fun q=>inR q x.points&&decide (q≠l.head)):=by
 refine IsP.isF ⟨by simp[uB,u9,T.norm],fun n=> ?_⟩;simp only[aU,ba,uB,u9]
 refine aB (q:=?_)
 have a:=iJ n x.points;refine aC a ?_
 repeat'(refine gy ?_ ?_<;>intro h<;>try exact⟨⟩)
 all_goals(simp[*])
theorem kdb (p:Prog) (t:Int) (e:Expr) (pair:Bool):Den Γ G 99 [(zP p),(.agg [.t (ti (e).op),.t (ti (e).w),.t (ti (e).n),.t (.sl ((e).kids.map (Expr.enc)))]),vb pair,.t (.fn 134 [] [bA p,.ip [.fn 146 [] [bA p,.ip [ti t]]]])]=some (vb (cE p e pair t)):=by
 rw[Sa p e pair _ _ (uV p t),cE,c9,xU]
theorem kbn (p:Prog) (t:Int) (e:Expr):Den Γ G 108 [(.agg [.t (ti (e).op),.t (ti (e).w),.t (ti (e).n),.t (.sl ((e).kids.map (Expr.enc)))]),.t (.fn 134 [] [bA p,.ip [.fn 146 [] [bA p,.ip [ti t]]]])]=some (vb (c9 p e true t)):=by
 rw[r9 e _ _ (uV p t),c9,xU]
def HT (p:Prog) (x:Thread) (n k:Nat) (es:List (T×V)) (h:ae) (y:Nat):Prop:=
 h (n+0)=some (.rows 4 [[.t (.sl (p.cells.map Cell.enc)),.t (.sl (p.modules.map Contract.enc)),.t (.sl (p.locks.map Lock.enc)),.t (.sl (p.threads.map Thread.enc))]] false)/\
 h (n+1)=some (.rows 7 [[.t (.str x.name),.t (ti x.points),.t (.sl (x.asserts.map Expr.enc)),.t (ints x.modules),.t (.sl (x.steps.map Step.enc)),.t (.sl (x.loops.map Loop.enc)),.t (tb x.asleep)]] false)/\
 h k=some (.map es)/\n+2<=y
set_option maxHeartbeats 4000000 in
theorem XF (p:Prog) (Y:p.sane) (i:Nat) (x:Thread) (hx:p.threads[i]? =some x) (K7:x.points<2^48) (H:ae) (n k:Nat) (EK:k<n) (Bk:H k=some (.map (eJ ((p.threads.take i).map Thread.name)))):
 ∃r h' L,DenR Γ G 83 [(zP p),vi i,(zT x),.mm k] H n=some (r,h',L)/\(n<=L/\r= .tup [vi (bI p i x).1,vi (bI p i x).2])/\((bI p i x).1=0->h' k=some (.map (eJ ((p.threads.take (i+1)).map Thread.name)))):=by
 have P:=zL hx;obtain⟨s1,s2,s3,s4,s5⟩:=Y.thr x P;have hl:=t6 x.name;have Qr: ¬k=n:=aa
 have Js:=yC EK;have Qq:=yS EK;have Ct:=fun H' L Ri=>MH k x.name ((p.threads.take i).map Thread.name) H' L Ri
 have Z:((p.threads.take i).map Thread.name).any (fun d=>d.toList==x.name.toList)=(p.threads.take i).any (fun d=>d.name.toList==x.name.toList):=by rw[ra];rfl
 refine bO (q:=?_)
 simp -dsimp only[go_sem,seval,hl];refine gy ?_ ?_<;>intro h<;>try exact⟨⟩<;>try exact h.elim
 ·have:bI p i x=(1,-1):=by rw[bI,ah (by simp[h])]
  rw[this];exact⟨⟨av,am⟩,fun g=>by simp at g⟩
 ·have T:ee x.name=true:=bB
  refine be (Ct _ _ (bh Js Bk)) ?_;rintro r h' L ⟨⟨Jt,rfl⟩,es,A,R⟩;rw[Z]at R;have q1: ¬n+1=k:=aa
  have q2: ¬n+0=k:=aa
  have q3: ¬n+0=n+1:=aa
  have o:h' (n+0)=some (.rows 4 [[.t (.sl (p.cells.map Cell.enc)),.t (.sl (p.modules.map Contract.enc)),.t (.sl (p.locks.map Lock.enc)),.t (.sl (p.threads.map Thread.enc))]] false):=by
   rw[A];simp -dsimp only[go_sem,seval,q2,q3]
  have c:h' (n+1)=some (.rows 7 [[.t (.str x.name),.t (ti x.points),.t (.sl (x.asserts.map Expr.enc)),.t (ints x.modules),.t (.sl (x.steps.map Step.enc)),.t (.sl (x.loops.map Loop.enc)),.t (tb x.asleep)]] false):=by
   rw[A];simp -dsimp only[go_sem,seval,q1]
  have t:h' k=some (.map es):=by rw[A];simp -dsimp only[go_sem,seval]
  clear A;simp -dsimp only[go_sem,seval,Z];refine aO c ?_ ?_<;>intro h<;>try exact⟨⟩<;>try exact h.elim
  ·have:bI p i x=(41,-1):=by rw[bI,ac (by simp[T]),ah h]
   rw[this];exact⟨⟨av,am⟩,fun g=>by simp at g⟩
  ·have U:(p.threads.take i).any (fun d=>d.name.toList==x.name.toList)=false:=bB
   rw[R U,show(p.threads.take i).map Thread.name++[x.name]=(p.threads.take (i+1)).map Thread.name from by rw[a8 hx];simp]at t;clear R Ct Bk
   by_cases Fg:x.points<1\/ ¬(x.asserts.length:Int)=x.points\/ ¬(x.modules.length:Int)=x.points
   ·have:bI p i x=(1,-1):=by rw[bI,ac (by simp[T]),ac (by simp[U]),ah Fg]
    rw[this]
    repeat'(refine aO c ?_ ?_<;>intro h<;>try exact⟨⟩<;>try exact h.elim)
    all_goals first
     | (exfalso;omega)
     | exact⟨⟨av,am⟩,fun g=>by simp at g⟩
   ·have f1: ¬x.points<1:=aa
    have f2:(x.asserts.length:Int)=x.points:=aa
    have f3:(x.modules.length:Int)=x.points:=aa
    have v:bI p i x=if !x.modules.all (fun m=>inR m p.modules.length)then(1,-1)
     else if !x.asserts.all (fun e=>cE p e false i)then(60,-1)
     else if ¬(a7 (fun _ s=>cG p i x.points s) 0 x.steps).1=0 then a7 (fun _ s=>cG p i x.points s) 0 x.steps
     else((a7 (fun _ l=>dM p i x.points l) 0 x.loops).1,-1):=by
     rw[bI,ac (by simp[T]),ac (by simp[U]),ac Fg]
    have V:decide (¬(x.asserts.length:Int)=x.points)=false:=by simp[f2]
    have W:decide (¬(x.modules.length:Int)=x.points)=false:=by simp[f3]
    have C:=rq _ _ (Y0 p) x.modules aa;simp only[bA]at C;simp -dsimp only[go_sem,seval,f1,V,W,c,o,C];have IT:=wv p i;refine qV o IT c ?_ ?_<;>intro h<;>try exact⟨⟩<;>try exact h.elim
    ·have:bI p i x=(1,-1):=by rw[v];simp[h]
     rw[this];exact⟨⟨av,am⟩,fun g=>by simp at g⟩
    ·rw[h]at v;simp only[iA,zG,aX]at v;clear C h;refine aS 147429837401600561920 x.asserts.length (fun j f h y=>(f 57).v=vi j/\HT p x n k (eJ ((p.threads.take (i+1)).map Thread.name)) h y/\x.asserts.all (fun e=>cE p e false i)=(x.asserts.drop j).all (fun e=>cE p e false i)) rfl ⟨am,⟨o,c,t,av⟩,rfl⟩ ?_;clear o c t;rintro j f u hh y bs hj ⟨J,⟨o,c,t,gn⟩,F⟩;have B:=ay j aa;simp -dsimp only[go_sem,seval,J];refine aO J ?_ ?_<;>intro h<;>try exact⟨⟩<;>try exact h.elim
     ·obtain⟨e,A,_⟩:=au ‹j<x.asserts.length›;have hb:=kdb p i e false;simp -dsimp only[go_sem,seval,J,A,o,hb];refine aO J ?_ ?_<;>intro h<;>try exact⟨⟩<;>try exact h.elim
      ·have:bI p i x=(60,-1):=by rw[v,F,dy A h];simp
       rw[this];exact⟨⟨av,am⟩,fun g=>by simp at g⟩
      ·refine⟨aa,al B,⟨al o,al c,al t,av⟩,?_⟩;rw[F,dz A h]
     ·have:j=x.asserts.length:=aa
      subst this;rw[dA]at F;rw[F]at v;simp only[iA,zG,aX]at v;clear F J B;simp -dsimp only[go_sem,seval,c];refine aS 38684445636047416179352320 x.steps.length (fun j f h y=>(f 70).v=vi j/\HT p x n k (eJ ((p.threads.take (i+1)).map Thread.name)) h y/\a7 (fun _ s=>cG p i x.points s) 0 x.steps=a7 (fun _ s=>cG p i x.points s) j (x.steps.drop j)) rfl ⟨am,⟨al o,al c,al t,av⟩,rfl⟩ ?_;clear o c t;rintro j f u hh y bs hj ⟨K,⟨o,c,t,gn⟩,w⟩;have B:=ay j aa;simp -dsimp only[go_sem,seval,K];refine aO K ?_ ?_<;>intro h<;>try exact⟨⟩<;>try exact h.elim
      ·obtain⟨s,Q,F3⟩:=au ‹j<x.steps.length›;have AE:=Y2 p i x ⟨aa,K7⟩ s (Y.sets x P s F3);simp -dsimp only[go_sem,seval,K,Q,o,c,AE];refine aO K ?_ ?_<;>intro h<;>try exact⟨⟩<;>try exact h.elim
       ·have X:=w.trans (g9 (f:=fun _ s=>cG p i x.points s) Q (ak h));have:bI p i x=(cG p i x.points s,(j:Int)):=by rw[v,X,ah (ak h)]
        rw[this];exact⟨⟨av,am⟩,fun g=>absurd g h⟩
       ·refine⟨aa,al B,⟨al o,al c,al t,av⟩,?_⟩;rw[w,iL Q (ak h)]
      ·have:j=x.steps.length:=aa
       subst this;rw[iT]at w;rw[w,ac af]at v;clear w K B;simp -dsimp only[go_sem,seval,c];refine aS 10633823965969841973409111413518369536 x.loops.length (fun j f h y=>(f 88).v=vi j/\HT p x n k (eJ ((p.threads.take (i+1)).map Thread.name)) h y/\a7 (fun _ l=>dM p i x.points l) 0 x.loops=a7 (fun _ l=>dM p i x.points l) j (x.loops.drop j)) rfl ⟨am,⟨al o,al c,al t,av⟩,rfl⟩ ?_;clear o c t;rintro j f u hh y bs hj ⟨z,⟨o,c,t,gn⟩,w⟩;have B:=ay j aa;simp -dsimp only[go_sem,seval,z];refine aO z ?_ ?_<;>intro h<;>try exact⟨⟩<;>try exact h.elim
       ·obtain⟨l,S,Hy⟩:=au ‹j<x.loops.length›;have D4:=Y.loops x P l Hy
        have I: ∀M:Int,M≠0->dM p i x.points l=M->bI p i x=(M,-1):=fun M Ah g=>by
         have X:=w.trans (g9 (f:=fun _ l=>dM p i x.points l) S (by rw[g];exact Ah));rw[v,X,g]
        have Aj:=iJ l.head x.points;have Et:=Jl l.body aa;have C:=rq _ _ (YZ x l) l.body aa;simp only[uB,u9]at C;have hv:=ua l.variant p.cells false;have De:=kbn p i l.variant;have D: ¬n=y+2:=aa
        have E: ∀a b:Nat,¬n+0=y+a+b:=by intros;omega
        have r3: ∀a b:Nat,¬k=y+a+b:=by intros;omega
        simp -dsimp only[go_sem,seval,z,S,o,c,D,E,Aj];refine vD z D E o c Et ?_ ?_<;>intro h<;>try exact⟨⟩<;>try exact h.elim
        ·rw[I 1 aG (by simp[dM,h])];exact⟨⟨av,am⟩,fun g=>by simp at g⟩
        ·have u1:inR l.head x.points=true:=bB
         refine vD z D E o c C ?_ ?_<;>intro h<;>try exact⟨⟩<;>try exact h.elim
         ·rw[I 1 aG (by simp[dM,h])];exact⟨⟨av,am⟩,fun g=>by simp at g⟩
         ·have u2:fY l.body=true:=bB
          refine vD z D E o c hv ?_ ?_<;>intro h<;>try exact⟨⟩<;>try exact h.elim
          ·rw[I 1 aG (by rw[dM,ah (by rw[h];simp)])];exact⟨⟨av,am⟩,fun g=>by simp at g⟩
          ·have u3:(l.body.all fun q=>inR q x.points&&decide (q≠l.head))=true:=bB
           have N:dM p i x.points l=if !l.variant.valid p.cells false || !c9 p l.variant true i then 60 else 0:=by
            rw[dM,ac (by rw[u1,u2,u3];simp)]
           refine vD z D E o c De ?_ ?_<;>intro h<;>try exact⟨⟩<;>try exact h.elim
           ·rw[I 60 aG (by rw[N];simp[h])];exact⟨⟨av,am⟩,fun g=>by simp at g⟩
           ·have u4:l.variant.valid p.cells false=true:=bB
            refine aO z ?_ ?_<;>intro h<;>try exact⟨⟩<;>try exact h.elim
            ·rw[I 60 aG (by rw[N];simp[h])];exact⟨⟨av,am⟩,fun g=>by simp at g⟩
            ·refine⟨aa,al B,⟨bh o E,bh c D,bh t r3,av⟩,?_⟩;rw[w,iL S (by rw[N];simp[h,u4])]
       ·have:j=x.loops.length:=aa
        subst this;rw[iT]at w;rw[v,w];exact⟨⟨av,am⟩,fun _=>al t⟩
@[go_sem]theorem zCG (g:Nat) (c:List T) (K:Nat->List V->List V->Prop) (w:WK K):fnK (some (.t (.fa g c))) K w=K g [.agg (c.map V.t)] []:=rfl
theorem tz (p:Prog) (c:p.sane):Den Γ G 64 [(zP p)]=some (.tup [vi (dj p).1,vi (dj p).2.1,vi (dj p).2.2]):=by
 refine aB (q:=?_)
 have q:=Xy p c;refine aC q ?_;refine gy ?_ ?_<;>intro h
 ·have d: ¬(cK p).1=0:=ak h
  have:dj p=((cK p).1,(cK p).2,-1):=by rw[dj,ah d]
  rw[this];simp
 ·have d:(cK p).1=0:=ak h
  obtain⟨⟨E,F,H,I⟩,B⟩:=cR d
  have a:dj p=if ¬dY p=0 then(dY p,-1,-1)else if ¬fp p=0 then(fp p,-1,-1)else if ¬fG p=0 then(fG p,-1,-1)else eT p 0 p.threads:=by
   rw[dj,ac (ak d)]
  have m:=X6 p c;have n:=Xn p c;have o:=ZG p c;refine bN ?_;refine aC m ?_;refine gy ?_ ?_<;>intro h
  ·have:dj p=(dY p,-1,-1):=by rw[a,ah (ak h)]
   rw[this];simp
  ·have s:dY p=0:=ak h
   rw[ac (ak s)]at a;refine bN ?_;refine aC n ?_;refine gy ?_ ?_<;>intro h
   ·have:dj p=(fp p,-1,-1):=by rw[a,ah (ak h)]
    rw[this];simp
   ·have t:fp p=0:=ak h
    rw[ac (ak t)]at a;refine bN ?_;refine aC o ?_;refine gy ?_ ?_<;>intro h
    ·have:dj p=(fG p,-1,-1):=by rw[a,ah (ak h)]
     rw[this];simp
    ·have v:fG p=0:=ak h
     rw[ac (ak v)]at a;refine bN ?_;refine aE ?_;refine aS 73786835557349912604 p.threads.length (fun i f h y=>(f 47).v=vi i/\56<y/\h 56=some (.map (eJ ((p.threads.take i).map Thread.name)))/\dj p=eT p i (p.threads.drop i)) rfl ⟨am,am,by simp -dsimp only[go_sem,seval];rfl,a⟩ ?_;rintro i f u w y bs hi ⟨b,D,k,g⟩;have A:=ay i aa;refine aC b ?_;refine aO b ?_ ?_<;>intro h
     ·obtain⟨x,e,l⟩:=au ‹i<p.threads.length›;refine aR b e ?_;refine be (XF p c i x e (by have:=(B x l).1;omega) w _ 56 aa k) ?_;rintro r h' J ⟨⟨C,rfl⟩,z⟩;refine aC b ?_;refine aO b ?_ ?_<;>intro h
      ·rw[g,Pz e (ak h)];simp
      ·have j:=z (ak h);refine⟨aa,al A,av,al j,?_⟩;rw[g,PB e (ak h)]
     ·have:i=p.threads.length:=aa
      subst this;rw[g,Sz];simp
theorem wq: ∀l:List Int,iy (ai l)=some l
 | []=>rfl
 | a::l=>by
   have:ai (a::l)=[.t (.int .i64 a)]::ai l:=rfl;rw[this,iy,wq l];rfl
theorem Kx (l:List Int):bU l=ai l:=by simp[bU,ai]
def qO (l:List Int):List Int:=Go.Lib.compact (l.mergeSort fun x y=>decide (x<=y))
theorem Yj (l:List Int) (x:Int):x∈Go.Lib.compact l<->x∈l:=by
 unfold Go.Lib.compact Go.Lib.compactUpTo;simp only[cv,ge,dT];constructor
 ·rintro⟨j,⟨g,_⟩,rfl⟩;simp[g]
 ·intro k;obtain⟨i,hi⟩:=eD k
  have e: ∀i:Nat,l[i]? =some x-> ∃a,(a<l.length/\Go.Lib.keeps l.toArray a=true)/\l.toArray[a]! =x:=by
   intro i
   induction i with
   | zero=>
     intro h;obtain⟨b,c⟩:=zH.1 h
     exact⟨0,⟨b,by simp[Go.Lib.keeps]⟩,by simp[b,c]⟩
   | succ i m=>
     intro h;obtain⟨b,c⟩:=zH.1 h
     by_cases d:l[i]? =some x
     ·exact m d
     ·refine⟨i+1,⟨b,?_⟩,by simp[b,c]⟩;have hi:i<l.length:=aa
      have : ¬l[i+1]=l[i]:=by
       intro f;rw[zI hi]at d;exact d (by rw[<- f,c])
      simp[Go.Lib.keeps,b,hi,this]
  exact e i hi
theorem J_ (l:List Int) (x:Int):x∈qO l<->x∈l:=by
 rw[qO,Yj,List.mem_mergeSort]
theorem kaG (l:List Int):(Go.Lib.compact l).length<=l.length:=by
 unfold Go.Lib.compact Go.Lib.compactUpTo;rw[cO];exact cT (ku _ _) af
theorem XH (l:List Int):(qO l).length<=l.length:=by
 have:=kaG (l.mergeSort fun x y=>decide (x<=y));rwa[s9]at this
def aM (p:Prog):Bool:=decide ((dj p).1=0)
theorem w7 (p:Prog) (b:p.sane):Den Γ G 38 [(zP p)]=some (vb (aM p)):=by
 refine aB (q:=?_)
 have a:=tz p b;refine aC a ?_;rfl
theorem Lo (p:Prog) (b:p.sane):Den Γ G 39 [(zP p)]=some (vb (aM p)):=by
 refine aB (q:=?_)
 have a:=wN p b;refine aC a ?_;rfl
theorem l6 {α β:Type} {l:List α} {m:List β} {i:Nat} {a:α} {b:β} (c:l[i]? =some a) (d:m[i]? =some b):(l.zip m)[i]? =some (a,b):=by
 rw[oz];exact⟨c,d⟩
def iM (q:Int×Cell):Bool:=decide (0<=q.1)&&decide (q.1<2^q.2.w.toNat)
def ig (q:Int×Thread):Bool:=decide (-1<=q.1)&&decide (q.1<q.2.points)&& !(decide (q.1= -1)&& !q.2.asleep)
def jm (p:Prog) (b a:List Int):Bool:=
 decide (b.length=p.cells.length)&&decide (a.length=p.threads.length)&&(b.zip p.cells).all iM&&(a.zip p.threads).all ig
def isM (p:Prog) (c:Config):Bool:=jm p c.mem c.at_&&decide (c.buf.length=p.threads.length)&&c.buf.all List.isEmpty
theorem cS {p:Prog} (h:aM p=true):(cK p).1=0/\dY p=0/\fp p=0/\fG p=0/\eT p 0 p.threads=(0,-1,-1):=by
 rw[aM,aQ,dj]at h
 have e: ∀(l:List Thread) (i:Nat),(eT p i l).1=0->eT p i l=(0,-1,-1):=by
  intro l
  induction l with
  | nil=>intro i _;rfl
  | cons x r f=>
    intro i h;rw[eT]at h⊢;split at h
    ·rename_i a;rw[ah a];exact f _ h
    ·rename_i a;exact absurd h a
 split at h
 ·rename_i a;exact absurd h a
 ·rename_i a;split at h
  ·rename_i b;exact absurd h b
  ·rename_i b;split at h
   ·rename_i c;exact absurd h c
   ·rename_i c;split at h
    ·rename_i d;exact absurd h d
    ·rename_i d;exact⟨ak a,ak b,ak c,ak d,e _ _ h⟩
theorem qk {p:Prog} (h:aM p=true) {x:Cell} (a:x∈p.cells):1<=x.w/\x.w<=8/\0<=x.init/\x.init<2^x.w.toNat:=by
 have:=xh (J0 (cS h).2.1 x a);exact⟨this.2.1,this.2.2.1,this.2.2.2.1,this.2.2.2.2.1⟩
theorem Zd (p:Prog) (t:aM p=true) (b a:List Int) (D:b.length<2^48) (E:a.length<2^48):Den Γ G 46 [(.agg [.t (.sl ((p).cells.map (Cell.enc))),.t (.sl ((p).modules.map (Contract.enc))),.t (.sl ((p).locks.map (Lock.enc))),.t (.sl ((p).threads.map (Thread.enc)))]),.t (ints b),.t (ints a)]=some (vb (jm p b a)):=by
 refine aB (q:=aE ?_)
 by_cases w:(b.length:Int)=p.cells.length/\(a.length:Int)=p.threads.length
 ·obtain⟨z,A⟩:=w;have q:decide (¬(b.length:Int)=p.cells.length)=false:=by simp[z]
  have r:decide (¬(a.length:Int)=p.threads.length)=false:=by simp[A]
  have j:jm p b a=((b.zip p.cells).all iM&&(a.zip p.threads).all ig):=by
   have n:b.length=p.cells.length:=aa
   have o:a.length=p.threads.length:=aa
   simp[jm,n,o]
  have B:(b.zip p.cells).length=b.length:=by rw[kj];omega
  have C:(a.zip p.threads).length=a.length:=by rw[kj];omega
  refine aR q r ?_;refine aZ 281474968322240 b.length (fun i f=>(f 7).v=vi i/\(b.zip p.cells).all iM=((b.zip p.cells).drop i).all iM) rfl rfl ⟨am,rfl⟩ ?_;rintro i f u y bb hi ⟨k,d⟩;have m:=ay i aa;refine aC k ?_;refine aO k ?_ ?_<;>intro h
  ·obtain⟨v,e,_⟩:=au ‹i<b.length›;obtain⟨x,g,s⟩:=au (show i<p.cells.length from aa);obtain⟨F,H,_⟩:=qk t s;have hp:=pa x.w aa;have c:=l6 e g;refine bj k e g ?_
   repeat'(refine lq k e g hp ?_ ?_<;>intro h)
   all_goals first
    | (rw[j,d,dy c (by simp only[iM,lF,en];omega)];simp;done)
    | (refine⟨aa,al m,?_⟩
       rw[d,dz c (by simp only[iM,zF,aQ];omega)])
  ·have:i=b.length:=aa
   subst this;have c:=dA iM (b.zip p.cells);rw[B]at c;rw[c]at d;rw[d,eq]at j;clear d k m;refine aZ 309485009821063593748070720 a.length (fun i f=>(f 8).v=vi i/\(a.zip p.threads).all ig=((a.zip p.threads).drop i).all ig) rfl rfl ⟨am,rfl⟩ ?_;rintro i f u y bb hi ⟨l,d⟩;have m:=ay i aa;refine aC l ?_;refine aO l ?_ ?_<;>intro h
   ·obtain⟨v,e,_⟩:=au ‹i<a.length›;obtain⟨x,g,s⟩:=au (show i<p.threads.length from aa);have c:=l6 e g;refine bj l e g ?_
    repeat'(refine qV l e g ?_ ?_<;>intro h)
    all_goals first
     | (rw[j,d,dy c (by simp only[ig];simp[*];try omega)];done)
     | (refine⟨aa,al m,?_⟩
        rw[d,dz c (by simp only[ig];simp[*];try omega)])
   ·have:i=a.length:=aa
    subst this;have c:=dA ig (a.zip p.threads);rw[C]at c;rw[j,d,c]
 ·have j:jm p b a=false:=by
   by_cases n:b.length=p.cells.length
   ·have o: ¬a.length=p.threads.length:=aa
    simp[jm,o]
   ·simp[jm,n]
  rw[j]
  repeat'(refine gy ?_ ?_<;>intro h<;>try exact⟨⟩)
  all_goals(exfalso;omega)
def rX (a:Assign):Bool:=decide ((a.to.size:Int)<=30)
def mg (s:Step):Bool:=decide ((s.guard.size:Int)<=30)&&decide ((s.set.length:Int)<=8)&&s.set.all rX
def nf (l:Loop):Bool:=decide ((l.variant.size:Int)<=30)&&decide ((l.body.length:Int)<=48)
def hX (e:Expr):Bool:=decide ((e.size:Int)<=60)
def j7 (x:Thread):Bool:=x.steps.all mg&&x.asserts.all hX&&x.loops.all nf
theorem kaQ (x:Thread) (K:x.steps.length<2^40) (L:x.asserts.length<2^40) (M:x.loops.length<2^40):Den Γ G 36 [(zT x)]=some (vb (j7 x)):=by
 refine aB (q:=aE ?_);refine aZ 36028797018963868 x.steps.length (fun i f=>(f 3).v=vi i/\x.steps.all mg=(x.steps.drop i).all mg) rfl rfl ⟨am,rfl⟩ ?_;rintro i f u A bb hi ⟨b,g⟩;have d:=ay i aa;refine aC b ?_;refine aO b ?_ ?_<;>intro h
 ·obtain⟨s,m,I⟩:=au ‹i<x.steps.length›;have p:=pd s.guard 30 aa;have j:mg s=false->false=j7 x:=fun v=>by rw[j7,g,dy m v];rfl
  refine bj b m p ?_;refine dI b m ?_ ?_<;>intro h
  ·exact j (by simp[mg];omega)
  ·have E:(s.guard.size:Int)<=30:=bB
   refine aO b ?_ ?_<;>intro h
   ·exact j (by simp[mg];omega)
   ·have J:(s.set.length:Int)<=8:=aa
    refine aZ 36028792723996692 s.set.length (fun k z=>(z 4).v=vi k/\s.set.all rX=(s.set.drop k).all rX) rfl rfl ⟨am,rfl⟩ ?_;rintro k z O F D N ⟨r,c⟩;have B:=ay k aa;refine bj b r m ?_;refine dI b r ?_ ?_<;>intro h
    ·obtain⟨a,w,H⟩:=au ‹k<s.set.length›;have C:=pd a.to 30 aa;refine cN b r m w C ?_;refine dI b r ?_ ?_<;>intro h
     ·exact j (by rw[mg,c,dy w (by simp[rX];omega)];simp)
     ·refine⟨aa,al B,?_⟩;rw[c,dz w (by simp[rX];omega)]
    ·have:k=s.set.length:=aa
     subst this;rw[dA]at c;refine⟨aa,al d,?_⟩;rw[g,dz m (by rw[mg,c];simp;omega)]
 ·have:i=x.steps.length:=aa
  subst this;rw[dA]at g;clear b d;refine aZ 590259781561686687780 x.asserts.length (fun i f=>(f 5).v=vi i/\x.asserts.all hX=(x.asserts.drop i).all hX) rfl rfl ⟨am,rfl⟩ ?_;rintro i f u A bb hi ⟨n,c⟩;have d:=ay i aa;refine aC n ?_;refine aO n ?_ ?_<;>intro h
  ·obtain⟨e,y,_⟩:=au ‹i<x.asserts.length›;have p:=pd e 60 aa;refine bj n y p ?_;refine aO n ?_ ?_<;>intro h
   ·rw[j7,g,c,dy y (by simp[hX];omega)];rfl
   ·refine⟨aa,al d,?_⟩;rw[c,dz y (by simp[hX];omega)]
  ·have:i=x.asserts.length:=aa
   subst this;rw[dA]at c;clear n d;refine aZ 19807040038270274039680335940 x.loops.length (fun i f=>(f 6).v=vi i/\x.loops.all nf=(x.loops.drop i).all nf) rfl rfl ⟨am,rfl⟩ ?_;rintro i f u A bb hi ⟨o,q⟩;have d:=ay i aa;refine aC o ?_;refine aO o ?_ ?_<;>intro h
   ·obtain⟨l,t,_⟩:=au ‹i<x.loops.length›;have p:=pd l.variant 30 aa;have j:nf l=false->false=j7 x:=fun v=>by rw[j7,g,c,q,dy t v];rfl
    refine bj o t p ?_;refine dI o t ?_ ?_<;>intro h
    ·exact j (by simp[nf];omega)
    ·have E:(l.variant.size:Int)<=30:=bB
     refine aO o ?_ ?_<;>intro h
     ·exact j (by simp[nf];omega)
     ·refine⟨aa,al d,?_⟩;rw[q,dz t (by simp[nf];omega)]
   ·have:i=x.loops.length:=aa
    subst this;rw[dA]at q;rw[j7,g,c,q];rfl
def ma:Int->List Thread->Bool
 | _,[]=>true
 | n,x::r=>if n+x.steps.length>24\/(x.asserts.length:Int)>48\/(x.modules.length:Int)>48\/(x.loops.length:Int)>8\/j7 x=false then false else ma (n+x.steps.length) r
def lQ (m:Contract):Bool:=hX m.rely&&hX m.guar&&decide ((m.frame.length:Int)<=32)
def jb (p:Prog):Bool:=
 decide ((p.cells.length:Int)<=32)&&decide ((p.threads.length:Int)<=4)&&decide ((p.modules.length:Int)<=6)&&decide ((p.locks.length:Int)<=4)&&
  ma 0 p.threads&&p.modules.all lQ&&p.locks.all fun l=>hX l.inv
theorem ka7 (p:Prog) (I: ∀x∈p.threads,x.steps.length<2^50):Den Γ G 9 [(zP p)]=some (vb (jb p)):=by
 refine aB (q:=aE ?_)
 by_cases j:(p.cells.length:Int)<=32/\(p.threads.length:Int)<=4/\(p.modules.length:Int)<=6/\(p.locks.length:Int)<=4
 ·obtain⟨N,O,P,Q⟩:=j;have C: ¬(p.cells.length:Int)>32:=aa
  have D: ¬(p.threads.length:Int)>4:=aa
  have E: ¬(p.modules.length:Int)>6:=aa
  have F: ¬(p.locks.length:Int)>4:=aa
  have c:jb p=(ma 0 p.threads&&p.modules.all lQ&&p.locks.all fun l=>hX l.inv):=by simp[jb,N,O,P,Q]
  refine cV C D E F ?_;refine aZ 4722366482868571471932 p.threads.length (fun i f=>(f 4).v=vi i/\ ∃n:Int,0<=n/\n<=24/\(f 3).v=vi n/\ma 0 p.threads=ma n (p.threads.drop i)) rfl rfl ⟨am,0,aa,aa,am,rfl⟩ ?_;rintro i f u v bb hi ⟨g,n,U,V,s,a⟩;have e:=ay i aa;refine aC g ?_;refine aO g ?_ ?_<;>intro h
  ·obtain⟨x,t,y⟩:=au ‹i<p.threads.length›;have R:=I x y;have A:IntKind.i64.wrap (n+(x.steps.length:Int))=n+x.steps.length:=bt aa;rw[iQ t,ma]at a;refine cV g s t A ?_
   by_cases w:n+x.steps.length>24\/(x.asserts.length:Int)>48\/(x.modules.length:Int)>48\/(x.loops.length:Int)>8
   ·rw[ah (by rcases w with h | h | h | h<;>simp[h])]at a;rw[c,a,im,im]
    repeat'(refine aO g ?_ ?_<;>intro h<;>try exact⟨⟩)
    all_goals(exfalso;omega)
   ·have J: ¬n+(x.steps.length:Int)>24:=aa
    have K: ¬(x.asserts.length:Int)>48:=aa
    have L: ¬(x.modules.length:Int)>48:=aa
    have M: ¬(x.loops.length:Int)>8:=aa
    have B:=kaQ x aa aa aa;refine cN J K L M B ?_;refine aO g ?_ ?_<;>intro h
    ·rw[ah (by simp[h])]at a;rw[c,a,im,im]
    ·rw[ac (by simp[h];omega)]at a;exact⟨aa,al e,n+x.steps.length,aa,aa,am,a⟩
  ·have:i=p.threads.length:=aa
   subst this;rw[rH,ma]at a;rw[a,eq]at c;clear g e s a;refine aZ 162259276824490996908708365074500 p.modules.length (fun i f=>(f 6).v=vi i/\p.modules.all lQ=(p.modules.drop i).all lQ) rfl rfl ⟨am,rfl⟩ ?_;rintro i f u v bb hi ⟨d,b⟩;have e:=ay i aa;refine aC d ?_;refine aO d ?_ ?_<;>intro h
   ·obtain⟨m,k,_⟩:=au ‹i<p.modules.length›;have r:=pd m.rely 60 aa;have z:=pd m.guar 60 aa;have q:lQ m=false->false=jb p:=fun H=>by rw[c,b,dy k H];rfl
    refine bj d k r ?_;refine qV d k z ?_ ?_<;>intro h
    ·exact q (by simp[lQ,hX];omega)
    ·have S:(m.rely.size:Int)<=60:=bB
     refine dI d k ?_ ?_<;>intro h
     ·exact q (by simp[lQ,hX];omega)
     ·have T:(m.guar.size:Int)<=60:=bB
      refine aO d ?_ ?_<;>intro h
      ·exact q (by simp[lQ,hX];omega)
      ·refine⟨aa,al e,?_⟩;rw[b,dz k (by simp[lQ,hX];omega)]
   ·have:i=p.modules.length:=aa
    subst this;rw[dA]at b;rw[b,eq]at c;clear d e b;refine aZ 5316749723862834278251836663111090308 p.locks.length (fun i f=>(f 7).v=vi i/\jb p=(p.locks.drop i).all fun l=>hX l.inv) rfl rfl ⟨am,c⟩ ?_;rintro i f u v bb hi ⟨o,b⟩;have e:=ay i aa;refine aC o ?_;refine aO o ?_ ?_<;>intro h
    ·obtain⟨l,j,_⟩:=au ‹i<p.locks.length›;have r:=pd l.inv 60 aa;refine bj o j r ?_;refine aO o ?_ ?_<;>intro h
     ·rw[b,dy j (by simp[hX];omega)]
     ·refine⟨aa,al e,?_⟩;rw[b,dz j (by simp[hX];omega)]
    ·have:i=p.locks.length:=aa
     subst this;rw[b,dA]
 ·have c:jb p=false:=by
   cases h:jb p
   ·rfl
   ·exfalso;simp only[jb,zF,aQ]at h;omega
  rw[c]
  repeat'(refine gy ?_ ?_<;>intro h<;>try exact⟨⟩)
  all_goals(exfalso;omega)
structure Config.sane (c:Config):Prop where
 mem:c.mem.length<2^48
 at_:c.at_.length<2^48
 buf:c.buf.length<2^48
theorem N7 (p:Prog) (L:aM p=true) (c:Config) (K:c.sane):Den Γ G 43 [(.agg [.t (.sl ((p).cells.map (Cell.enc))),.t (.sl ((p).modules.map (Contract.enc))),.t (.sl ((p).locks.map (Lock.enc))),.t (.sl ((p).threads.map (Thread.enc)))]),(.agg [.t (ints (c).mem),.t (ints (c).at_),.t (.sl ((c).buf.map (fun b=>[.sl (b.map Entry.enc)])))])]=some (vb (isM p c)):=by
 refine aB (q:=?_)
 obtain⟨U,T,V⟩:=K;refine aE ?_
 by_cases M:(c.mem.length:Int)=p.cells.length/\(c.at_.length:Int)=p.threads.length/\(c.buf.length:Int)=p.threads.length
 ·obtain⟨O,P,Q⟩:=M;have z:decide (¬(c.mem.length:Int)=p.cells.length)=false:=by simp[O]
  have A:decide (¬(c.at_.length:Int)=p.threads.length)=false:=by simp[P]
  have B:decide (¬(c.buf.length:Int)=p.threads.length)=false:=by simp[Q]
  have m:isM p c=((c.mem.zip p.cells).all iM&&((c.at_.zip p.threads).all ig&&c.buf.all List.isEmpty)):=by
   have s:c.mem.length=p.cells.length:=aa
   have t:c.at_.length=p.threads.length:=aa
   have y:c.buf.length=p.threads.length:=aa
   simp[isM,jm,s,t,y,vQ]
  have R:(c.mem.zip p.cells).length=c.mem.length:=by rw[kj];omega
  have S:(c.at_.zip p.threads).length=c.at_.length:=by rw[kj];omega
  refine bj z A B ?_;refine aZ 144114913197949040 c.mem.length (fun i f=>(f 38).v=vi i/\(c.mem.zip p.cells).all iM=((c.mem.zip p.cells).drop i).all iM) rfl rfl ⟨am,rfl⟩ ?_;rintro i f u N bb hi ⟨n,j⟩;have q:=ay i aa;refine aC n ?_;refine aO n ?_ ?_<;>intro h
  ·obtain⟨v,a,_⟩:=au ‹i<c.mem.length›;obtain⟨x,d,C⟩:=au (show i<p.cells.length from aa);obtain⟨Z,w2,_⟩:=qk L C;have I:=sg (w:=x.w) aa;have J: ¬x.w<0:=aa
   have g:=l6 a d;refine bj n a d ?_
   repeat'(refine lj n a d I J ?_ ?_<;>intro h)
   all_goals first
    | (rw[m,j,dy g (by simp only[iM,lF,en];omega)];simp;done)
    | (refine⟨aa,al q,?_⟩
       rw[j,dz g (by simp only[iM,zF,aQ];omega)])
  ·have:i=c.mem.length:=aa
   subst this;have g:=dA iM (c.mem.zip p.cells);rw[R]at g;rw[g]at j;rw[j,eq]at m;clear j n q;refine aZ 158456325027375753682481054608 c.at_.length (fun i f=>(f 60).v=vi i/\((c.at_.zip p.threads).all ig&&c.buf.all List.isEmpty)=(((c.at_.zip p.threads).drop i).all ig&&(c.buf.drop i).all List.isEmpty)) rfl rfl ⟨am,rfl⟩ ?_;rintro i f u N bb hi ⟨k,j⟩;have q:=ay i aa;refine aC k ?_;refine aO k ?_ ?_<;>intro h
   ·obtain⟨v,a,_⟩:=au ‹i<c.at_.length›;obtain⟨x,d,C⟩:=au (show i<p.threads.length from aa);obtain⟨b,l,_⟩:=au (show i<c.buf.length from aa);have g:=l6 a d;cases o:ig (v,x)
    ·rw[m,j,dy g o,im];refine bj k a d ?_
     repeat'(refine lq k a d l ?_ ?_<;>intro h<;>try exact⟨⟩)
     all_goals(exfalso;simp only[ig,lF,en,nh,zF,aQ,eE]at o;simp_all;try omega)
    ·have F:=o;simp only[ig,zF,aQ,eE,lF,en,nh]at F;obtain⟨⟨W,X⟩,Y⟩:=F;have H: ¬v< -1:=aa
     have b2: ¬v>=x.points:=aa
     cases b with
     | nil=>
       refine fZ k a d H b2 l ?_
       repeat'(refine lq k a d l ?_ ?_<;>intro h)
       all_goals first
        | (exfalso;simp_all;done)
        | (refine⟨aa,al q,?_⟩
           rw[j,dz g o,dz l rfl])
     | cons e r=>
       have D:(((e::r).length:Nat):Int)>0:=by show((r.length+1:Nat):Int)>0;omega
       rw[m,j,dy l rfl,q9];refine gx k a d H b2 l D ?_
       repeat'(refine lj k a d l D ?_ ?_<;>intro h<;>try exact⟨⟩)
       all_goals(exfalso;simp_all;try omega)
   ·have:i=c.at_.length:=aa
    subst this;have g:=dA ig (c.at_.zip p.threads);rw[S]at g;have E:=dA List.isEmpty c.buf;rw[show c.buf.length=c.at_.length by omega]at E;rw[m,j,g,E];rfl
 ·have m:isM p c=false:=by
   by_cases s:c.mem.length=p.cells.length
   ·by_cases t:c.at_.length=p.threads.length
    ·have y: ¬c.buf.length=p.threads.length:=aa
     simp[isM,y]
    ·simp[isM,jm,t]
   ·simp[isM,jm,s]
  rw[m]
  repeat'(refine gy ?_ ?_<;>intro h<;>try exact⟨⟩)
  all_goals(exfalso;omega)
theorem tS (l:List Int) (D:l.length<2^31) (j:ae) (d:Nat):
 ∃r h' o,DenR Γ G 32 [.t (ints l)] j d=some (r,h',o)/\aw h' o r 1 (ai l)/\d<=o/\(∀k,k<d->h' k=j k/\aJ r k):=by
 refine bO (q:=aE ?_);refine aS 262136 l.length (fun i f h x=>(f 4).v=vi i/\aw h x (f 3).v 1 (ai (l.take i))/\d<=x/\(∀k,k<d->h k=j k/\aJ (f 3).v k)) rfl ⟨am,.inl ⟨am,rfl⟩,av,fun k c=>⟨rfl,by simp -dsimp only[go_sem,seval];intro i n h;cases h⟩⟩ ?_;rintro i f u H x bs hi ⟨e,b,C,g⟩;have y:=ay i aa;refine aC e ?_;refine aO e ?_ ?_<;>intro h
 ·obtain⟨a,q,_⟩:=au ‹i<l.length›;have p:=b.valOf;have z:=b.r2;have A:=b.r3;refine cN e q p z A ?_;refine bY (b.upd aa _) aa (by rw[aA];simp;omega) aG rfl (ey _) ?_;intro v hp m w t;have B:=m.valOf;rw[show ai (l.take i)++[[V.t (ti a)]]=ai (l.take (i+1))from by rw[a8 q,fy]]at m;refine aR B e ?_;refine⟨aa,al y,by simp -dsimp only[go_sem,seval];exact m.le aa,av,fun k c=>⟨?_,by simp -dsimp only[go_sem,seval];exact w k aa⟩⟩;refine aE ?_;rw[t k aa (g k c).2,aq,ac aa];exact(g k c).1
 ·have:i=l.length:=aa
  subst this;rw[bc]at b;have p:=b.valOf;have s:=b.resVal;simp only[Rg.resVal]at s;refine aR p s ?_;exact⟨by simp -dsimp only[go_sem,seval];exact b.le aa,av,fun k c=>by simp -dsimp only[go_sem,seval];exact g k c⟩
end Rg
end
