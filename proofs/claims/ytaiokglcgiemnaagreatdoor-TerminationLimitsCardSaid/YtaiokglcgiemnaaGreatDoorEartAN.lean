/- Part of the proof of laws of relyguardlaw36. No condition. -/
import Derived.Test.YtaiokglcgiemnaaGreatDoorEartAM
set_option linter.unusedSimpArgs false
set_option linter.unusedVariables false
set_option linter.defProp false
section
namespace Rg
open Go
theorem Pq (p:Prog):IsF (.fa 100 [.sl (p.cells.map Cell.enc),.sl (p.modules.map Contract.enc),.sl (p.locks.map Lock.enc),.sl (p.threads.map Thread.enc)]) (br p (-1)):=
 kcn (by simp[T.norm]) (fun n=>ra p n)
theorem Wf (p:Prog) (c:Int):eW p (-1) c=br p (-1) c:=by simp[eW]
theorem WQ (p:Prog):lL p true (-1)=br p (-1):=by funext c;simp[lL,Wf]
theorem xR (p:Prog) (t:Int):lL p true t=eW p t:=by funext c;simp[lL]
theorem yM (p:Prog) (t:Int):lL p false t=br p t:=by funext c;simp[lL]
theorem xk (p:Prog) (e:Expr) (pair:Bool):Den Γ G 99 [(zP p),(.agg [.t (ti (e).op),.t (ti (e).w),.t (ti (e).n),.t (.sl ((e).kids.map (Expr.enc)))]),vb pair,.t (.fa 100 [.sl (p.cells.map Cell.enc),.sl (p.modules.map Contract.enc),.sl (p.locks.map Lock.enc),.sl (p.threads.map Thread.enc)])]=some (vb (cB p e pair (-1))):=by
 rw[Qx p e pair _ _ (Pq p),cB,cY,WQ]
theorem WE (p:Prog) (t:p.sane):Den Γ G 81 [(zP p)]=some (vi (fl p)):=by
 refine aD (q:=ax ?_);have L:=t.modules;refine aS 4611686018427385892 p.modules.length (fun i f h x=>(f 11).v=vi i/\h 2=some (.map (eG ((p.modules.take i).map Contract.name)))/\fl p=(a7 (gX p) i (p.modules.drop i)).1) rfl ⟨am,by simp -dsimp only[go_sem,seval];rfl,rfl⟩ ?_;rintro i f u H x bs hi ⟨a,z,j⟩;have K:=aC i aa;refine ar a ?_;refine aQ a ?_ ?_<;>intro h
 ·obtain⟨c,e,y⟩:=aw ‹i<p.modules.length›;obtain⟨_,_,N⟩:=t.mname c y
  have b: ∀k:Int,k≠0->gX p i c=k->fl p=k:=fun k I s=>by
   rw[j,gV e (by rw[s];exact I)];exact s
  have J:=tZ c.name;have A:=tZ c.owner;refine aY a e J ?_;refine dz a A ?_ ?_<;>intro h
  ·rw[b 1 aI (by simp[gX,h])]
  ·have o:ec c.name=true:=bC
   refine aQ a ?_ ?_<;>intro h
   ·rw[b 1 aI (by simp[gX,h])]
   ·have q:ec c.owner=true:=bC
    have C:=fun n=>MW 2 c.name ((p.modules.take i).map Contract.name) H n z
    have l:((p.modules.take i).map Contract.name).any (fun d=>d.toList==c.name.toList)=(p.modules.take i).any (fun d=>d.name.toList==c.name.toList):=by rw[qY];rfl
    refine bf (C _) ?_;rintro r h' M ⟨rfl,m⟩;rw[l]at m;refine aG a l ?_;have B:=WB c.rely;have F:=xk p c.rely true;have E:=xk p c.guar true;refine dz a B ?_ ?_<;>intro h
    ·rw[b 41 aI (by rw[gX,ac (by simp[o,q]),ah h])]
    ·have g:gX p i c=if(!c.rely.absent&& !cB p c.rely true (-1)) || !cB p c.guar true (-1)then 60 else if !fS c.frame || !c.frame.all (br p (-1))then 1 else 0:=by
      rw[gX,ac (by simp[o,q]),ac (by simp[h])]
     have v:=m h;have D:=Ht c.frame aa;have w:=rl _ _ (Pq p) c.frame aa
     repeat'(refine kR a F E D w ?_ ?_<;>intro h)
     all_goals first
      | (rw[b 60 aI (by rw[g];simp[*])];done)
      | (rw[b 1 aI (by rw[g];simp[*])];done)
      | (refine⟨aa,al K,?_,?_⟩
         ·refine ar v ?_;rw[bc e];simp
         ·rw[j,iE e (by rw[g];simp[*])])
 ·have:i=p.modules.length:=aa
  subst this;rw[j,iJ]
theorem J5 {p:Prog} {t c:Int} (h:br p t c=true):0<=c/\ ∃x,p.cells[c.toNat]? =some x/\x.thread=t:=by
 unfold br at h;simp only[zF,aR]at h;refine⟨h.1,?_⟩;rcases a:p.cells[c.toNat]? with _ | x
 ·rw[a]at h;simp at h
 ·rw[a]at h;exact⟨x,rfl,ak h.2⟩
theorem Y6 (p:Prog) (I:p.sane):Den Γ G 82 [(zP p)]=some (vi (fD p)):=by
 refine aD (q:=ax ?_);have L:=I.locks;refine aS 9444732965739290419428 p.locks.length (fun i f h x=>(f 13).v=vi i/\h 2=some (.map (lZ ((p.locks.take i).map Lock.cell)))/\fD p=(a7 (iq p) i (p.locks.drop i)).1) rfl ⟨am,by simp -dsimp only[go_sem,seval];rfl,rfl⟩ ?_;rintro i f u N x bs hi ⟨a,m,q⟩;have K:=aC i aa;refine ar a ?_;refine aQ a ?_ ?_<;>intro h
 ·obtain⟨l,b,M⟩:=aw ‹i<p.locks.length›
  have e: ∀k:Int,k≠0->iq p i l=k->fD p=k:=fun k H w=>by
   rw[q,gV b (by rw[w];exact H)];exact w
  have B:=ra p l.cell;have F:=iC l.module p.modules.length;have J:=xk p l.inv false;have o:((p.locks.take i).map Lock.cell).any (fun d=>decide (d=l.cell))=(p.locks.take i).any (fun d=>decide (d.cell=l.cell)):=by rw[qY];rfl
  have j:=yG l.cell ((p.locks.take i).map Lock.cell);rw[o]at j;refine aY a b B ?_;refine aQ a ?_ ?_<;>intro h
  ·rw[e 1 aI (by simp[iq,h])]
  ·have A:br p (-1) l.cell=true:=bC
   obtain⟨t,y,n,_⟩:=J5 A;have s:=ff (g:=fun x=>decide (x.w=1)) n;have r:=ff (g:=Cell.ghost) n;refine bw a b t n ?_;refine mI a b t n ?_ ?_<;>intro h
   ·rw[e 1 aI (by rw[iq,ah (by rw[s];simp[h])])]
   ·have D:y.w=1:=bC
    refine bp (fun h=> ?_) (fun h=> ?_)<;>(try rw[h])<;>(try simp only[bh]at h)<;>(try simp -dsimp only[go_sem,seval,a,b,m,j,j_,gp,mc,zG,aU,aX])
    ·rw[e 1 aI (by rw[iq,ah (by rw[r];simp[h])])]
    ·have E:y.ghost=false:=bC
     have c:iq p i l=if !inR l.module p.modules.length then 1 else if(p.locks.take i).any (fun d=>decide (d.cell=l.cell))then 1 else if !cB p l.inv false (-1)then 60 else 0:=by
      rw[iq,A,s,r,D,E];simp
     cases z:(p.locks.take i).any (fun d=>decide (d.cell=l.cell))
     ·rw[z]at j o c;have C:=wR l.cell _ o;simp -dsimp only[go_sem,seval,a,b,m,j,j_,gp,mc,zG,aU,aX,F];refine kR a b m C J ?_ ?_<;>intro h
      ·rw[e 1 aI (by rw[c];simp[h])]
      ·have v:inR l.module p.modules.length=true:=bC
       refine aQ a ?_ ?_<;>intro h
       ·rw[e 60 aI (by rw[c];simp[h,v])]
       ·refine⟨aa,al K,?_,?_⟩
        ·refine ax ?_;rw[bc b];simp
        ·rw[q,iE b (by rw[c];simp[h,v])]
     ·rw[z]at j c;simp -dsimp only[go_sem,seval,a,b,m,j,j_,gp,mc,zG,aU,aX];rw[e 1 aI (by rw[c];simp)]
 ·have:i=p.locks.length:=aa
  subst this;rw[q,iJ]
def xj (F:T) (P:Int->Bool) (D:Int->Prop):Prop:=T.norm F=F/\ ∃g a b,cA (.t F)=some (g,a,b)/\(∀(h:ae) (n:Int),(a++[vi n]++b).mapM (toT1 h)=some (a++[vi n]++b))/\
 (∀n:Int,(a++[vi n]++b).all V.tree=true)/\ ∀n:Int,D n->Den Γ G g (a++[vi n]++b)=some (vb (P n))
theorem IsF.on {F:T} {P:Int->Bool} (h:IsF F P):xj F P (fun _=>True):=by
 obtain⟨c,g,a,b,d,e,f,i⟩:=h;exact⟨c,g,a,b,d,e,f,fun n _=>i n⟩
theorem wq (set:List Assign) (F:T) (P:Int->Bool) (D:Int->Prop) (n:xj F P D) (l: ∀a∈set,D a.cell) (t:set.length<2^48):
 Den Γ G 162 [.t (.sl (set.map Assign.enc)),.t F]=some (vb (set.all fun a=>P a.cell)):=by
 refine aD (q:=?_)
 obtain⟨_,g,a,b,q,r,o,p⟩:=n;have m:=yu q;refine ax ?_;refine ba 523856 set.length (fun i f=>(f 9).v=vi i/\(set.all fun a=>P a.cell)=(set.drop i).all fun a=>P a.cell) rfl rfl ⟨am,rfl⟩ ?_;rintro i f u v bb hi ⟨c,d⟩;have s:=aC i aa;refine ar c ?_;refine aQ c ?_ ?_<;>intro h
 ·obtain⟨x,e,j⟩:=aw ‹i<set.length›;have k:=p x.cell (l x j);refine cw c e m r o k ?_;refine aQ c ?_ ?_<;>intro h
  ·rw[d,d8 e h]
  ·refine⟨aa,al s,?_⟩;rw[d,d9 e h]
 ·have:i=set.length:=aa
  subst this;rw[d,ed]
theorem wo (s:Step) (F:T) (P:Int->Bool) (d:IsF F P) (n:s.set.length<2^48):
 Den Γ G 161 [(zS s),.t F]=some (vb (((s.guard.sup 3).all P&&(s.guard.sup 2).all P)&&s.set.all fun a=>(a.to.sup 3).all P&&(a.to.sup 2).all P)):=by
 refine aD (q:=?_)
 have e:=d.1;simp only[T.norm]at e;have k:=r8 s.guard F P d;refine aG k e ?_;refine gH ?_ ?_<;>intro h
 ·rw[h];simp
 ·rw[h,ep];refine ba 33521744 s.set.length (fun i f=>(f 15).v=vi i/\(s.set.all fun a=>(a.to.sup 3).all P&&(a.to.sup 2).all P)=(s.set.drop i).all fun a=>(a.to.sup 3).all P&&(a.to.sup 2).all P) rfl rfl ⟨am,rfl⟩ ?_;rintro i f u o bb hi ⟨b,c⟩;have l:=aC i aa;refine ar b ?_;refine aQ b ?_ ?_<;>intro h
  ·obtain⟨x,g,m⟩:=aw ‹i<s.set.length›;have j:=r8 x.to F P d;refine bw b g j e ?_;refine aQ b ?_ ?_<;>intro h
   ·rw[c,d8 g h]
   ·refine⟨aa,al l,?_⟩;rw[c,d9 g h]
  ·have:i=s.set.length:=aa
   subst this;rw[c,ed]
theorem PB (s:Step):Den Γ G 165 [(zS s)]=some (vb (s.guard.one&&decide (s.set=[]))):=by
 refine aD (q:=?_)
 have b:=kb3 s.guard;refine ar b ?_;refine gH ?_ ?_<;>intro h
 ·rcases s.set with _ | ⟨a,r⟩
  ·simp
  ·simp;omega
 ·simp
theorem vn (p:Prog) (t:Int):IsF (.fn 146 [] [bA p,.ip [ti t]]) (br p t):=(UG p t).isF
theorem uV (p:Prog) (t:Int):IsF (.fn 134 [] [bA p,.ip [.fn 146 [] [bA p,.ip [ti t]]]]) (eW p t):=(NB p t).isF
theorem VB (p:Prog) (t:Int) (s:Step) (b:s.set.length<2^48):Den Γ G 147 [(.agg [.t (.sl ((p).cells.map (Cell.enc))),.t (.sl ((p).modules.map (Contract.enc))),.t (.sl ((p).locks.map (Lock.enc))),.t (.sl ((p).threads.map (Thread.enc)))]),vi t,(.agg [.t (ti (s).kind),.t (ti (s).fr),.t (ti (s).to),.t (ti ((s).guard).op),.t (ti ((s).guard).w),.t (ti ((s).guard).n),.t (.sl (((s).guard).kids.map Expr.enc)),.t (.sl ((s).set.map Assign.enc)),.t (tb (s).release),.t (ti (s).target),.t (ti (s).module)])]=some (vb (fR p s false t&&s.set.all fun a=>br p t a.cell)):=by
 refine aD (q:=?_)
 have c:=uF p t
 have d:Den Γ G 161 [(zS s),.t (.fn 146 [] [bA p,.ip [ti t]])]=some (vb (fR p s false t)):=by
  rw[wo s _ _ (vn p t) b];simp only[fR,cY,yM]
 have e:=wq s.set _ _ _ (vn p t).on (fun _ _=>trivial) b;refine aG c d ?_;refine aQ e ?_ ?_<;>intro h<;>try exact⟨⟩
 ·simp
theorem Vt (p:Prog) (t:Int) (s:Step) (b:s.set.length<2^48):Den Γ G 150 [(.agg [.t (.sl ((p).cells.map (Cell.enc))),.t (.sl ((p).modules.map (Contract.enc))),.t (.sl ((p).locks.map (Lock.enc))),.t (.sl ((p).threads.map (Thread.enc)))]),vi t,(.agg [.t (ti (s).kind),.t (ti (s).fr),.t (ti (s).to),.t (ti ((s).guard).op),.t (ti ((s).guard).w),.t (ti ((s).guard).n),.t (.sl (((s).guard).kids.map Expr.enc)),.t (.sl ((s).set.map Assign.enc)),.t (tb (s).release),.t (ti (s).target),.t (ti (s).module)])]=some (vb (fR p s true t&&s.set.all fun a=>eW p t a.cell)):=by
 refine aD (q:=?_)
 have c:=wn p t
 have d:Den Γ G 161 [(zS s),.t (.fn 134 [] [bA p,.ip [.fn 146 [] [bA p,.ip [ti t]]]])]=some (vb (fR p s true t)):=by
  rw[wo s _ _ (uV p t) b];simp only[fR,cY,xR]
 have e:=wq s.set _ _ _ (uV p t).on (fun _ _=>trivial) b;refine aG c d ?_;refine aQ e ?_ ?_<;>intro h<;>try exact⟨⟩
 ·simp
theorem VC (p:Prog) (t:Int) (s:Step):Den Γ G 151 [(.agg [.t (.sl ((p).cells.map (Cell.enc))),.t (.sl ((p).modules.map (Contract.enc))),.t (.sl ((p).locks.map (Lock.enc))),.t (.sl ((p).threads.map (Thread.enc)))]),vi t,(.agg [.t (ti (s).kind),.t (ti (s).fr),.t (ti (s).to),.t (ti ((s).guard).op),.t (ti ((s).guard).w),.t (ti ((s).guard).n),.t (.sl (((s).guard).kids.map Expr.enc)),.t (.sl ((s).set.map Assign.enc)),.t (tb (s).release),.t (ti (s).target),.t (ti (s).module)])]=some (vb (s.guard.one&&decide (s.set=[]))):=by
 refine aD (q:=?_)
 have a:=PB s;exact al a
theorem I5 (p:Prog) (t:Int) (s:Step):Den Γ G 153 [(.agg [.t (.sl ((p).cells.map (Cell.enc))),.t (.sl ((p).modules.map (Contract.enc))),.t (.sl ((p).locks.map (Lock.enc))),.t (.sl ((p).threads.map (Thread.enc)))]),vi t,(.agg [.t (ti (s).kind),.t (ti (s).fr),.t (ti (s).to),.t (ti ((s).guard).op),.t (ti ((s).guard).w),.t (ti ((s).guard).n),.t (.sl (((s).guard).kids.map Expr.enc)),.t (.sl ((s).set.map Assign.enc)),.t (tb (s).release),.t (ti (s).target),.t (ti (s).module)])]=some (vb (f_ p t s)):=by
 refine aD (q:=?_)
 have a:=PB s;have c:=iC s.target p.threads.length;refine ar a ?_;cases b:(s.guard.one&&decide (s.set=[]))
 ·rw[b]at a;refine ar a ?_;simp[f_,b]
 ·rw[b]at a;refine ar a ?_;refine aQ c ?_ ?_<;>intro h
  ·simp[f_,b,h]
  ·simp[f_,b,h]
theorem VA (p:Prog) (t:Int) (s:Step):Den Γ G 152 [(.agg [.t (.sl ((p).cells.map (Cell.enc))),.t (.sl ((p).modules.map (Contract.enc))),.t (.sl ((p).locks.map (Lock.enc))),.t (.sl ((p).threads.map (Thread.enc)))]),vi t,(.agg [.t (ti (s).kind),.t (ti (s).fr),.t (ti (s).to),.t (ti ((s).guard).op),.t (ti ((s).guard).w),.t (ti ((s).guard).n),.t (.sl (((s).guard).kids.map Expr.enc)),.t (.sl ((s).set.map Assign.enc)),.t (tb (s).release),.t (ti (s).target),.t (ti (s).module)])]=some (vb (f_ p t s&&pG p s.target)):=by
 refine aD (q:=?_)
 have b:=I5 p t s;refine ar b ?_;cases a:f_ p t s
 ·rw[a]at b;refine ax ?_;simp
 ·have c:inR s.target p.threads.length=true:=by
   simp only[f_,zF]at a;exact a.2
  simp only[inR,aR]at c;obtain⟨e,f⟩:=c;obtain⟨y,d⟩: ∃y,p.threads[s.target.toNat]? =some y:=⟨_,zI aa⟩
  refine aG e d ?_;simp[pG,d]
theorem R7 (p:Prog) (t:Int) (e:Expr):Den Γ G 108 [(.agg [.t (ti (e).op),.t (ti (e).w),.t (ti (e).n),.t (.sl ((e).kids.map (Expr.enc)))]),.t (.fn 146 [] [bA p,.ip [ti t]])]=some (vb (cY p e false t)):=by
 rw[r8 e _ _ (vn p t),cY,yM]
theorem Jh (r:List Assign):((r.map Assign.enc).all fun x=>decide (x.length=5))=true:=by
 simp[Assign.enc,Expr.enc_eq]
theorem PO (n:Nat):(((n+1:Nat):Int)-1).toNat=n:=aa
theorem Oo {α β:Type} (f:α->β) (r:List α):List.take r.length (r.map f)=r.map f:=c7 af
theorem Xb (p:Prog) (t:Int) (s:Step) (u:s.set.length<2^48) (k:sp p s):Den Γ G 148 [(.agg [.t (.sl ((p).cells.map (Cell.enc))),.t (.sl ((p).modules.map (Contract.enc))),.t (.sl ((p).locks.map (Lock.enc))),.t (.sl ((p).threads.map (Thread.enc)))]),vi t,(.agg [.t (ti (s).kind),.t (ti (s).fr),.t (ti (s).to),.t (ti ((s).guard).op),.t (ti ((s).guard).w),.t (ti ((s).guard).n),.t (.sl (((s).guard).kids.map Expr.enc)),.t (.sl ((s).set.map Assign.enc)),.t (tb (s).release),.t (ti (s).target),.t (ti (s).module)])]=some (vb (mC p t s)):=by
 refine aD (q:=?_)
 have q:=uF p t;have W:=R7 p t s.guard;rcases c:s.set with _ | ⟨a,r⟩
 ·refine aG q c ?_;simp[mC,c]
 ·have H: ¬(((r.length+1:Nat):Int)=0):=aa
  have E:(1:Int)<=((r.length+1:Nat):Int):=aa
  have d:mC p t s=(cY p s.guard false t&&br p t a.cell&& !cJ p a.cell Cell.ghost&&decide (a.to.op=2)&&br p (-1) a.to.n&& !cJ p a.to.n Cell.ghost&&
   r.all fun b=>br p t b.cell&&cJ p b.cell Cell.ghost&&cY p b.to false t):=by rw[mC,c]
  have l:a∈s.set:=by rw[c];simp
  obtain⟨P,x,v⟩:=fV (k.2 a l).1;have X:=tK p t a.cell;have K:=sC p a.cell x P v;have B:=ff (g:=Cell.ghost) v;have I:=ra p a.to.n;refine bw q c H W ?_;refine qS c X @bA.eq_1 ?_ ?_<;>intro h
  ·rw[d,h];simp
  ·have S:cY p s.guard false t=true:=bC
   refine dz K c ?_ ?_<;>intro h
   ·rw[d,h];simp
   ·have T:br p t a.cell=true:=bC
    refine aQ c ?_ ?_<;>intro h
    ·rw[d,B,h];simp
    ·have U:x.ghost=false:=bC
     refine aQ I ?_ ?_<;>intro h
     ·rw[d];simp[h]
     ·have n:a.to.op=2:=bC
      obtain⟨Q,y,w⟩:=fV (Jl (k.2 a l).2 n);have M:=sC p a.to.n y Q w;have C:=ff (g:=Cell.ghost) w;refine aQ M ?_ ?_<;>intro h
      ·rw[d,h];simp
      ·have V:br p (-1) a.to.n=true:=bC
       refine dz c E ?_ ?_<;>intro h
       ·rw[d,C,h];simp
       ·rw[B,C,S,T,U,V,h]at d;simp only[n,lx,ld,gj,ep]at d;have Z:=Jh r;have t2:=PO r.length;have t3:=Oo Assign.enc r;refine bw Z t2 t3 @iY ?_;refine ba 2475879930996807960121837632 r.length (fun j o=>(o 67).v=vi j/\mC p t s=(r.drop j).all fun b=>br p t b.cell&&cJ p b.cell Cell.ghost&&cY p b.to false t) rfl rfl ⟨am,d⟩ ?_;rintro j o u' Y O hj ⟨e,f⟩;have F:=aC j (by rw[c]at u;simp at u;omega);refine ar e ?_;refine aQ e ?_ ?_<;>intro h
        ·obtain⟨b,i,L⟩:=aw ‹j<r.length›;obtain⟨R,z,A⟩:=fV (k.2 b (by rw[c];simp[L])).1;have J:=tK p t b.cell;have N:=sC p b.cell z R A;have D:=ff (g:=Cell.ghost) A;have m:=R7 p t b.to;simp only[bA]at m;refine bw e i J @bA.eq_1 ?_
         repeat'(refine mI e N m @bA.eq_1 ?_ ?_<;>intro h)
         all_goals first
          | (rw[f,d8 i (by rw[D];simp[*])];done)
          | (refine⟨aa,al F,?_⟩
             rw[f,d9 i (by rw[D];simp[*])])
        ·have:j=r.length:=aa
         subst this;rw[f,ed]
theorem kbo (p:Prog) (t:Int):xj (.fn 164 [] [bA p,.ip [.fn 134 [] [bA p,.ip [.fn 146 [] [bA p,.ip [ti t]]]]]]) (fun c=>cJ p c Cell.ghost&&eW p t c) (fun c=>inR c p.cells.length=true):=by
 have k:IsP 134 [bA p,.ip [.fn 146 [] [bA p,.ip [ti t]]]] (eW p t):=NB p t;have m: ∀x∈[bA p,.ip [.fn 134 [] [bA p,.ip [.fn 146 [] [bA p,.ip [ti t]]]]]],T.norm x=x:=by simp[bA,T.norm]
 refine⟨rfl,164,[],[bA p,.ip [.fn 134 [] [bA p,.ip [.fn 146 [] [bA p,.ip [ti t]]]]]].map V.t,rfl,fun l n=> ?_,fun n=> ?_,fun n f=> ?_⟩
 ·exact xJ l (ti n::[bA p,.ip [.fn 134 [] [bA p,.ip [.fn 146 [] [bA p,.ip [ti t]]]]]]) (fun x a=>(cq.1 a).elim (fun e=>by rw[e];rfl) (m x))
 ·exact NP (ti n::[bA p,.ip [.fn 134 [] [bA p,.ip [.fn 146 [] [bA p,.ip [ti t]]]]]])
 ·obtain⟨j,x,a⟩:=fV f;have i:=sC p n x j a;have d:=ff (g:=Cell.ghost) a;have b:=k.2 n;simp only[aT,be,bA,eY,i8]at b⊢
  refine aD (q:=ar i ?_);refine aQ b ?_ ?_<;>intro h
  ·rw[d,h];simp
  ·rw[d,h];simp
theorem Vz (p:Prog) (t:Int) (s:Step) (F:s.set.length<2^48) (l:sp p s):Den Γ G 149 [(.agg [.t (.sl ((p).cells.map (Cell.enc))),.t (.sl ((p).modules.map (Contract.enc))),.t (.sl ((p).locks.map (Lock.enc))),.t (.sl ((p).threads.map (Thread.enc)))]),vi t,(.agg [.t (ti (s).kind),.t (ti (s).fr),.t (ti (s).to),.t (ti ((s).guard).op),.t (ti ((s).guard).w),.t (ti ((s).guard).n),.t (.sl (((s).guard).kids.map Expr.enc)),.t (.sl ((s).set.map Assign.enc)),.t (tb (s).release),.t (ti (s).target),.t (ti (s).module)])]=some (vb (mA p t s)):=by
 refine aD (q:=?_)
 have k:=uF p t
 have H:Den Γ G 161 [(zS s),.t (.fn 146 [] [bA p,.ip [ti t]])]=some (vb (fR p s false t)):=by
  rw[wo s _ _ (vn p t) F];simp only[fR,cY,yM]
 by_cases e:s.set=[]
 ·refine aG k e ?_;simp[mA,e]
 ·obtain⟨a,r,d⟩: ∃a r,s.set=a::r:=by
   rcases h:s.set with _ | ⟨a,r⟩
   ·exact absurd h e
   ·exact⟨a,r,rfl⟩
  have f:s.set.length=r.length+1:=by rw[d];rfl
  have j:s.set[0]? =some a:=by rw[d];rfl
  have z:List.drop 1 (s.set.map Assign.enc)=r.map Assign.enc:=by rw[d];rfl
  have q: ¬(((r.length+1:Nat):Int)=0):=aa
  have o:(1:Int)<=((r.length+1:Nat):Int):=aa
  have c:mA p t s=(fR p s false t&&br p (-1) a.cell&& !cJ p a.cell Cell.ghost&&r.all fun b=>cJ p b.cell Cell.ghost&&eW p t b.cell):=by rw[mA,d]
  have v:a∈s.set:=by rw[d];simp
  obtain⟨B,x,m⟩:=fV (l.2 a v).1;have A:=sC p a.cell x B m;have n:=ff (g:=Cell.ghost) m;have u:=ra p a.cell;have y:=wn p t;have i:=wq r _ _ _ (kbo p t) (fun b E=>(l.2 b (by rw[d];simp[E])).1) aa;have I:=Jh s.set;have J:=PO r.length;have K:=Oo Assign.enc r;refine bG k f q H j ?_;refine dz j u ?_ ?_<;>intro h
  ·rw[c,h];simp
  ·have C:fR p s false t=true:=bC
   refine aQ A ?_ ?_<;>intro h
   ·rw[c,h];simp
   ·have D:br p (-1) a.cell=true:=bC
    refine bp (fun h=> ?_) (fun h=> ?_)<;>(try rw[h])<;>(try simp only[bh]at h)<;>(try simp -dsimp only[go_sem,seval,y,f,z,I,J,K,o,iY,i])
    ·rw[c,n,h];simp
    ·rw[n,C,D,h]at c;simp only[ld,gj,ep]at c;rw[c];have w:T.ip [.sl (p.cells.map Cell.enc),.sl (p.modules.map Contract.enc),.sl (p.locks.map Lock.enc),.sl (p.threads.map Thread.enc)]=bA p:=rfl;exact a_ w i
theorem Zz:Den Γ G 135 []=some (.agg [.t .nilf,.t (.fn 147 [] []),.t (.fn 148 [] []),.t (.fn 149 [] []),.t (.fn 150 [] []),.t (.fn 151 [] []),.t (.fn 152 [] []),.t (.fn 153 [] [])]):=by
 exact aD (q:=am)
set_option maxHeartbeats 4000000 in
theorem Yo (p:Prog) (t:Int) (x:Thread) (K7: -2^48<x.points/\x.points<2^48) (s:Step) (E:s.set.length<2^48):
 Den Γ G 105 [(zP p),vi t,(zT x),(zS s)]=some (vi (cC p t x.points s)):=by
 refine aD (q:=?_)
 have Y:IntKind.i64.wrap (x.points-1)=x.points-1:=bq aa;have j:=iC s.fr (x.points-1);have J:=iC s.to x.points;have I:=iC s.module p.modules.length;have U:=t_ s.guard p.cells false;refine ax ?_
 by_cases D:kH p x.points s=true
 ·rw[cC,ah D]
  repeat'(refine mI Y j J I ?_ ?_<;>intro h<;>try exact⟨⟩)
  all_goals(exfalso;simp only[kH,eZ,zF,eD,aR]at D;simp_all;try omega)
 ·have M:cC p t x.points s=if !s.guard.valid p.cells false||decide (s.guard.w≠1)then 60 else if ¬(a7 (cW p s.set) 0 s.set).1=0 then(a7 (cW p s.set) 0 s.set).1 else if c6 p t s then 0 else 70:=by rw[cC,ac D]
  have X:kH p x.points s=false:=ak D
  simp only[kH,jm,lj,nf,ek]at X;obtain⟨⟨⟨⟨⟨⟨b1,b2⟩,b3⟩,b4⟩,b5⟩,b6⟩,b7⟩:=X;rw[b3]at j;rw[b4]at J;rw[b5]at I
  have W: ∀Q:Prop,(∀(A m B r v:Bool),decide (s.kind=6)=m->decide (s.kind=7)=B->decide (s.kind=3)=A->s.release=r->decide (s.target=0)=v->
   ((m=true/\r=false)\/(m=false/\B=true/\r=false)\/(m=false/\B=false/\v=true/\r=false)\/(m=false/\B=false/\v=true/\r=true/\A=true))->Q)->Q:=fun Q q=>by
   refine q _ _ _ _ _ rfl rfl rfl rfl rfl ?_;simp only[aR,ek]
   by_cases h6:s.kind=6<;>by_cases h7:s.kind=7<;>by_cases h3:s.kind=3<;>cases T:s.release<;>by_cases V:s.target=0<;>simp_all
  refine W _ (fun A m B r v R S P er ez n=> ?_);have l:s.guard.valid p.cells false=true->s.guard.w=1->cC p t x.points s=if ¬(a7 (cW p s.set) 0 s.set).1=0 then(a7 (cW p s.set) 0 s.set).1 else if c6 p t s then 0 else 70:=fun g1 g2=>by rw[M,ac (by simp[g1,g2])]
  have N:(s.guard.valid p.cells false=false\/ ¬s.guard.w=1)->cC p t x.points s=60:=fun g=>by rw[M,ah (by rcases g with g | g<;>simp[g])]
  have b1':1<=s.kind/\s.kind<=7:=aa
  have c:(decide ¬s.kind=3)= !A:=by rw[<- P];simp
  have e:(decide ¬s.target=0)= !v:=by rw[<- ez];simp
  rcases n with⟨rfl,rfl⟩ | ⟨rfl,rfl,rfl⟩ | ⟨rfl,rfl,rfl,rfl⟩ | ⟨rfl,rfl,rfl,rfl,rfl⟩
  all_goals(try cases v)
  all_goals(try cases A)
  all_goals(try(exfalso;simp only[aR]at P R S;omega))
  all_goals(
   (try simp only[jn,ld]at c e)
   refine qV Y j J I b1 b2 R S c e er U ?_
   repeat'(refine aQ U ?_ ?_<;>intro h))
  all_goals(try(rw[N (.inl ‹_›)];done))
  all_goals(try(rw[N (.inr ‹_›)];done))
  all_goals(
   have Z:s.guard.valid p.cells false=true:=bC
   have QA:s.guard.w=1:=bC
   have l:=l Z QA;clear W N M U j J I c e er P R;refine aS 2722258935367498036300439942420748071168 s.set.length (fun i f h y=>(f 83).v=vi i/\h 74=some (.map (lZ ((s.set.take i).map Assign.cell)))/\a7 (cW p s.set) 0 s.set=a7 (cW p s.set) i (s.set.drop i)) rfl ⟨am,by simp -dsimp only[go_sem,seval];rfl,rfl⟩ ?_;rintro i f u hh y bs hi ⟨b,H,o⟩;have hw:=aC i aa;refine ar b ?_;refine aQ b ?_ ?_<;>intro h
   ·obtain⟨a,C,Cp⟩:=aw ‹i<s.set.length›;have j:=iC a.cell p.cells.length
    have F: ∀k:Int,k≠0->cW p s.set i a=k->cC p t x.points s=k:=fun k hk h0=>by
     have h2:=o.trans (gV C (by rw[h0];exact hk));rw[l,h2,h0,ah hk]
    have L:((s.set.take i).map Assign.cell).any (fun d=>decide (d=a.cell))=(s.set.take i).any (fun d=>decide (d.cell=a.cell)):=by rw[qY];rfl
    have w:=yG a.cell ((s.set.take i).map Assign.cell);rw[L]at w;cases n:(s.set.take i).any (fun d=>decide (d.cell=a.cell))
    ·rw[n]at w L;have Jj:=wR a.cell _ L;simp -dsimp only[go_sem,seval,b,C,H,w,j_,gp,mc,zG,aU,aX,j];cases O:inR a.cell p.cells.length
     ·refine ar b ?_;rw[F 70 aI (by simp[cW,O])]
     ·obtain⟨d0,z,V⟩:=fV O;have DT:=t_ a.to p.cells false;have Id:=ff (g:=fun x=>decide (a.to.w=x.w)) V
      have K:cW p s.set i a=if !a.to.valid p.cells false || !cJ p a.cell (fun x=>decide (a.to.w=x.w))then 60 else 0:=by
       rw[cW,ac (by rw[O,n];simp)]
      rw[Id]at K;refine bG b H Jj d0 V ?_;refine dz b DT ?_ ?_<;>intro h
      ·rw[F 60 aI (by rw[K];simp[h])]
      ·have Ke:a.to.w=z.w:=bC
       refine aQ b ?_ ?_<;>intro h
       ·rw[F 60 aI (by rw[K];simp[h])]
       ·refine⟨aa,al hw,?_,?_⟩
        ·refine ax ?_;rw[bc C];simp
        ·rw[o,iE C (by rw[K];simp[h,Ke])]
    ·rw[n]at w;simp -dsimp only[go_sem,seval,b,C,H,w,j_,gp,mc,zG,aU,aX];rw[F 70 aI (by rw[cW,ah (by rw[n];simp)])]
   ·have:i=s.set.length:=aa
    subst this;rw[iJ]at o;rw[o,ac af]at l;have T:sp p s:=⟨Z,tz (i:=0) (set:=s.set) (by rw[o])⟩
    have AB:=Zz;have f1:=VB p t s E;have f2:=Xb p t s E T;have f3:=Vz p t s E T;have f4:=Vt p t s E;have f5:=VC p t s;have f6:=VA p t s;have f7:=I5 p t s;have Dn:s.kind=1\/s.kind=2\/s.kind=3\/s.kind=4\/s.kind=5\/s.kind=6\/s.kind=7:=aa
    rw[l];clear l o H;rcases Dn with k | k | k | k | k | k | k
    all_goals(try(exfalso;simp only[ek]at S;omega))
    all_goals(
     simp only[k]at f1 f2 f3 f4 f5 f6 f7;refine nJ AB k f1 f2 f3 f4 f5 f6 f7 ?_;refine gH ?_ ?_<;>intro h
     all_goals(simp[c6,k,h])))
theorem Ym (p:Prog):IsF (.fn 103 [] [bA p]) (fun m=>inR m p.modules.length):=by
 refine IsP.isF ⟨by simp[bA,T.norm],fun n=> ?_⟩;simp only[aT,be,bA]
 refine aD (q:=?_)
 have a:=iC n p.modules.length;exact al a
def uB (x:Thread):T:=.ip [.str x.name,ti x.points,.sl (x.asserts.map Expr.enc),ints x.modules,.sl (x.steps.map Step.enc),.sl (x.loops.map Loop.enc),tb x.asleep]
def u9 (l:Loop):T:=.ip [ti l.head,ints l.body,ti l.variant.op,ti l.variant.w,ti l.variant.n,.sl (l.variant.kids.map Expr.enc)]
theorem Yl (x:Thread) (l:Loop):IsF (.fn 106 [] [uB x,u9 l]) (fun q=>inR q x.points&&decide (q≠l.head)):=by
 refine IsP.isF ⟨by simp[uB,u9,T.norm],fun n=> ?_⟩;simp only[aT,be,uB,u9]
 refine aD (q:=?_)
 have a:=iC n x.points;refine ar a ?_
 repeat'(refine gH ?_ ?_<;>intro h<;>try exact⟨⟩)
 all_goals(simp[*])
theorem kcF (p:Prog) (t:Int) (e:Expr) (pair:Bool):Den Γ G 99 [(zP p),(.agg [.t (ti (e).op),.t (ti (e).w),.t (ti (e).n),.t (.sl ((e).kids.map (Expr.enc)))]),vb pair,.t (.fn 134 [] [bA p,.ip [.fn 146 [] [bA p,.ip [ti t]]]])]=some (vb (cB p e pair t)):=by
 rw[Qx p e pair _ _ (uV p t),cB,cY,xR]
theorem kaP (p:Prog) (t:Int) (e:Expr):Den Γ G 108 [(.agg [.t (ti (e).op),.t (ti (e).w),.t (ti (e).n),.t (.sl ((e).kids.map (Expr.enc)))]),.t (.fn 134 [] [bA p,.ip [.fn 146 [] [bA p,.ip [ti t]]]])]=some (vb (cY p e true t)):=by
 rw[r8 e _ _ (uV p t),cY,xR]
def HT (p:Prog) (x:Thread) (n k:Nat) (es:List (T×V)) (h:ae) (y:Nat):Prop:=
 h (n+0)=some (.rows 4 [[.t (.sl (p.cells.map Cell.enc)),.t (.sl (p.modules.map Contract.enc)),.t (.sl (p.locks.map Lock.enc)),.t (.sl (p.threads.map Thread.enc))]] false)/\
 h (n+1)=some (.rows 7 [[.t (.str x.name),.t (ti x.points),.t (.sl (x.asserts.map Expr.enc)),.t (ints x.modules),.t (.sl (x.steps.map Step.enc)),.t (.sl (x.loops.map Loop.enc)),.t (tb x.asleep)]] false)/\
 h k=some (.map es)/\n+2<=y
set_option maxHeartbeats 4000000 in
theorem W0 (p:Prog) (Y:p.sane) (i:Nat) (x:Thread) (hx:p.threads[i]? =some x) (K7:x.points<2^48) (H:ae) (n k:Nat) (EK:k<n) (Bk:H k=some (.map (eG ((p.threads.take i).map Thread.name)))):
 ∃r h' L,DenR Γ G 83 [(zP p),vi i,(zT x),.mm k] H n=some (r,h',L)/\(n<=L/\r= .tup [vi (bI p i x).1,vi (bI p i x).2])/\((bI p i x).1=0->h' k=some (.map (eG ((p.threads.take (i+1)).map Thread.name)))):=by
 have P:=zL hx;obtain⟨s1,s2,s3,s4,s5⟩:=Y.thr x P;have hl:=tZ x.name;have Qr: ¬k=n:=aa
 have Js:=yz EK;have Qq:=yQ EK;have Ct:=fun H' L Ri=>Lf k x.name ((p.threads.take i).map Thread.name) H' L Ri
 have Z:((p.threads.take i).map Thread.name).any (fun d=>d.toList==x.name.toList)=(p.threads.take i).any (fun d=>d.name.toList==x.name.toList):=by rw[qY];rfl
 refine bM (q:=ar hl ?_);refine gH ?_ ?_<;>intro h
 ·have:bI p i x=(1,-1):=by rw[bI,ah (by simp[h])]
  rw[this];exact⟨⟨av,am⟩,fun g=>by simp at g⟩
 ·have T:ec x.name=true:=bC
  refine bf (Ct _ _ (a_ Js Bk)) ?_;rintro r h' L ⟨⟨Jt,rfl⟩,es,A,R⟩;rw[Z]at R;have q1: ¬n+1=k:=aa
  have q2: ¬n+0=k:=aa
  have q3: ¬n+0=n+1:=aa
  have o:h' (n+0)=some (.rows 4 [[.t (.sl (p.cells.map Cell.enc)),.t (.sl (p.modules.map Contract.enc)),.t (.sl (p.locks.map Lock.enc)),.t (.sl (p.threads.map Thread.enc))]] false):=by
   rw[A];exact a_ q2 q3
  have c:h' (n+1)=some (.rows 7 [[.t (.str x.name),.t (ti x.points),.t (.sl (x.asserts.map Expr.enc)),.t (ints x.modules),.t (.sl (x.steps.map Step.enc)),.t (.sl (x.loops.map Loop.enc)),.t (tb x.asleep)]] false):=by
   rw[A];exact al q1
  have t:h' k=some (.map es):=by rw[A];exact am
  clear A;refine ar Z ?_;refine aQ c ?_ ?_<;>intro h
  ·have:bI p i x=(41,-1):=by rw[bI,ac (by simp[T]),ah h]
   rw[this];exact⟨⟨av,am⟩,fun g=>by simp at g⟩
  ·have U:(p.threads.take i).any (fun d=>d.name.toList==x.name.toList)=false:=bC
   rw[R U,show(p.threads.take i).map Thread.name++[x.name]=(p.threads.take (i+1)).map Thread.name from by rw[bc hx];simp]at t;clear R Ct Bk
   by_cases Fg:x.points<1\/ ¬(x.asserts.length:Int)=x.points\/ ¬(x.modules.length:Int)=x.points
   ·have:bI p i x=(1,-1):=by rw[bI,ac (by simp[T]),ac (by simp[U]),ah Fg]
    rw[this]
    repeat'(refine aQ c ?_ ?_<;>intro h)
    all_goals first
     | (exfalso;omega)
     | exact⟨⟨av,am⟩,fun g=>by simp at g⟩
   ·have f1: ¬x.points<1:=aa
    have f2:(x.asserts.length:Int)=x.points:=aa
    have f3:(x.modules.length:Int)=x.points:=aa
    have v:bI p i x=if !x.modules.all (fun m=>inR m p.modules.length)then(1,-1)
     else if !x.asserts.all (fun e=>cB p e false i)then(60,-1)
     else if ¬(a7 (fun _ s=>cC p i x.points s) 0 x.steps).1=0 then a7 (fun _ s=>cC p i x.points s) 0 x.steps
     else((a7 (fun _ l=>dE p i x.points l) 0 x.loops).1,-1):=by
     rw[bI,ac (by simp[T]),ac (by simp[U]),ac Fg]
    have V:decide (¬(x.asserts.length:Int)=x.points)=false:=by simp[f2]
    have W:decide (¬(x.modules.length:Int)=x.points)=false:=by simp[f3]
    have C:=rl _ _ (Ym p) x.modules aa;simp only[bA]at C;refine cw f1 V W c o C ?_;have IT:=wn p i;refine qS o IT c ?_ ?_<;>intro h
    ·have:bI p i x=(1,-1):=by rw[v];simp[h]
     rw[this];exact⟨⟨av,am⟩,fun g=>by simp at g⟩
    ·rw[h]at v;simp only[jn,zG,aX]at v;clear C h;refine aS 147429837401600561920 x.asserts.length (fun j f h y=>(f 57).v=vi j/\HT p x n k (eG ((p.threads.take (i+1)).map Thread.name)) h y/\x.asserts.all (fun e=>cB p e false i)=(x.asserts.drop j).all (fun e=>cB p e false i)) rfl ⟨am,⟨o,c,t,av⟩,rfl⟩ ?_;clear o c t;rintro j f u hh y bs hj ⟨J,⟨o,c,t,gn⟩,F⟩;have B:=aC j aa;refine ar J ?_;refine aQ J ?_ ?_<;>intro h
     ·obtain⟨e,A,_⟩:=aw ‹j<x.asserts.length›;have hb:=kcF p i e false;refine bw J A o hb ?_;refine aQ J ?_ ?_<;>intro h
      ·have:bI p i x=(60,-1):=by rw[v,F,d8 A h];simp
       rw[this];exact⟨⟨av,am⟩,fun g=>by simp at g⟩
      ·refine⟨aa,al B,⟨al o,al c,al t,av⟩,?_⟩;rw[F,d9 A h]
     ·have:j=x.asserts.length:=aa
      subst this;rw[ed]at F;rw[F]at v;simp only[jn,zG,aX]at v;clear F J B;refine ar c ?_;refine aS 38684445636047416179352320 x.steps.length (fun j f h y=>(f 70).v=vi j/\HT p x n k (eG ((p.threads.take (i+1)).map Thread.name)) h y/\a7 (fun _ s=>cC p i x.points s) 0 x.steps=a7 (fun _ s=>cC p i x.points s) j (x.steps.drop j)) rfl ⟨am,⟨al o,al c,al t,av⟩,rfl⟩ ?_;clear o c t;rintro j f u hh y bs hj ⟨K,⟨o,c,t,gn⟩,w⟩;have B:=aC j aa;refine ar K ?_;refine aQ K ?_ ?_<;>intro h
      ·obtain⟨s,Q,F3⟩:=aw ‹j<x.steps.length›;have AE:=Yo p i x ⟨aa,K7⟩ s (Y.sets x P s F3);refine bG K Q o c AE ?_;refine aQ K ?_ ?_<;>intro h
       ·have X:=w.trans (gV (f:=fun _ s=>cC p i x.points s) Q (ak h));have:bI p i x=(cC p i x.points s,(j:Int)):=by rw[v,X,ah (ak h)]
        rw[this];exact⟨⟨av,am⟩,fun g=>absurd g h⟩
       ·refine⟨aa,al B,⟨al o,al c,al t,av⟩,?_⟩;rw[w,iE Q (ak h)]
      ·have:j=x.steps.length:=aa
       subst this;rw[iJ]at w;rw[w,ac af]at v;clear w K B;refine ar c ?_;refine aS 10633823965969841973409111413518369536 x.loops.length (fun j f h y=>(f 88).v=vi j/\HT p x n k (eG ((p.threads.take (i+1)).map Thread.name)) h y/\a7 (fun _ l=>dE p i x.points l) 0 x.loops=a7 (fun _ l=>dE p i x.points l) j (x.loops.drop j)) rfl ⟨am,⟨al o,al c,al t,av⟩,rfl⟩ ?_;clear o c t;rintro j f u hh y bs hj ⟨z,⟨o,c,t,gn⟩,w⟩;have B:=aC j aa;refine ar z ?_;refine aQ z ?_ ?_<;>intro h
       ·obtain⟨l,S,Hy⟩:=aw ‹j<x.loops.length›;have D4:=Y.loops x P l Hy
        have I: ∀M:Int,M≠0->dE p i x.points l=M->bI p i x=(M,-1):=fun M Ah g=>by
         have X:=w.trans (gV (f:=fun _ l=>dE p i x.points l) S (by rw[g];exact Ah));rw[v,X,g]
        have Aj:=iC l.head x.points;have Et:=Ht l.body aa;have C:=rl _ _ (Yl x l) l.body aa;simp only[uB,u9]at C;have hv:=t_ l.variant p.cells false;have De:=kaP p i l.variant;have D: ¬n=y+2:=aa
        have E: ∀a b:Nat,¬n+0=y+a+b:=by intros;omega
        have r3: ∀a b:Nat,¬k=y+a+b:=by intros;omega
        refine dc z S o c D E Aj ?_;refine vx z D E o c Et ?_ ?_<;>intro h
        ·rw[I 1 aI (by simp[dE,h])];exact⟨⟨av,am⟩,fun g=>by simp at g⟩
        ·have u1:inR l.head x.points=true:=bC
         refine vx z D E o c C ?_ ?_<;>intro h
         ·rw[I 1 aI (by simp[dE,h])];exact⟨⟨av,am⟩,fun g=>by simp at g⟩
         ·have u2:fS l.body=true:=bC
          refine vx z D E o c hv ?_ ?_<;>intro h
          ·rw[I 1 aI (by rw[dE,ah (by rw[h];simp)])];exact⟨⟨av,am⟩,fun g=>by simp at g⟩
          ·have u3:(l.body.all fun q=>inR q x.points&&decide (q≠l.head))=true:=bC
           have N:dE p i x.points l=if !l.variant.valid p.cells false || !cY p l.variant true i then 60 else 0:=by
            rw[dE,ac (by rw[u1,u2,u3];simp)]
           refine vx z D E o c De ?_ ?_<;>intro h
           ·rw[I 60 aI (by rw[N];simp[h])];exact⟨⟨av,am⟩,fun g=>by simp at g⟩
           ·have u4:l.variant.valid p.cells false=true:=bC
            refine aQ z ?_ ?_<;>intro h
            ·rw[I 60 aI (by rw[N];simp[h])];exact⟨⟨av,am⟩,fun g=>by simp at g⟩
            ·refine⟨aa,al B,⟨a_ o E,a_ c D,a_ t r3,av⟩,?_⟩;rw[w,iE S (by rw[N];simp[h,u4])]
       ·have:j=x.loops.length:=aa
        subst this;rw[iJ]at w;rw[v,w];exact⟨⟨av,am⟩,fun _=>al t⟩
@[go_sem]theorem zCG (g:Nat) (c:List T) (K:Nat->List V->List V->Prop) (w:WK K):fnK (some (.t (.fa g c))) K w=K g [.agg (c.map V.t)] []:=rfl
theorem tw (p:Prog) (c:p.sane):Den Γ G 64 [(zP p)]=some (.tup [vi (dh p).1,vi (dh p).2.1,vi (dh p).2.2]):=by
 refine aD (q:=?_)
 have q:=WS p c;refine ar q ?_;refine gH ?_ ?_<;>intro h
 ·have d: ¬(cI p).1=0:=ak h
  have:dh p=((cI p).1,(cI p).2,-1):=by rw[dh,ah d]
  rw[this];simp
 ·have d:(cI p).1=0:=ak h
  obtain⟨⟨E,F,H,I⟩,B⟩:=cO d
  have a:dh p=if ¬dT p=0 then(dT p,-1,-1)else if ¬fl p=0 then(fl p,-1,-1)else if ¬fD p=0 then(fD p,-1,-1)else eQ p 0 p.threads:=by
   rw[dh,ac (ak d)]
  have m:=Xt p c;have n:=WE p c;have o:=Y6 p c;refine bK ?_;refine ar m ?_;refine gH ?_ ?_<;>intro h
  ·have:dh p=(dT p,-1,-1):=by rw[a,ah (ak h)]
   rw[this];simp
  ·have s:dT p=0:=ak h
   rw[ac (ak s)]at a;refine bK ?_;refine ar n ?_;refine gH ?_ ?_<;>intro h
   ·have:dh p=(fl p,-1,-1):=by rw[a,ah (ak h)]
    rw[this];simp
   ·have t:fl p=0:=ak h
    rw[ac (ak t)]at a;refine bK ?_;refine ar o ?_;refine gH ?_ ?_<;>intro h
    ·have:dh p=(fD p,-1,-1):=by rw[a,ah (ak h)]
     rw[this];simp
    ·have v:fD p=0:=ak h
     rw[ac (ak v)]at a;refine bK ?_;refine ax ?_;refine aS 73786835557349912604 p.threads.length (fun i f h y=>(f 47).v=vi i/\56<y/\h 56=some (.map (eG ((p.threads.take i).map Thread.name)))/\dh p=eQ p i (p.threads.drop i)) rfl ⟨am,am,by simp -dsimp only[go_sem,seval];rfl,a⟩ ?_;rintro i f u w y bs hi ⟨b,D,k,g⟩;have A:=aC i aa;refine ar b ?_;refine aQ b ?_ ?_<;>intro h
     ·obtain⟨x,e,l⟩:=aw ‹i<p.threads.length›;refine aG b e ?_;refine bf (W0 p c i x e (by have:=(B x l).1;omega) w _ 56 aa k) ?_;rintro r h' J ⟨⟨C,rfl⟩,z⟩;refine ar b ?_;refine aQ b ?_ ?_<;>intro h
      ·rw[g,N' e (ak h)];simp
      ·have j:=z (ak h);refine⟨aa,al A,av,al j,?_⟩;rw[g,Oc e (ak h)]
     ·have:i=p.threads.length:=aa
      subst this;rw[g,RM];simp
theorem wj: ∀l:List Int,ir (ai l)=some l
 | []=>rfl
 | a::l=>by
   have:ai (a::l)=[.t (.int .i64 a)]::ai l:=rfl;rw[this,ir,wj l];rfl
theorem IN (l:List Int):bR l=ai l:=by simp[bR,ai]
def qL (l:List Int):List Int:=Go.Lib.compact (l.mergeSort fun x y=>decide (x<=y))
theorem XI (l:List Int) (x:Int):x∈Go.Lib.compact l<->x∈l:=by
 unfold Go.Lib.compact Go.Lib.compactUpTo;simp only[df,ic,dN];constructor
 ·rintro⟨j,⟨g,_⟩,rfl⟩;simp[g]
 ·intro k;obtain⟨i,hi⟩:=eC k
  have e: ∀i:Nat,l[i]? =some x-> ∃a,(a<l.length/\Go.Lib.keeps l.toArray a=true)/\l.toArray[a]! =x:=by
   intro i
   induction i with
   | zero=>
     intro h;obtain⟨b,c⟩:=zH.1 h
     exact⟨0,⟨b,by simp[Go.Lib.keeps]⟩,by simp[b,c]⟩
   | succ i m=>
     intro h;obtain⟨b,c⟩:=zH.1 h
     by_cases d:l[i]? =some x
     ·exact m d
     ·refine⟨i+1,⟨b,?_⟩,by simp[b,c]⟩;have hi:i<l.length:=aa
      have : ¬l[i+1]=l[i]:=by
       intro f;rw[zI hi]at d;exact d (by rw[<- f,c])
      simp[Go.Lib.keeps,b,hi,this]
  exact e i hi
theorem Iu (l:List Int) (x:Int):x∈qL l<->x∈l:=by
 rw[qL,XI,List.mem_mergeSort]
theorem Z9 (l:List Int):(Go.Lib.compact l).length<=l.length:=by
 unfold Go.Lib.compact Go.Lib.compactUpTo;rw[cL];exact cQ (kf _ _) af
theorem W2 (l:List Int):(qL l).length<=l.length:=by
 have:=Z9 (l.mergeSort fun x y=>decide (x<=y));rwa[sZ]at this
def aO (p:Prog):Bool:=decide ((dh p).1=0)
theorem wV (p:Prog) (b:p.sane):Den Γ G 38 [(zP p)]=some (vb (aO p)):=by
 refine aD (q:=?_)
 have a:=tw p b;refine ar a ?_;rfl
theorem J0 (p:Prog) (b:p.sane):Den Γ G 39 [(zP p)]=some (vb (aO p)):=by
 refine aD (q:=?_)
 have a:=wG p b;refine ar a ?_;rfl
theorem qJ {α β:Type} {l:List α} {m:List β} {i:Nat} {a:α} {b:β} (c:l[i]? =some a) (d:m[i]? =some b):(l.zip m)[i]? =some (a,b):=by
 rw[ow];exact⟨c,d⟩
def iF (q:Int×Cell):Bool:=decide (0<=q.1)&&decide (q.1<2^q.2.w.toNat)
def hW (q:Int×Thread):Bool:=decide (-1<=q.1)&&decide (q.1<q.2.points)&& !(decide (q.1= -1)&& !q.2.asleep)
def jg (p:Prog) (b a:List Int):Bool:=
 decide (b.length=p.cells.length)&&decide (a.length=p.threads.length)&&(b.zip p.cells).all iF&&(a.zip p.threads).all hW
def isM (p:Prog) (c:Config):Bool:=jg p c.mem c.at_&&decide (c.buf.length=p.threads.length)&&c.buf.all List.isEmpty
theorem cP {p:Prog} (h:aO p=true):(cI p).1=0/\dT p=0/\fl p=0/\fD p=0/\eQ p 0 p.threads=(0,-1,-1):=by
 rw[aO,aR,dh]at h
 have e: ∀(l:List Thread) (i:Nat),(eQ p i l).1=0->eQ p i l=(0,-1,-1):=by
  intro l
  induction l with
  | nil=>intro i _;rfl
  | cons x r f=>
    intro i h;rw[eQ]at h⊢;split at h
    ·rename_i a;rw[ah a];exact f _ h
    ·rename_i a;exact absurd h a
 split at h
 ·rename_i a;exact absurd h a
 ·rename_i a;split at h
  ·rename_i b;exact absurd h b
  ·rename_i b;split at h
   ·rename_i c;exact absurd h c
   ·rename_i c;split at h
    ·rename_i d;exact absurd h d
    ·rename_i d;exact⟨ak a,ak b,ak c,ak d,e _ _ h⟩
theorem qf {p:Prog} (h:aO p=true) {x:Cell} (a:x∈p.cells):1<=x.w/\x.w<=8/\0<=x.init/\x.init<2^x.w.toNat:=by
 have:=xc (H_ (cP h).2.1 x a);exact⟨this.2.1,this.2.2.1,this.2.2.2.1,this.2.2.2.2.1⟩
theorem YB (p:Prog) (t:aO p=true) (b a:List Int) (D:b.length<2^48) (E:a.length<2^48):Den Γ G 46 [(.agg [.t (.sl ((p).cells.map (Cell.enc))),.t (.sl ((p).modules.map (Contract.enc))),.t (.sl ((p).locks.map (Lock.enc))),.t (.sl ((p).threads.map (Thread.enc)))]),.t (ints b),.t (ints a)]=some (vb (jg p b a)):=by
 refine aD (q:=ax ?_)
 by_cases w:(b.length:Int)=p.cells.length/\(a.length:Int)=p.threads.length
 ·obtain⟨z,A⟩:=w;have q:decide (¬(b.length:Int)=p.cells.length)=false:=by simp[z]
  have r:decide (¬(a.length:Int)=p.threads.length)=false:=by simp[A]
  have j:jg p b a=((b.zip p.cells).all iF&&(a.zip p.threads).all hW):=by
   have n:b.length=p.cells.length:=aa
   have o:a.length=p.threads.length:=aa
   simp[jg,n,o]
  have B:(b.zip p.cells).length=b.length:=by rw[ke];omega
  have C:(a.zip p.threads).length=a.length:=by rw[ke];omega
  refine aG q r ?_;refine ba 281474968322240 b.length (fun i f=>(f 7).v=vi i/\(b.zip p.cells).all iF=((b.zip p.cells).drop i).all iF) rfl rfl ⟨am,rfl⟩ ?_;rintro i f u y bb hi ⟨k,d⟩;have m:=aC i aa;refine ar k ?_;refine aQ k ?_ ?_<;>intro h
  ·obtain⟨v,e,_⟩:=aw ‹i<b.length›;obtain⟨x,g,s⟩:=aw (show i<p.cells.length from aa);obtain⟨F,H,_⟩:=qf t s;have hp:=o_ x.w aa;have c:=qJ e g;refine aY k e g ?_
   repeat'(refine mI k e g hp ?_ ?_<;>intro h)
   all_goals first
    | (rw[j,d,d8 c (by simp only[iF,lj,ek];omega)];simp;done)
    | (refine⟨aa,al m,?_⟩
       rw[d,d9 c (by simp only[iF,zF,aR];omega)])
  ·have:i=b.length:=aa
   subst this;have c:=ed iF (b.zip p.cells);rw[B]at c;rw[c]at d;rw[d,ep]at j;clear d k m;refine ba 309485009821063593748070720 a.length (fun i f=>(f 8).v=vi i/\(a.zip p.threads).all hW=((a.zip p.threads).drop i).all hW) rfl rfl ⟨am,rfl⟩ ?_;rintro i f u y bb hi ⟨l,d⟩;have m:=aC i aa;refine ar l ?_;refine aQ l ?_ ?_<;>intro h
   ·obtain⟨v,e,_⟩:=aw ‹i<a.length›;obtain⟨x,g,s⟩:=aw (show i<p.threads.length from aa);have c:=qJ e g;refine aY l e g ?_
    repeat'(refine qS l e g ?_ ?_<;>intro h)
    all_goals first
     | (rw[j,d,d8 c (by simp only[hW];simp[*];try omega)];done)
     | (refine⟨aa,al m,?_⟩
        rw[d,d9 c (by simp only[hW];simp[*];try omega)])
   ·have:i=a.length:=aa
    subst this;have c:=ed hW (a.zip p.threads);rw[C]at c;rw[j,d,c]
 ·have j:jg p b a=false:=by
   by_cases n:b.length=p.cells.length
   ·have o: ¬a.length=p.threads.length:=aa
    simp[jg,o]
   ·simp[jg,n]
  rw[j]
  repeat'(refine gH ?_ ?_<;>intro h<;>try exact⟨⟩)
  all_goals(exfalso;omega)
def rV (a:Assign):Bool:=decide ((a.to.size:Int)<=30)
def l0 (s:Step):Bool:=decide ((s.guard.size:Int)<=30)&&decide ((s.set.length:Int)<=8)&&s.set.all rV
def m_ (l:Loop):Bool:=decide ((l.variant.size:Int)<=30)&&decide ((l.body.length:Int)<=48)
def g7 (e:Expr):Bool:=decide ((e.size:Int)<=60)
def j0 (x:Thread):Bool:=x.steps.all l0&&x.asserts.all g7&&x.loops.all m_
theorem kah (x:Thread) (K:x.steps.length<2^40) (L:x.asserts.length<2^40) (M:x.loops.length<2^40):Den Γ G 36 [(zT x)]=some (vb (j0 x)):=by
 refine aD (q:=ax ?_);refine ba 36028797018963868 x.steps.length (fun i f=>(f 3).v=vi i/\x.steps.all l0=(x.steps.drop i).all l0) rfl rfl ⟨am,rfl⟩ ?_;rintro i f u A bb hi ⟨b,g⟩;have d:=aC i aa;refine ar b ?_;refine aQ b ?_ ?_<;>intro h
 ·obtain⟨s,m,I⟩:=aw ‹i<x.steps.length›;have p:=pc s.guard 30 aa;have j:l0 s=false->false=j0 x:=fun v=>by rw[j0,g,d8 m v];rfl
  refine aY b m p ?_;refine dz b m ?_ ?_<;>intro h
  ·exact j (by simp[l0];omega)
  ·have E:(s.guard.size:Int)<=30:=bC
   refine aQ b ?_ ?_<;>intro h
   ·exact j (by simp[l0];omega)
   ·have J:(s.set.length:Int)<=8:=aa
    refine ba 36028792723996692 s.set.length (fun k z=>(z 4).v=vi k/\s.set.all rV=(s.set.drop k).all rV) rfl rfl ⟨am,rfl⟩ ?_;rintro k z O F D N ⟨r,c⟩;have B:=aC k aa;refine aY b r m ?_;refine dz b r ?_ ?_<;>intro h
    ·obtain⟨a,w,H⟩:=aw ‹k<s.set.length›;have C:=pc a.to 30 aa;refine bG b r m w C ?_;refine dz b r ?_ ?_<;>intro h
     ·exact j (by rw[l0,c,d8 w (by simp[rV];omega)];simp)
     ·refine⟨aa,al B,?_⟩;rw[c,d9 w (by simp[rV];omega)]
    ·have:k=s.set.length:=aa
     subst this;rw[ed]at c;refine⟨aa,al d,?_⟩;rw[g,d9 m (by rw[l0,c];simp;omega)]
 ·have:i=x.steps.length:=aa
  subst this;rw[ed]at g;clear b d;refine ba 590259781561686687780 x.asserts.length (fun i f=>(f 5).v=vi i/\x.asserts.all g7=(x.asserts.drop i).all g7) rfl rfl ⟨am,rfl⟩ ?_;rintro i f u A bb hi ⟨n,c⟩;have d:=aC i aa;refine ar n ?_;refine aQ n ?_ ?_<;>intro h
  ·obtain⟨e,y,_⟩:=aw ‹i<x.asserts.length›;have p:=pc e 60 aa;refine aY n y p ?_;refine aQ n ?_ ?_<;>intro h
   ·rw[j0,g,c,d8 y (by simp[g7];omega)];rfl
   ·refine⟨aa,al d,?_⟩;rw[c,d9 y (by simp[g7];omega)]
  ·have:i=x.asserts.length:=aa
   subst this;rw[ed]at c;clear n d;refine ba 19807040038270274039680335940 x.loops.length (fun i f=>(f 6).v=vi i/\x.loops.all m_=(x.loops.drop i).all m_) rfl rfl ⟨am,rfl⟩ ?_;rintro i f u A bb hi ⟨o,q⟩;have d:=aC i aa;refine ar o ?_;refine aQ o ?_ ?_<;>intro h
   ·obtain⟨l,t,_⟩:=aw ‹i<x.loops.length›;have p:=pc l.variant 30 aa;have j:m_ l=false->false=j0 x:=fun v=>by rw[j0,g,c,q,d8 t v];rfl
    refine aY o t p ?_;refine dz o t ?_ ?_<;>intro h
    ·exact j (by simp[m_];omega)
    ·have E:(l.variant.size:Int)<=30:=bC
     refine aQ o ?_ ?_<;>intro h
     ·exact j (by simp[m_];omega)
     ·refine⟨aa,al d,?_⟩;rw[q,d9 t (by simp[m_];omega)]
   ·have:i=x.loops.length:=aa
    subst this;rw[ed]at q;rw[j0,g,c,q];rfl
def lU:Int->List Thread->Bool
 | _,[]=>true
 | n,x::r=>if n+x.steps.length>24\/(x.asserts.length:Int)>48\/(x.modules.length:Int)>48\/(x.loops.length:Int)>8\/j0 x=false then false else lU (n+x.steps.length) r
def lG (m:Contract):Bool:=g7 m.rely&&g7 m.guar&&decide ((m.frame.length:Int)<=32)
def iV (p:Prog):Bool:=
 decide ((p.cells.length:Int)<=32)&&decide ((p.threads.length:Int)<=4)&&decide ((p.modules.length:Int)<=6)&&decide ((p.locks.length:Int)<=4)&&
  lU 0 p.threads&&p.modules.all lG&&p.locks.all fun l=>g7 l.inv
theorem kaz (p:Prog) (I: ∀x∈p.threads,x.steps.length<2^50):Den Γ G 9 [(zP p)]=some (vb (iV p)):=by
 refine aD (q:=ax ?_)
 by_cases j:(p.cells.length:Int)<=32/\(p.threads.length:Int)<=4/\(p.modules.length:Int)<=6/\(p.locks.length:Int)<=4
 ·obtain⟨N,O,P,Q⟩:=j;have C: ¬(p.cells.length:Int)>32:=aa
  have D: ¬(p.threads.length:Int)>4:=aa
  have E: ¬(p.modules.length:Int)>6:=aa
  have F: ¬(p.locks.length:Int)>4:=aa
  have c:iV p=(lU 0 p.threads&&p.modules.all lG&&p.locks.all fun l=>g7 l.inv):=by simp[iV,N,O,P,Q]
  refine bw C D E F ?_;refine ba 4722366482868571471932 p.threads.length (fun i f=>(f 4).v=vi i/\ ∃n:Int,0<=n/\n<=24/\(f 3).v=vi n/\lU 0 p.threads=lU n (p.threads.drop i)) rfl rfl ⟨am,0,aa,aa,am,rfl⟩ ?_;rintro i f u v bb hi ⟨g,n,U,V,s,a⟩;have e:=aC i aa;refine ar g ?_;refine aQ g ?_ ?_<;>intro h
  ·obtain⟨x,t,y⟩:=aw ‹i<p.threads.length›;have R:=I x y;have A:IntKind.i64.wrap (n+(x.steps.length:Int))=n+x.steps.length:=bq aa;rw[je t,lU]at a;refine bw g s t A ?_
   by_cases w:n+x.steps.length>24\/(x.asserts.length:Int)>48\/(x.modules.length:Int)>48\/(x.loops.length:Int)>8
   ·rw[ah (by rcases w with h | h | h | h<;>simp[h])]at a;rw[c,a,ig,ig]
    repeat'(refine aQ g ?_ ?_<;>intro h<;>try exact⟨⟩)
    all_goals(exfalso;omega)
   ·have J: ¬n+(x.steps.length:Int)>24:=aa
    have K: ¬(x.asserts.length:Int)>48:=aa
    have L: ¬(x.modules.length:Int)>48:=aa
    have M: ¬(x.loops.length:Int)>8:=aa
    have B:=kah x aa aa aa;refine bG J K L M B ?_;refine aQ g ?_ ?_<;>intro h
    ·rw[ah (by simp[h])]at a;rw[c,a,ig,ig]
    ·rw[ac (by simp[h];omega)]at a;exact⟨aa,al e,n+x.steps.length,aa,aa,am,a⟩
  ·have:i=p.threads.length:=aa
   subst this;rw[rD,lU]at a;rw[a,ep]at c;clear g e s a;refine ba 162259276824490996908708365074500 p.modules.length (fun i f=>(f 6).v=vi i/\p.modules.all lG=(p.modules.drop i).all lG) rfl rfl ⟨am,rfl⟩ ?_;rintro i f u v bb hi ⟨d,b⟩;have e:=aC i aa;refine ar d ?_;refine aQ d ?_ ?_<;>intro h
   ·obtain⟨m,k,_⟩:=aw ‹i<p.modules.length›;have r:=pc m.rely 60 aa;have z:=pc m.guar 60 aa;have q:lG m=false->false=iV p:=fun H=>by rw[c,b,d8 k H];rfl
    refine aY d k r ?_;refine qS d k z ?_ ?_<;>intro h
    ·exact q (by simp[lG,g7];omega)
    ·have S:(m.rely.size:Int)<=60:=bC
     refine dz d k ?_ ?_<;>intro h
     ·exact q (by simp[lG,g7];omega)
     ·have T:(m.guar.size:Int)<=60:=bC
      refine aQ d ?_ ?_<;>intro h
      ·exact q (by simp[lG,g7];omega)
      ·refine⟨aa,al e,?_⟩;rw[b,d9 k (by simp[lG,g7];omega)]
   ·have:i=p.modules.length:=aa
    subst this;rw[ed]at b;rw[b,ep]at c;clear d e b;refine ba 5316749723862834278251836663111090308 p.locks.length (fun i f=>(f 7).v=vi i/\iV p=(p.locks.drop i).all fun l=>g7 l.inv) rfl rfl ⟨am,c⟩ ?_;rintro i f u v bb hi ⟨o,b⟩;have e:=aC i aa;refine ar o ?_;refine aQ o ?_ ?_<;>intro h
    ·obtain⟨l,j,_⟩:=aw ‹i<p.locks.length›;have r:=pc l.inv 60 aa;refine aY o j r ?_;refine aQ o ?_ ?_<;>intro h
     ·rw[b,d8 j (by simp[g7];omega)]
     ·refine⟨aa,al e,?_⟩;rw[b,d9 j (by simp[g7];omega)]
    ·have:i=p.locks.length:=aa
     subst this;rw[b,ed]
 ·have c:iV p=false:=by
   cases h:iV p
   ·rfl
   ·exfalso;simp only[iV,zF,aR]at h;omega
  rw[c]
  repeat'(refine gH ?_ ?_<;>intro h<;>try exact⟨⟩)
  all_goals(exfalso;omega)
structure Config.sane (c:Config):Prop where
 mem:c.mem.length<2^48
 at_:c.at_.length<2^48
 buf:c.buf.length<2^48
theorem Mr (p:Prog) (L:aO p=true) (c:Config) (K:c.sane):Den Γ G 43 [(.agg [.t (.sl ((p).cells.map (Cell.enc))),.t (.sl ((p).modules.map (Contract.enc))),.t (.sl ((p).locks.map (Lock.enc))),.t (.sl ((p).threads.map (Thread.enc)))]),(.agg [.t (ints (c).mem),.t (ints (c).at_),.t (.sl ((c).buf.map (fun b=>[.sl (b.map Entry.enc)])))])]=some (vb (isM p c)):=by
 refine aD (q:=?_)
 obtain⟨U,T,V⟩:=K;refine ax ?_
 by_cases M:(c.mem.length:Int)=p.cells.length/\(c.at_.length:Int)=p.threads.length/\(c.buf.length:Int)=p.threads.length
 ·obtain⟨O,P,Q⟩:=M;have z:decide (¬(c.mem.length:Int)=p.cells.length)=false:=by simp[O]
  have A:decide (¬(c.at_.length:Int)=p.threads.length)=false:=by simp[P]
  have B:decide (¬(c.buf.length:Int)=p.threads.length)=false:=by simp[Q]
  have m:isM p c=((c.mem.zip p.cells).all iF&&((c.at_.zip p.threads).all hW&&c.buf.all List.isEmpty)):=by
   have s:c.mem.length=p.cells.length:=aa
   have t:c.at_.length=p.threads.length:=aa
   have y:c.buf.length=p.threads.length:=aa
   simp[isM,jg,s,t,y,zW]
  have R:(c.mem.zip p.cells).length=c.mem.length:=by rw[ke];omega
  have S:(c.at_.zip p.threads).length=c.at_.length:=by rw[ke];omega
  refine aY z A B ?_;refine ba 144114913197949040 c.mem.length (fun i f=>(f 38).v=vi i/\(c.mem.zip p.cells).all iF=((c.mem.zip p.cells).drop i).all iF) rfl rfl ⟨am,rfl⟩ ?_;rintro i f u N bb hi ⟨n,j⟩;have q:=aC i aa;refine ar n ?_;refine aQ n ?_ ?_<;>intro h
  ·obtain⟨v,a,_⟩:=aw ‹i<c.mem.length›;obtain⟨x,d,C⟩:=aw (show i<p.cells.length from aa);obtain⟨Z,w2,_⟩:=qf L C;have I:=sg (w:=x.w) aa;have J: ¬x.w<0:=aa
   have g:=qJ a d;refine aY n a d ?_
   repeat'(refine kR n a d I J ?_ ?_<;>intro h)
   all_goals first
    | (rw[m,j,d8 g (by simp only[iF,lj,ek];omega)];simp;done)
    | (refine⟨aa,al q,?_⟩
       rw[j,d9 g (by simp only[iF,zF,aR];omega)])
  ·have:i=c.mem.length:=aa
   subst this;have g:=ed iF (c.mem.zip p.cells);rw[R]at g;rw[g]at j;rw[j,ep]at m;clear j n q;refine ba 158456325027375753682481054608 c.at_.length (fun i f=>(f 60).v=vi i/\((c.at_.zip p.threads).all hW&&c.buf.all List.isEmpty)=(((c.at_.zip p.threads).drop i).all hW&&(c.buf.drop i).all List.isEmpty)) rfl rfl ⟨am,rfl⟩ ?_;rintro i f u N bb hi ⟨k,j⟩;have q:=aC i aa;refine ar k ?_;refine aQ k ?_ ?_<;>intro h
   ·obtain⟨v,a,_⟩:=aw ‹i<c.at_.length›;obtain⟨x,d,C⟩:=aw (show i<p.threads.length from aa);obtain⟨b,l,_⟩:=aw (show i<c.buf.length from aa);have g:=qJ a d;cases o:hW (v,x)
    ·rw[m,j,d8 g o,ig];refine aY k a d ?_
     repeat'(refine mI k a d l ?_ ?_<;>intro h<;>try exact⟨⟩)
     all_goals(exfalso;simp only[hW,lj,ek,nf,zF,aR,eD]at o;simp_all;try omega)
    ·have F:=o;simp only[hW,zF,aR,eD,lj,ek,nf]at F;obtain⟨⟨W,X⟩,Y⟩:=F;have H: ¬v< -1:=aa
     have b2: ¬v>=x.points:=aa
     cases b with
     | nil=>
       refine cw k a d H b2 l ?_
       repeat'(refine mI k a d l ?_ ?_<;>intro h)
       all_goals first
        | (exfalso;simp_all;done)
        | (refine⟨aa,al q,?_⟩
           rw[j,d9 g o,d9 l rfl])
     | cons e r=>
       have D:(((e::r).length:Nat):Int)>0:=by show((r.length+1:Nat):Int)>0;omega
       rw[m,j,d8 l rfl,qW];refine dc k a d H b2 l D ?_
       repeat'(refine kR k a d l D ?_ ?_<;>intro h<;>try exact⟨⟩)
       all_goals(exfalso;simp_all;try omega)
   ·have:i=c.at_.length:=aa
    subst this;have g:=ed hW (c.at_.zip p.threads);rw[S]at g;have E:=ed List.isEmpty c.buf;rw[show c.buf.length=c.at_.length by omega]at E;rw[m,j,g,E];rfl
 ·have m:isM p c=false:=by
   by_cases s:c.mem.length=p.cells.length
   ·by_cases t:c.at_.length=p.threads.length
    ·have y: ¬c.buf.length=p.threads.length:=aa
     simp[isM,y]
    ·simp[isM,jg,t]
   ·simp[isM,jg,s]
  rw[m]
  repeat'(refine gH ?_ ?_<;>intro h<;>try exact⟨⟩)
  all_goals(exfalso;omega)
theorem tQ (l:List Int) (D:l.length<2^31) (j:ae) (d:Nat):
 ∃r h' o,DenR Γ G 32 [.t (ints l)] j d=some (r,h',o)/\ay h' o r 1 (ai l)/\d<=o/\(∀k,k<d->h' k=j k/\aK r k):=by
 refine bM (q:=ax ?_);refine aS 262136 l.length (fun i f h x=>(f 4).v=vi i/\ay h x (f 3).v 1 (ai (l.take i))/\d<=x/\(∀k,k<d->h k=j k/\aK (f 3).v k)) rfl ⟨am,.inl ⟨am,rfl⟩,av,fun k c=>⟨rfl,by simp -dsimp only[go_sem,seval];intro i n h;cases h⟩⟩ ?_;rintro i f u H x bs hi ⟨e,b,C,g⟩;have y:=aC i aa;refine ar e ?_;refine aQ e ?_ ?_<;>intro h
 ·obtain⟨a,q,_⟩:=aw ‹i<l.length›;have p:=b.valOf;have z:=b.r2;have A:=b.r3;refine bG e q p z A ?_;refine bX (b.upd aa _) aa (by rw[aB];simp;omega) aI rfl (eu _) ?_;intro v hp m w t;have B:=m.valOf;rw[show ai (l.take i)++[[V.t (ti a)]]=ai (l.take (i+1))from by rw[bc q,fw]]at m;refine aG B e ?_;refine⟨aa,al y,by simp -dsimp only[go_sem,seval];exact m.le aa,av,fun k c=>⟨?_,by simp -dsimp only[go_sem,seval];exact w k aa⟩⟩;refine ax ?_;rw[t k aa (g k c).2,aq,ac aa];exact(g k c).1
 ·have:i=l.length:=aa
  subst this;rw[bg]at b;have p:=b.valOf;have s:=b.resVal;simp only[Rg.resVal]at s;refine aG p s ?_;exact⟨by simp -dsimp only[go_sem,seval];exact b.le aa,av,fun k c=>by simp -dsimp only[go_sem,seval];exact g k c⟩
end Rg
end
