/- Part of the proof of laws of relyguardlaw36. No condition. -/
import Derived.Test.YtaiokglcgiemnaaGreatDoorGartAM
set_option linter.unusedSimpArgs false
set_option linter.unusedVariables false
set_option linter.defProp false
section
namespace Rg
open Go
theorem QK (p:Prog):IsF (.fa 100 [.sl (p.cells.map Cell.enc),.sl (p.modules.map Contract.enc),.sl (p.locks.map Lock.enc),.sl (p.threads.map Thread.enc)]) (br p (-1)):=
 kcJ (by simp[T.norm]) (fun n=>rq p n)
theorem WJ (p:Prog) (c:Int):e_ p (-1) c=br p (-1) c:=by simp[e_]
theorem Xm (p:Prog):lQ p true (-1)=br p (-1):=by funext c;simp[lQ,WJ]
theorem xS (p:Prog) (t:Int):lQ p true t=e_ p t:=by funext c;simp[lQ]
theorem yM (p:Prog) (t:Int):lQ p false t=br p t:=by funext c;simp[lQ]
theorem xm (p:Prog) (e:Expr) (pair:Bool):Den Γ G 99 [(zP p),(.agg [.t (ti (e).op),.t (ti (e).w),.t (ti (e).n),.t (.sl ((e).kids.map (Expr.enc)))]),vb pair,.t (.fa 100 [.sl (p.cells.map Cell.enc),.sl (p.modules.map Contract.enc),.sl (p.locks.map Lock.enc),.sl (p.threads.map Thread.enc)])]=some (vb (cH p e pair (-1))):=by
 rw[RN p e pair _ _ (QK p),cH,c_,Xm]
theorem Xd (p:Prog) (t:p.sane):Den Γ G 81 [(zP p)]=some (vi (ft p)):=by
 refine aD (q:=aA ?_);have L:=t.modules;refine aS 4611686018427385892 p.modules.length (fun i f h x=>(f 11).v=vi i/\h 2=some (.map (eL ((p.modules.take i).map Contract.name)))/\ft p=(aZ (g8 p) i (p.modules.drop i)).1) rfl ⟨am,by simp -dsimp only[go_sem,seval];rfl,rfl⟩ ?_;rintro i f u H x bs hi ⟨a,z,j⟩;have K:=aB i aa;refine aw a ?_;refine aR a ?_ ?_<;>intro h
 ·obtain⟨c,e,y⟩:=au ‹i<p.modules.length›;obtain⟨_,_,N⟩:=t.mname c y
  have b: ∀k:Int,k≠0->g8 p i c=k->ft p=k:=fun k I s=>by
   rw[j,g6 e (by rw[s];exact I)];exact s
  have J:=ub c.name;have A:=ub c.owner;refine a7 a e J ?_;refine dH a A ?_ ?_<;>intro h
  ·rw[b 1 aG (by simp[g8,h])]
  ·have o:eg c.name=true:=bD
   refine aR a ?_ ?_<;>intro h
   ·rw[b 1 aG (by simp[g8,h])]
   ·have q:eg c.owner=true:=bD
    have C:=fun n=>Ot 2 c.name ((p.modules.take i).map Contract.name) H n z
    have l:((p.modules.take i).map Contract.name).any (fun d=>d.toList==c.name.toList)=(p.modules.take i).any (fun d=>d.name.toList==c.name.toList):=by rw[rj];rfl
    refine bf (C _) ?_;rintro r h' M ⟨rfl,m⟩;rw[l]at m;refine aJ a l ?_;have B:=Xa c.rely;have F:=xm p c.rely true;have E:=xm p c.guar true;refine dH a B ?_ ?_<;>intro h
    ·rw[b 41 aG (by rw[g8,ac (by simp[o,q]),ah h])]
    ·have g:g8 p i c=if(!c.rely.absent&& !cH p c.rely true (-1)) || !cH p c.guar true (-1)then 60 else if !fW c.frame || !c.frame.all (br p (-1))then 1 else 0:=by
      rw[g8,ac (by simp[o,q]),ac (by simp[h])]
     have v:=m h;have D:=I2 c.frame aa;have w:=ru _ _ (QK p) c.frame aa
     repeat'(refine ld a F E D w ?_ ?_<;>intro h)
     all_goals first
      | (rw[b 60 aG (by rw[g];simp[*])];done)
      | (rw[b 1 aG (by rw[g];simp[*])];done)
      | (refine⟨aa,ak K,?_,?_⟩
         ·refine aw v ?_;rw[a_ e];simp
         ·rw[j,iJ e (by rw[g];simp[*])])
 ·have:i=p.modules.length:=aa
  subst this;rw[j,iR]
theorem K6 {p:Prog} {t c:Int} (h:br p t c=true):0<=c/\ ∃x,p.cells[c.toNat]? =some x/\x.thread=t:=by
 unfold br at h;simp only[zF,aQ]at h;refine⟨h.1,?_⟩;rcases a:p.cells[c.toNat]? with _ | x
 ·rw[a]at h;simp at h
 ·rw[a]at h;exact⟨x,rfl,al h.2⟩
theorem Zv (p:Prog) (I:p.sane):Den Γ G 82 [(zP p)]=some (vi (fI p)):=by
 refine aD (q:=aA ?_);have L:=I.locks;refine aS 9444732965739290419428 p.locks.length (fun i f h x=>(f 13).v=vi i/\h 2=some (.map (mc ((p.locks.take i).map Lock.cell)))/\fI p=(aZ (iv p) i (p.locks.drop i)).1) rfl ⟨am,by simp -dsimp only[go_sem,seval];rfl,rfl⟩ ?_;rintro i f u N x bs hi ⟨a,m,q⟩;have K:=aB i aa;refine aw a ?_;refine aR a ?_ ?_<;>intro h
 ·obtain⟨l,b,M⟩:=au ‹i<p.locks.length›
  have e: ∀k:Int,k≠0->iv p i l=k->fI p=k:=fun k H w=>by
   rw[q,g6 b (by rw[w];exact H)];exact w
  have B:=rq p l.cell;have F:=iH l.module p.modules.length;have J:=xm p l.inv false;have o:((p.locks.take i).map Lock.cell).any (fun d=>decide (d=l.cell))=(p.locks.take i).any (fun d=>decide (d.cell=l.cell)):=by rw[rj];rfl
  have j:=yG l.cell ((p.locks.take i).map Lock.cell);rw[o]at j;refine a7 a b B ?_;refine aR a ?_ ?_<;>intro h
  ·rw[e 1 aG (by simp[iv,h])]
  ·have A:br p (-1) l.cell=true:=bD
   obtain⟨t,y,n,_⟩:=K6 A;have s:=fo (g:=fun x=>decide (x.w=1)) n;have r:=fo (g:=Cell.ghost) n;refine bN a b t n ?_;refine mL a b t n ?_ ?_<;>intro h
   ·rw[e 1 aG (by rw[iv,ah (by rw[s];simp[h])])]
   ·have D:y.w=1:=bD
    refine bq (fun h=> ?_) (fun h=> ?_)<;>(try rw[h])<;>(try simp only[bh]at h)<;>(try simp -dsimp only[go_sem,seval,a,b,m,j,kf,gx,mh,zG,aU,aX])
    ·rw[e 1 aG (by rw[iv,ah (by rw[r];simp[h])])]
    ·have E:y.ghost=false:=bD
     have c:iv p i l=if !inR l.module p.modules.length then 1 else if(p.locks.take i).any (fun d=>decide (d.cell=l.cell))then 1 else if !cH p l.inv false (-1)then 60 else 0:=by
      rw[iv,A,s,r,D,E];simp
     cases z:(p.locks.take i).any (fun d=>decide (d.cell=l.cell))
     ·rw[z]at j o c;have C:=wT l.cell _ o;simp -dsimp only[go_sem,seval,a,b,m,j,kf,gx,mh,zG,aU,aX,F];refine ld a b m C J ?_ ?_<;>intro h
      ·rw[e 1 aG (by rw[c];simp[h])]
      ·have v:inR l.module p.modules.length=true:=bD
       refine aR a ?_ ?_<;>intro h
       ·rw[e 60 aG (by rw[c];simp[h,v])]
       ·refine⟨aa,ak K,?_,?_⟩
        ·refine aA ?_;rw[a_ b];simp
        ·rw[q,iJ b (by rw[c];simp[h,v])]
     ·rw[z]at j c;simp -dsimp only[go_sem,seval,a,b,m,j,kf,gx,mh,zG,aU,aX];rw[e 1 aG (by rw[c];simp)]
 ·have:i=p.locks.length:=aa
  subst this;rw[q,iR]
def xl (F:T) (P:Int->Bool) (D:Int->Prop):Prop:=T.norm F=F/\ ∃g a b,cG (.t F)=some (g,a,b)/\(∀(h:ae) (n:Int),(a++[vi n]++b).mapM (toT1 h)=some (a++[vi n]++b))/\
 (∀n:Int,(a++[vi n]++b).all V.tree=true)/\ ∀n:Int,D n->Den Γ G g (a++[vi n]++b)=some (vb (P n))
theorem IsF.on {F:T} {P:Int->Bool} (h:IsF F P):xl F P (fun _=>True):=by
 obtain⟨c,g,a,b,d,e,f,i⟩:=h;exact⟨c,g,a,b,d,e,f,fun n _=>i n⟩
theorem wu (set:List Assign) (F:T) (P:Int->Bool) (D:Int->Prop) (n:xl F P D) (l: ∀a∈set,D a.cell) (t:set.length<2^48):
 Den Γ G 162 [.t (.sl (set.map Assign.enc)),.t F]=some (vb (set.all fun a=>P a.cell)):=by
 refine aD (q:=?_)
 obtain⟨_,g,a,b,q,r,o,p⟩:=n;have m:=yv q;refine aA ?_;refine a8 523856 set.length (fun i f=>(f 9).v=vi i/\(set.all fun a=>P a.cell)=(set.drop i).all fun a=>P a.cell) rfl rfl ⟨am,rfl⟩ ?_;rintro i f u v bb hi ⟨c,d⟩;have s:=aB i aa;refine aw c ?_;refine aR c ?_ ?_<;>intro h
 ·obtain⟨x,e,j⟩:=au ‹i<set.length›;have k:=p x.cell (l x j);refine de c e m r o k ?_;refine aR c ?_ ?_<;>intro h
  ·rw[d,ed e h]
  ·refine⟨aa,ak s,?_⟩;rw[d,ee e h]
 ·have:i=set.length:=aa
  subst this;rw[d,ek]
theorem wq (s:Step) (F:T) (P:Int->Bool) (d:IsF F P) (n:s.set.length<2^48):
 Den Γ G 161 [(zS s),.t F]=some (vb (((s.guard.sup 3).all P&&(s.guard.sup 2).all P)&&s.set.all fun a=>(a.to.sup 3).all P&&(a.to.sup 2).all P)):=by
 refine aD (q:=?_)
 have e:=d.1;simp only[T.norm]at e;have k:=sb s.guard F P d;refine aJ k e ?_;refine gS ?_ ?_<;>intro h
 ·rw[h];simp
 ·rw[h,eA];refine a8 33521744 s.set.length (fun i f=>(f 15).v=vi i/\(s.set.all fun a=>(a.to.sup 3).all P&&(a.to.sup 2).all P)=(s.set.drop i).all fun a=>(a.to.sup 3).all P&&(a.to.sup 2).all P) rfl rfl ⟨am,rfl⟩ ?_;rintro i f u o bb hi ⟨b,c⟩;have l:=aB i aa;refine aw b ?_;refine aR b ?_ ?_<;>intro h
  ·obtain⟨x,g,m⟩:=au ‹i<s.set.length›;have j:=sb x.to F P d;refine bN b g j e ?_;refine aR b ?_ ?_<;>intro h
   ·rw[c,ed g h]
   ·refine⟨aa,ak l,?_⟩;rw[c,ee g h]
  ·have:i=s.set.length:=aa
   subst this;rw[c,ek]
theorem QQ (s:Step):Den Γ G 165 [(zS s)]=some (vb (s.guard.one&&decide (s.set=[]))):=by
 refine aD (q:=?_)
 have b:=kcp s.guard;refine aw b ?_;refine gS ?_ ?_<;>intro h
 ·rcases s.set with _ | ⟨a,r⟩
  ·simp
  ·simp;omega
 ·simp
theorem vr (p:Prog) (t:Int):IsF (.fn 146 [] [bA p,.ip [ti t]]) (br p t):=(U' p t).isF
theorem uY (p:Prog) (t:Int):IsF (.fn 134 [] [bA p,.ip [.fn 146 [] [bA p,.ip [ti t]]]]) (e_ p t):=(OQ p t).isF
theorem V5 (p:Prog) (t:Int) (s:Step) (b:s.set.length<2^48):Den Γ G 147 [(.agg [.t (.sl ((p).cells.map (Cell.enc))),.t (.sl ((p).modules.map (Contract.enc))),.t (.sl ((p).locks.map (Lock.enc))),.t (.sl ((p).threads.map (Thread.enc)))]),vi t,(.agg [.t (ti (s).kind),.t (ti (s).fr),.t (ti (s).to),.t (ti ((s).guard).op),.t (ti ((s).guard).w),.t (ti ((s).guard).n),.t (.sl (((s).guard).kids.map Expr.enc)),.t (.sl ((s).set.map Assign.enc)),.t (tb (s).release),.t (ti (s).target),.t (ti (s).module)])]=some (vb (fV p s false t&&s.set.all fun a=>br p t a.cell)):=by
 refine aD (q:=?_)
 have c:=uI p t
 have d:Den Γ G 161 [(zS s),.t (.fn 146 [] [bA p,.ip [ti t]])]=some (vb (fV p s false t)):=by
  rw[wq s _ _ (vr p t) b];simp only[fV,c_,yM]
 have e:=wu s.set _ _ _ (vr p t).on (fun _ _=>trivial) b;refine aJ c d ?_;refine aR e ?_ ?_<;>intro h<;>try exact⟨⟩
 ·simp
theorem VY (p:Prog) (t:Int) (s:Step) (b:s.set.length<2^48):Den Γ G 150 [(.agg [.t (.sl ((p).cells.map (Cell.enc))),.t (.sl ((p).modules.map (Contract.enc))),.t (.sl ((p).locks.map (Lock.enc))),.t (.sl ((p).threads.map (Thread.enc)))]),vi t,(.agg [.t (ti (s).kind),.t (ti (s).fr),.t (ti (s).to),.t (ti ((s).guard).op),.t (ti ((s).guard).w),.t (ti ((s).guard).n),.t (.sl (((s).guard).kids.map Expr.enc)),.t (.sl ((s).set.map Assign.enc)),.t (tb (s).release),.t (ti (s).target),.t (ti (s).module)])]=some (vb (fV p s true t&&s.set.all fun a=>e_ p t a.cell)):=by
 refine aD (q:=?_)
 have c:=wp p t
 have d:Den Γ G 161 [(zS s),.t (.fn 134 [] [bA p,.ip [.fn 146 [] [bA p,.ip [ti t]]]])]=some (vb (fV p s true t)):=by
  rw[wq s _ _ (uY p t) b];simp only[fV,c_,xS]
 have e:=wu s.set _ _ _ (uY p t).on (fun _ _=>trivial) b;refine aJ c d ?_;refine aR e ?_ ?_<;>intro h<;>try exact⟨⟩
 ·simp
theorem V6 (p:Prog) (t:Int) (s:Step):Den Γ G 151 [(.agg [.t (.sl ((p).cells.map (Cell.enc))),.t (.sl ((p).modules.map (Contract.enc))),.t (.sl ((p).locks.map (Lock.enc))),.t (.sl ((p).threads.map (Thread.enc)))]),vi t,(.agg [.t (ti (s).kind),.t (ti (s).fr),.t (ti (s).to),.t (ti ((s).guard).op),.t (ti ((s).guard).w),.t (ti ((s).guard).n),.t (.sl (((s).guard).kids.map Expr.enc)),.t (.sl ((s).set.map Assign.enc)),.t (tb (s).release),.t (ti (s).target),.t (ti (s).module)])]=some (vb (s.guard.one&&decide (s.set=[]))):=by
 refine aD (q:=?_)
 have a:=QQ s;exact ak a
theorem J6 (p:Prog) (t:Int) (s:Step):Den Γ G 153 [(.agg [.t (.sl ((p).cells.map (Cell.enc))),.t (.sl ((p).modules.map (Contract.enc))),.t (.sl ((p).locks.map (Lock.enc))),.t (.sl ((p).threads.map (Thread.enc)))]),vi t,(.agg [.t (ti (s).kind),.t (ti (s).fr),.t (ti (s).to),.t (ti ((s).guard).op),.t (ti ((s).guard).w),.t (ti ((s).guard).n),.t (.sl (((s).guard).kids.map Expr.enc)),.t (.sl ((s).set.map Assign.enc)),.t (tb (s).release),.t (ti (s).target),.t (ti (s).module)])]=some (vb (gh p t s)):=by
 refine aD (q:=?_)
 have a:=QQ s;have c:=iH s.target p.threads.length;refine aw a ?_;cases b:(s.guard.one&&decide (s.set=[]))
 ·rw[b]at a;refine aw a ?_;simp[gh,b]
 ·rw[b]at a;refine aw a ?_;refine aR c ?_ ?_<;>intro h
  ·simp[gh,b,h]
  ·simp[gh,b,h]
theorem V4 (p:Prog) (t:Int) (s:Step):Den Γ G 152 [(.agg [.t (.sl ((p).cells.map (Cell.enc))),.t (.sl ((p).modules.map (Contract.enc))),.t (.sl ((p).locks.map (Lock.enc))),.t (.sl ((p).threads.map (Thread.enc)))]),vi t,(.agg [.t (ti (s).kind),.t (ti (s).fr),.t (ti (s).to),.t (ti ((s).guard).op),.t (ti ((s).guard).w),.t (ti ((s).guard).n),.t (.sl (((s).guard).kids.map Expr.enc)),.t (.sl ((s).set.map Assign.enc)),.t (tb (s).release),.t (ti (s).target),.t (ti (s).module)])]=some (vb (gh p t s&&pO p s.target)):=by
 refine aD (q:=?_)
 have b:=J6 p t s;refine aw b ?_;cases a:gh p t s
 ·rw[a]at b;refine aA ?_;simp
 ·have c:inR s.target p.threads.length=true:=by
   simp only[gh,zF]at a;exact a.2
  simp only[inR,aQ]at c;obtain⟨e,f⟩:=c;obtain⟨y,d⟩: ∃y,p.threads[s.target.toNat]? =some y:=⟨_,zI aa⟩
  refine aJ e d ?_;simp[pO,d]
theorem Sx (p:Prog) (t:Int) (e:Expr):Den Γ G 108 [(.agg [.t (ti (e).op),.t (ti (e).w),.t (ti (e).n),.t (.sl ((e).kids.map (Expr.enc)))]),.t (.fn 146 [] [bA p,.ip [ti t]])]=some (vb (c_ p e false t)):=by
 rw[sb e _ _ (vr p t),c_,yM]
theorem Kj (r:List Assign):((r.map Assign.enc).all fun x=>decide (x.length=5))=true:=by
 simp[Assign.enc,Expr.enc_eq]
theorem Q7 (n:Nat):(((n+1:Nat):Int)-1).toNat=n:=aa
theorem Pf {α β:Type} (f:α->β) (r:List α):List.take r.length (r.map f)=r.map f:=c6 af
theorem XE (p:Prog) (t:Int) (s:Step) (u:s.set.length<2^48) (k:su p s):Den Γ G 148 [(.agg [.t (.sl ((p).cells.map (Cell.enc))),.t (.sl ((p).modules.map (Contract.enc))),.t (.sl ((p).locks.map (Lock.enc))),.t (.sl ((p).threads.map (Thread.enc)))]),vi t,(.agg [.t (ti (s).kind),.t (ti (s).fr),.t (ti (s).to),.t (ti ((s).guard).op),.t (ti ((s).guard).w),.t (ti ((s).guard).n),.t (.sl (((s).guard).kids.map Expr.enc)),.t (.sl ((s).set.map Assign.enc)),.t (tb (s).release),.t (ti (s).target),.t (ti (s).module)])]=some (vb (mG p t s)):=by
 refine aD (q:=?_)
 have q:=uI p t;have W:=Sx p t s.guard;rcases c:s.set with _ | ⟨a,r⟩
 ·refine aJ q c ?_;simp[mG,c]
 ·have H: ¬(((r.length+1:Nat):Int)=0):=aa
  have E:(1:Int)<=((r.length+1:Nat):Int):=aa
  have d:mG p t s=(c_ p s.guard false t&&br p t a.cell&& !cN p a.cell Cell.ghost&&decide (a.to.op=2)&&br p (-1) a.to.n&& !cN p a.to.n Cell.ghost&&
   r.all fun b=>br p t b.cell&&cN p b.cell Cell.ghost&&c_ p b.to false t):=by rw[mG,c]
  have l:a∈s.set:=by rw[c];simp
  obtain⟨P,x,v⟩:=ga (k.2 a l).1;have X:=tP p t a.cell;have K:=sF p a.cell x P v;have B:=fo (g:=Cell.ghost) v;have I:=rq p a.to.n;refine bN q c H W ?_;refine qZ c X @bA.eq_1 ?_ ?_<;>intro h
  ·rw[d,h];simp
  ·have S:c_ p s.guard false t=true:=bD
   refine dH K c ?_ ?_<;>intro h
   ·rw[d,h];simp
   ·have T:br p t a.cell=true:=bD
    refine aR c ?_ ?_<;>intro h
    ·rw[d,B,h];simp
    ·have U:x.ghost=false:=bD
     refine aR I ?_ ?_<;>intro h
     ·rw[d];simp[h]
     ·have n:a.to.op=2:=bD
      obtain⟨Q,y,w⟩:=ga (KB (k.2 a l).2 n);have M:=sF p a.to.n y Q w;have C:=fo (g:=Cell.ghost) w;refine aR M ?_ ?_<;>intro h
      ·rw[d,h];simp
      ·have V:br p (-1) a.to.n=true:=bD
       refine dH c E ?_ ?_<;>intro h
       ·rw[d,C,h];simp
       ·rw[B,C,S,T,U,V,h]at d;simp only[n,lE,lr,gv,eA]at d;have Z:=Kj r;have t2:=Q7 r.length;have t3:=Pf Assign.enc r;refine bN Z t2 t3 @iN ?_;refine a8 2475879930996807960121837632 r.length (fun j o=>(o 67).v=vi j/\mG p t s=(r.drop j).all fun b=>br p t b.cell&&cN p b.cell Cell.ghost&&c_ p b.to false t) rfl rfl ⟨am,d⟩ ?_;rintro j o u' Y O hj ⟨e,f⟩;have F:=aB j (by rw[c]at u;simp at u;omega);refine aw e ?_;refine aR e ?_ ?_<;>intro h
        ·obtain⟨b,i,L⟩:=au ‹j<r.length›;obtain⟨R,z,A⟩:=ga (k.2 b (by rw[c];simp[L])).1;have J:=tP p t b.cell;have N:=sF p b.cell z R A;have D:=fo (g:=Cell.ghost) A;have m:=Sx p t b.to;simp only[bA]at m;refine bN e i J @bA.eq_1 ?_
         repeat'(refine mL e N m @bA.eq_1 ?_ ?_<;>intro h)
         all_goals first
          | (rw[f,ed i (by rw[D];simp[*])];done)
          | (refine⟨aa,ak F,?_⟩
             rw[f,ee i (by rw[D];simp[*])])
        ·have:j=r.length:=aa
         subst this;rw[f,ek]
theorem kbL (p:Prog) (t:Int):xl (.fn 164 [] [bA p,.ip [.fn 134 [] [bA p,.ip [.fn 146 [] [bA p,.ip [ti t]]]]]]) (fun c=>cN p c Cell.ghost&&e_ p t c) (fun c=>inR c p.cells.length=true):=by
 have k:IsP 134 [bA p,.ip [.fn 146 [] [bA p,.ip [ti t]]]] (e_ p t):=OQ p t;have m: ∀x∈[bA p,.ip [.fn 134 [] [bA p,.ip [.fn 146 [] [bA p,.ip [ti t]]]]]],T.norm x=x:=by simp[bA,T.norm]
 refine⟨rfl,164,[],[bA p,.ip [.fn 134 [] [bA p,.ip [.fn 146 [] [bA p,.ip [ti t]]]]]].map V.t,rfl,fun l n=> ?_,fun n=> ?_,fun n f=> ?_⟩
 ·exact xL l (ti n::[bA p,.ip [.fn 134 [] [bA p,.ip [.fn 146 [] [bA p,.ip [ti t]]]]]]) (fun x a=>(cj.1 a).elim (fun e=>by rw[e];rfl) (m x))
 ·exact OT (ti n::[bA p,.ip [.fn 134 [] [bA p,.ip [.fn 146 [] [bA p,.ip [ti t]]]]]])
 ·obtain⟨j,x,a⟩:=ga f;have i:=sF p n x j a;have d:=fo (g:=Cell.ghost) a;have b:=k.2 n;simp only[aT,bc,bA,ff,jd]at b⊢
  refine aD (q:=aw i ?_);refine aR b ?_ ?_<;>intro h
  ·rw[d,h];simp
  ·rw[d,h];simp
theorem V3 (p:Prog) (t:Int) (s:Step) (F:s.set.length<2^48) (l:su p s):Den Γ G 149 [(.agg [.t (.sl ((p).cells.map (Cell.enc))),.t (.sl ((p).modules.map (Contract.enc))),.t (.sl ((p).locks.map (Lock.enc))),.t (.sl ((p).threads.map (Thread.enc)))]),vi t,(.agg [.t (ti (s).kind),.t (ti (s).fr),.t (ti (s).to),.t (ti ((s).guard).op),.t (ti ((s).guard).w),.t (ti ((s).guard).n),.t (.sl (((s).guard).kids.map Expr.enc)),.t (.sl ((s).set.map Assign.enc)),.t (tb (s).release),.t (ti (s).target),.t (ti (s).module)])]=some (vb (mE p t s)):=by
 refine aD (q:=?_)
 have k:=uI p t
 have H:Den Γ G 161 [(zS s),.t (.fn 146 [] [bA p,.ip [ti t]])]=some (vb (fV p s false t)):=by
  rw[wq s _ _ (vr p t) F];simp only[fV,c_,yM]
 by_cases e:s.set=[]
 ·refine aJ k e ?_;simp[mE,e]
 ·obtain⟨a,r,d⟩: ∃a r,s.set=a::r:=by
   rcases h:s.set with _ | ⟨a,r⟩
   ·exact absurd h e
   ·exact⟨a,r,rfl⟩
  have f:s.set.length=r.length+1:=by rw[d];rfl
  have j:s.set[0]? =some a:=by rw[d];rfl
  have z:List.drop 1 (s.set.map Assign.enc)=r.map Assign.enc:=by rw[d];rfl
  have q: ¬(((r.length+1:Nat):Int)=0):=aa
  have o:(1:Int)<=((r.length+1:Nat):Int):=aa
  have c:mE p t s=(fV p s false t&&br p (-1) a.cell&& !cN p a.cell Cell.ghost&&r.all fun b=>cN p b.cell Cell.ghost&&e_ p t b.cell):=by rw[mE,d]
  have v:a∈s.set:=by rw[d];simp
  obtain⟨B,x,m⟩:=ga (l.2 a v).1;have A:=sF p a.cell x B m;have n:=fo (g:=Cell.ghost) m;have u:=rq p a.cell;have y:=wp p t;have i:=wu r _ _ _ (kbL p t) (fun b E=>(l.2 b (by rw[d];simp[E])).1) aa;have I:=Kj s.set;have J:=Q7 r.length;have K:=Pf Assign.enc r;refine bT k f q H j ?_;refine dH j u ?_ ?_<;>intro h
  ·rw[c,h];simp
  ·have C:fV p s false t=true:=bD
   refine aR A ?_ ?_<;>intro h
   ·rw[c,h];simp
   ·have D:br p (-1) a.cell=true:=bD
    refine bq (fun h=> ?_) (fun h=> ?_)<;>(try rw[h])<;>(try simp only[bh]at h)<;>(try simp -dsimp only[go_sem,seval,y,f,z,I,J,K,o,iN,i])
    ·rw[c,n,h];simp
    ·rw[n,C,D,h]at c;simp only[lr,gv,eA]at c;rw[c];have w:T.ip [.sl (p.cells.map Cell.enc),.sl (p.modules.map Contract.enc),.sl (p.locks.map Lock.enc),.sl (p.threads.map Thread.enc)]=bA p:=rfl;exact bg w i
theorem ZY:Den Γ G 135 []=some (.agg [.t .nilf,.t (.fn 147 [] []),.t (.fn 148 [] []),.t (.fn 149 [] []),.t (.fn 150 [] []),.t (.fn 151 [] []),.t (.fn 152 [] []),.t (.fn 153 [] [])]):=by
 exact aD (q:=am)
set_option maxHeartbeats 4000000 in
theorem YR (p:Prog) (t:Int) (x:Thread) (K7: -2^48<x.points/\x.points<2^48) (s:Step) (E:s.set.length<2^48):
 Den Γ G 105 [(zP p),vi t,(zT x),(zS s)]=some (vi (cI p t x.points s)):=by
 refine aD (q:=?_)
 have Y:IntKind.i64.wrap (x.points-1)=x.points-1:=bu aa;have j:=iH s.fr (x.points-1);have J:=iH s.to x.points;have I:=iH s.module p.modules.length;have U:=ud s.guard p.cells false;simp -dsimp only[go_sem,seval]
 by_cases D:kO p x.points s=true
 ·rw[cI,ah D]
  repeat'(refine mL Y j J I ?_ ?_<;>intro h<;>try exact⟨⟩<;>try exact h.elim)
  all_goals(exfalso;simp only[kO,fg,zF,eI,aQ]at D;simp_all;try omega)
 ·have M:cI p t x.points s=if !s.guard.valid p.cells false||decide (s.guard.w≠1)then 60 else if ¬(aZ (c9 p s.set) 0 s.set).1=0 then(aZ (c9 p s.set) 0 s.set).1 else if db p t s then 0 else 70:=by rw[cI,ac D]
  have X:kO p x.points s=false:=al D
  simp only[kO,js,lA,ni,d8]at X;obtain⟨⟨⟨⟨⟨⟨b1,b2⟩,b3⟩,b4⟩,b5⟩,b6⟩,b7⟩:=X;rw[b3]at j;rw[b4]at J;rw[b5]at I
  have W: ∀Q:Prop,(∀(A m B r v:Bool),decide (s.kind=6)=m->decide (s.kind=7)=B->decide (s.kind=3)=A->s.release=r->decide (s.target=0)=v->
   ((m=true/\r=false)\/(m=false/\B=true/\r=false)\/(m=false/\B=false/\v=true/\r=false)\/(m=false/\B=false/\v=true/\r=true/\A=true))->Q)->Q:=fun Q q=>by
   refine q _ _ _ _ _ rfl rfl rfl rfl rfl ?_;simp only[aQ,d8]
   by_cases h6:s.kind=6<;>by_cases h7:s.kind=7<;>by_cases h3:s.kind=3<;>cases T:s.release<;>by_cases V:s.target=0<;>simp_all
  refine W _ (fun A m B r v R S P er ez n=> ?_);have l:s.guard.valid p.cells false=true->s.guard.w=1->cI p t x.points s=if ¬(aZ (c9 p s.set) 0 s.set).1=0 then(aZ (c9 p s.set) 0 s.set).1 else if db p t s then 0 else 70:=fun g1 g2=>by rw[M,ac (by simp[g1,g2])]
  have N:(s.guard.valid p.cells false=false\/ ¬s.guard.w=1)->cI p t x.points s=60:=fun g=>by rw[M,ah (by rcases g with g | g<;>simp[g])]
  have b1':1<=s.kind/\s.kind<=7:=aa
  have c:(decide ¬s.kind=3)= !A:=by rw[<- P];simp
  have e:(decide ¬s.target=0)= !v:=by rw[<- ez];simp
  rcases n with⟨rfl,rfl⟩ | ⟨rfl,rfl,rfl⟩ | ⟨rfl,rfl,rfl,rfl⟩ | ⟨rfl,rfl,rfl,rfl,rfl⟩
  all_goals(try cases v)
  all_goals(try cases A)
  all_goals(try(exfalso;simp only[aQ]at P R S;omega))
  all_goals(
   (try simp only[jq,lr]at c e)
   simp -dsimp only[go_sem,seval,Y,j,J,I,b1,b2,R,S,c,e,er,U]
   repeat'(refine aR U ?_ ?_<;>intro h<;>try exact⟨⟩<;>try exact h.elim))
  all_goals(try(rw[N (.inl ‹_›)];done))
  all_goals(try(rw[N (.inr ‹_›)];done))
  all_goals(
   have Z:s.guard.valid p.cells false=true:=bD
   have QA:s.guard.w=1:=bD
   have l:=l Z QA;clear W N M U j J I c e er P R;refine aS 2722258935367498036300439942420748071168 s.set.length (fun i f h y=>(f 83).v=vi i/\h 74=some (.map (mc ((s.set.take i).map Assign.cell)))/\aZ (c9 p s.set) 0 s.set=aZ (c9 p s.set) i (s.set.drop i)) rfl ⟨am,by simp -dsimp only[go_sem,seval];rfl,rfl⟩ ?_;rintro i f u hh y bs hi ⟨b,H,o⟩;have hw:=aB i aa;simp -dsimp only[go_sem,seval,b];refine aR b ?_ ?_<;>intro h<;>try exact⟨⟩<;>try exact h.elim
   ·obtain⟨a,C,Cp⟩:=au ‹i<s.set.length›;have j:=iH a.cell p.cells.length
    have F: ∀k:Int,k≠0->c9 p s.set i a=k->cI p t x.points s=k:=fun k hk h0=>by
     have h2:=o.trans (g6 C (by rw[h0];exact hk));rw[l,h2,h0,ah hk]
    have L:((s.set.take i).map Assign.cell).any (fun d=>decide (d=a.cell))=(s.set.take i).any (fun d=>decide (d.cell=a.cell)):=by rw[rj];rfl
    have w:=yG a.cell ((s.set.take i).map Assign.cell);rw[L]at w;cases n:(s.set.take i).any (fun d=>decide (d.cell=a.cell))
    ·rw[n]at w L;have Jj:=wT a.cell _ L;simp -dsimp only[go_sem,seval,b,C,H,w,kf,gx,mh,zG,aU,aX,j];cases O:inR a.cell p.cells.length
     ·simp -dsimp only[go_sem,seval,b];rw[F 70 aG (by simp[c9,O])]
     ·obtain⟨d0,z,V⟩:=ga O;have DT:=ud a.to p.cells false;have Id:=fo (g:=fun x=>decide (a.to.w=x.w)) V
      have K:c9 p s.set i a=if !a.to.valid p.cells false || !cN p a.cell (fun x=>decide (a.to.w=x.w))then 60 else 0:=by
       rw[c9,ac (by rw[O,n];simp)]
      rw[Id]at K;simp -dsimp only[go_sem,seval,b,H,Jj,d0,V];refine dH b DT ?_ ?_<;>intro h<;>try exact⟨⟩<;>try exact h.elim
      ·rw[F 60 aG (by rw[K];simp[h])]
      ·have Ke:a.to.w=z.w:=bD
       refine aR b ?_ ?_<;>intro h<;>try exact⟨⟩<;>try exact h.elim
       ·rw[F 60 aG (by rw[K];simp[h])]
       ·refine⟨aa,ak hw,?_,?_⟩
        ·simp -dsimp only[go_sem,seval];rw[a_ C];simp
        ·rw[o,iJ C (by rw[K];simp[h,Ke])]
    ·rw[n]at w;simp -dsimp only[go_sem,seval,b,C,H,w,kf,gx,mh,zG,aU,aX];rw[F 70 aG (by rw[c9,ah (by rw[n];simp)])]
   ·have:i=s.set.length:=aa
    subst this;rw[iR]at o;rw[o,ac af]at l;have T:su p s:=⟨Z,tF (i:=0) (set:=s.set) (by rw[o])⟩
    have AB:=ZY;have f1:=V5 p t s E;have f2:=XE p t s E T;have f3:=V3 p t s E T;have f4:=VY p t s E;have f5:=V6 p t s;have f6:=V4 p t s;have f7:=J6 p t s;have Dn:s.kind=1\/s.kind=2\/s.kind=3\/s.kind=4\/s.kind=5\/s.kind=6\/s.kind=7:=aa
    rw[l];clear l o H;rcases Dn with k | k | k | k | k | k | k
    all_goals(try(exfalso;simp only[d8]at S;omega))
    all_goals(
     simp only[k]at f1 f2 f3 f4 f5 f6 f7;simp -dsimp only[go_sem,seval,AB,k,f1,f2,f3,f4,f5,f6,f7];refine gS ?_ ?_<;>intro h<;>try exact⟨⟩<;>try exact h.elim
     all_goals(simp[db,k,h])))
theorem YP (p:Prog):IsF (.fn 103 [] [bA p]) (fun m=>inR m p.modules.length):=by
 refine IsP.isF ⟨by simp[bA,T.norm],fun n=> ?_⟩;simp only[aT,bc,bA]
 refine aD (q:=?_)
 have a:=iH n p.modules.length;exact ak a
def uE (x:Thread):T:=.ip [.str x.name,ti x.points,.sl (x.asserts.map Expr.enc),ints x.modules,.sl (x.steps.map Step.enc),.sl (x.loops.map Loop.enc),tb x.asleep]
def ve (l:Loop):T:=.ip [ti l.head,ints l.body,ti l.variant.op,ti l.variant.w,ti l.variant.n,.sl (l.variant.kids.map Expr.enc)]
theorem YO (x:Thread) (l:Loop):IsF (.fn 106 [] [uE x,ve l]) (fun q=>inR q x.points&&decide (q≠l.head)):=by
 refine IsP.isF ⟨by simp[uE,ve,T.norm],fun n=> ?_⟩;simp only[aT,bc,uE,ve]
 refine aD (q:=?_)
 have a:=iH n x.points;refine aw a ?_
 repeat'(refine gS ?_ ?_<;>intro h<;>try exact⟨⟩)
 all_goals(simp[*])
theorem kc1 (p:Prog) (t:Int) (e:Expr) (pair:Bool):Den Γ G 99 [(zP p),(.agg [.t (ti (e).op),.t (ti (e).w),.t (ti (e).n),.t (.sl ((e).kids.map (Expr.enc)))]),vb pair,.t (.fn 134 [] [bA p,.ip [.fn 146 [] [bA p,.ip [ti t]]]])]=some (vb (cH p e pair t)):=by
 rw[RN p e pair _ _ (uY p t),cH,c_,xS]
theorem kbd (p:Prog) (t:Int) (e:Expr):Den Γ G 108 [(.agg [.t (ti (e).op),.t (ti (e).w),.t (ti (e).n),.t (.sl ((e).kids.map (Expr.enc)))]),.t (.fn 134 [] [bA p,.ip [.fn 146 [] [bA p,.ip [ti t]]]])]=some (vb (c_ p e true t)):=by
 rw[sb e _ _ (uY p t),c_,xS]
def HT (p:Prog) (x:Thread) (n k:Nat) (es:List (T×V)) (h:ae) (y:Nat):Prop:=
 h (n+0)=some (.rows 4 [[.t (.sl (p.cells.map Cell.enc)),.t (.sl (p.modules.map Contract.enc)),.t (.sl (p.locks.map Lock.enc)),.t (.sl (p.threads.map Thread.enc))]] false)/\
 h (n+1)=some (.rows 7 [[.t (.str x.name),.t (ti x.points),.t (.sl (x.asserts.map Expr.enc)),.t (ints x.modules),.t (.sl (x.steps.map Step.enc)),.t (.sl (x.loops.map Loop.enc)),.t (tb x.asleep)]] false)/\
 h k=some (.map es)/\n+2<=y
set_option maxHeartbeats 4000000 in
theorem Xv (p:Prog) (Y:p.sane) (i:Nat) (x:Thread) (hx:p.threads[i]? =some x) (K7:x.points<2^48) (H:ae) (n k:Nat) (EK:k<n) (Bk:H k=some (.map (eL ((p.threads.take i).map Thread.name)))):
 ∃r h' L,DenR Γ G 83 [(zP p),vi i,(zT x),.mm k] H n=some (r,h',L)/\(n<=L/\r= .tup [vi (bI p i x).1,vi (bI p i x).2])/\((bI p i x).1=0->h' k=some (.map (eL ((p.threads.take (i+1)).map Thread.name)))):=by
 have P:=zL hx;obtain⟨s1,s2,s3,s4,s5⟩:=Y.thr x P;have hl:=ub x.name;have Qr: ¬k=n:=aa
 have Js:=yz EK;have Qq:=yQ EK;have Ct:=fun H' L Ri=>Mg k x.name ((p.threads.take i).map Thread.name) H' L Ri
 have Z:((p.threads.take i).map Thread.name).any (fun d=>d.toList==x.name.toList)=(p.threads.take i).any (fun d=>d.name.toList==x.name.toList):=by rw[rj];rfl
 refine bO (q:=?_)
 simp -dsimp only[go_sem,seval,hl];refine gS ?_ ?_<;>intro h<;>try exact⟨⟩<;>try exact h.elim
 ·have:bI p i x=(1,-1):=by rw[bI,ah (by simp[h])]
  rw[this];exact⟨⟨av,am⟩,fun g=>by simp at g⟩
 ·have T:eg x.name=true:=bD
  refine bf (Ct _ _ (bg Js Bk)) ?_;rintro r h' L ⟨⟨Jt,rfl⟩,es,A,R⟩;rw[Z]at R;have q1: ¬n+1=k:=aa
  have q2: ¬n+0=k:=aa
  have q3: ¬n+0=n+1:=aa
  have o:h' (n+0)=some (.rows 4 [[.t (.sl (p.cells.map Cell.enc)),.t (.sl (p.modules.map Contract.enc)),.t (.sl (p.locks.map Lock.enc)),.t (.sl (p.threads.map Thread.enc))]] false):=by
   rw[A];simp -dsimp only[go_sem,seval,q2,q3]
  have c:h' (n+1)=some (.rows 7 [[.t (.str x.name),.t (ti x.points),.t (.sl (x.asserts.map Expr.enc)),.t (ints x.modules),.t (.sl (x.steps.map Step.enc)),.t (.sl (x.loops.map Loop.enc)),.t (tb x.asleep)]] false):=by
   rw[A];simp -dsimp only[go_sem,seval,q1]
  have t:h' k=some (.map es):=by rw[A];simp -dsimp only[go_sem,seval]
  clear A;simp -dsimp only[go_sem,seval,Z];refine aR c ?_ ?_<;>intro h<;>try exact⟨⟩<;>try exact h.elim
  ·have:bI p i x=(41,-1):=by rw[bI,ac (by simp[T]),ah h]
   rw[this];exact⟨⟨av,am⟩,fun g=>by simp at g⟩
  ·have U:(p.threads.take i).any (fun d=>d.name.toList==x.name.toList)=false:=bD
   rw[R U,show(p.threads.take i).map Thread.name++[x.name]=(p.threads.take (i+1)).map Thread.name from by rw[a_ hx];simp]at t;clear R Ct Bk
   by_cases Fg:x.points<1\/ ¬(x.asserts.length:Int)=x.points\/ ¬(x.modules.length:Int)=x.points
   ·have:bI p i x=(1,-1):=by rw[bI,ac (by simp[T]),ac (by simp[U]),ah Fg]
    rw[this]
    repeat'(refine aR c ?_ ?_<;>intro h<;>try exact⟨⟩<;>try exact h.elim)
    all_goals first
     | (exfalso;omega)
     | exact⟨⟨av,am⟩,fun g=>by simp at g⟩
   ·have f1: ¬x.points<1:=aa
    have f2:(x.asserts.length:Int)=x.points:=aa
    have f3:(x.modules.length:Int)=x.points:=aa
    have v:bI p i x=if !x.modules.all (fun m=>inR m p.modules.length)then(1,-1)
     else if !x.asserts.all (fun e=>cH p e false i)then(60,-1)
     else if ¬(aZ (fun _ s=>cI p i x.points s) 0 x.steps).1=0 then aZ (fun _ s=>cI p i x.points s) 0 x.steps
     else((aZ (fun _ l=>dL p i x.points l) 0 x.loops).1,-1):=by
     rw[bI,ac (by simp[T]),ac (by simp[U]),ac Fg]
    have V:decide (¬(x.asserts.length:Int)=x.points)=false:=by simp[f2]
    have W:decide (¬(x.modules.length:Int)=x.points)=false:=by simp[f3]
    have C:=ru _ _ (YP p) x.modules aa;simp only[bA]at C;simp -dsimp only[go_sem,seval,f1,V,W,c,o,C];have IT:=wp p i;refine qZ o IT c ?_ ?_<;>intro h<;>try exact⟨⟩<;>try exact h.elim
    ·have:bI p i x=(1,-1):=by rw[v];simp[h]
     rw[this];exact⟨⟨av,am⟩,fun g=>by simp at g⟩
    ·rw[h]at v;simp only[jq,zG,aX]at v;clear C h;refine aS 147429837401600561920 x.asserts.length (fun j f h y=>(f 57).v=vi j/\HT p x n k (eL ((p.threads.take (i+1)).map Thread.name)) h y/\x.asserts.all (fun e=>cH p e false i)=(x.asserts.drop j).all (fun e=>cH p e false i)) rfl ⟨am,⟨o,c,t,av⟩,rfl⟩ ?_;clear o c t;rintro j f u hh y bs hj ⟨J,⟨o,c,t,gn⟩,F⟩;have B:=aB j aa;simp -dsimp only[go_sem,seval,J];refine aR J ?_ ?_<;>intro h<;>try exact⟨⟩<;>try exact h.elim
     ·obtain⟨e,A,_⟩:=au ‹j<x.asserts.length›;have hb:=kc1 p i e false;simp -dsimp only[go_sem,seval,J,A,o,hb];refine aR J ?_ ?_<;>intro h<;>try exact⟨⟩<;>try exact h.elim
      ·have:bI p i x=(60,-1):=by rw[v,F,ed A h];simp
       rw[this];exact⟨⟨av,am⟩,fun g=>by simp at g⟩
      ·refine⟨aa,ak B,⟨ak o,ak c,ak t,av⟩,?_⟩;rw[F,ee A h]
     ·have:j=x.asserts.length:=aa
      subst this;rw[ek]at F;rw[F]at v;simp only[jq,zG,aX]at v;clear F J B;simp -dsimp only[go_sem,seval,c];refine aS 38684445636047416179352320 x.steps.length (fun j f h y=>(f 70).v=vi j/\HT p x n k (eL ((p.threads.take (i+1)).map Thread.name)) h y/\aZ (fun _ s=>cI p i x.points s) 0 x.steps=aZ (fun _ s=>cI p i x.points s) j (x.steps.drop j)) rfl ⟨am,⟨ak o,ak c,ak t,av⟩,rfl⟩ ?_;clear o c t;rintro j f u hh y bs hj ⟨K,⟨o,c,t,gn⟩,w⟩;have B:=aB j aa;simp -dsimp only[go_sem,seval,K];refine aR K ?_ ?_<;>intro h<;>try exact⟨⟩<;>try exact h.elim
      ·obtain⟨s,Q,F3⟩:=au ‹j<x.steps.length›;have AE:=YR p i x ⟨aa,K7⟩ s (Y.sets x P s F3);simp -dsimp only[go_sem,seval,K,Q,o,c,AE];refine aR K ?_ ?_<;>intro h<;>try exact⟨⟩<;>try exact h.elim
       ·have X:=w.trans (g6 (f:=fun _ s=>cI p i x.points s) Q (al h));have:bI p i x=(cI p i x.points s,(j:Int)):=by rw[v,X,ah (al h)]
        rw[this];exact⟨⟨av,am⟩,fun g=>absurd g h⟩
       ·refine⟨aa,ak B,⟨ak o,ak c,ak t,av⟩,?_⟩;rw[w,iJ Q (al h)]
      ·have:j=x.steps.length:=aa
       subst this;rw[iR]at w;rw[w,ac af]at v;clear w K B;simp -dsimp only[go_sem,seval,c];refine aS 10633823965969841973409111413518369536 x.loops.length (fun j f h y=>(f 88).v=vi j/\HT p x n k (eL ((p.threads.take (i+1)).map Thread.name)) h y/\aZ (fun _ l=>dL p i x.points l) 0 x.loops=aZ (fun _ l=>dL p i x.points l) j (x.loops.drop j)) rfl ⟨am,⟨ak o,ak c,ak t,av⟩,rfl⟩ ?_;clear o c t;rintro j f u hh y bs hj ⟨z,⟨o,c,t,gn⟩,w⟩;have B:=aB j aa;simp -dsimp only[go_sem,seval,z];refine aR z ?_ ?_<;>intro h<;>try exact⟨⟩<;>try exact h.elim
       ·obtain⟨l,S,Hy⟩:=au ‹j<x.loops.length›;have D4:=Y.loops x P l Hy
        have I: ∀M:Int,M≠0->dL p i x.points l=M->bI p i x=(M,-1):=fun M Ah g=>by
         have X:=w.trans (g6 (f:=fun _ l=>dL p i x.points l) S (by rw[g];exact Ah));rw[v,X,g]
        have Aj:=iH l.head x.points;have Et:=I2 l.body aa;have C:=ru _ _ (YO x l) l.body aa;simp only[uE,ve]at C;have hv:=ud l.variant p.cells false;have De:=kbd p i l.variant;have D: ¬n=y+2:=aa
        have E: ∀a b:Nat,¬n+0=y+a+b:=by intros;omega
        have r3: ∀a b:Nat,¬k=y+a+b:=by intros;omega
        simp -dsimp only[go_sem,seval,z,S,o,c,D,E,Aj];refine vE z D E o c Et ?_ ?_<;>intro h<;>try exact⟨⟩<;>try exact h.elim
        ·rw[I 1 aG (by simp[dL,h])];exact⟨⟨av,am⟩,fun g=>by simp at g⟩
        ·have u1:inR l.head x.points=true:=bD
         refine vE z D E o c C ?_ ?_<;>intro h<;>try exact⟨⟩<;>try exact h.elim
         ·rw[I 1 aG (by simp[dL,h])];exact⟨⟨av,am⟩,fun g=>by simp at g⟩
         ·have u2:fW l.body=true:=bD
          refine vE z D E o c hv ?_ ?_<;>intro h<;>try exact⟨⟩<;>try exact h.elim
          ·rw[I 1 aG (by rw[dL,ah (by rw[h];simp)])];exact⟨⟨av,am⟩,fun g=>by simp at g⟩
          ·have u3:(l.body.all fun q=>inR q x.points&&decide (q≠l.head))=true:=bD
           have N:dL p i x.points l=if !l.variant.valid p.cells false || !c_ p l.variant true i then 60 else 0:=by
            rw[dL,ac (by rw[u1,u2,u3];simp)]
           refine vE z D E o c De ?_ ?_<;>intro h<;>try exact⟨⟩<;>try exact h.elim
           ·rw[I 60 aG (by rw[N];simp[h])];exact⟨⟨av,am⟩,fun g=>by simp at g⟩
           ·have u4:l.variant.valid p.cells false=true:=bD
            refine aR z ?_ ?_<;>intro h<;>try exact⟨⟩<;>try exact h.elim
            ·rw[I 60 aG (by rw[N];simp[h])];exact⟨⟨av,am⟩,fun g=>by simp at g⟩
            ·refine⟨aa,ak B,⟨bg o E,bg c D,bg t r3,av⟩,?_⟩;rw[w,iJ S (by rw[N];simp[h,u4])]
       ·have:j=x.loops.length:=aa
        subst this;rw[iR]at w;rw[v,w];exact⟨⟨av,am⟩,fun _=>ak t⟩
@[go_sem]theorem zCG (g:Nat) (c:List T) (K:Nat->List V->List V->Prop) (w:WK K):fnK (some (.t (.fa g c))) K w=K g [.agg (c.map V.t)] []:=rfl
theorem tD (p:Prog) (c:p.sane):Den Γ G 64 [(zP p)]=some (.tup [vi (dl p).1,vi (dl p).2.1,vi (dl p).2.2]):=by
 refine aD (q:=?_)
 have q:=Xo p c;refine aw q ?_;refine gS ?_ ?_<;>intro h
 ·have d: ¬(cM p).1=0:=al h
  have:dl p=((cM p).1,(cM p).2,-1):=by rw[dl,ah d]
  rw[this];simp
 ·have d:(cM p).1=0:=al h
  obtain⟨⟨E,F,H,I⟩,B⟩:=cS d
  have a:dl p=if ¬dX p=0 then(dX p,-1,-1)else if ¬ft p=0 then(ft p,-1,-1)else if ¬fI p=0 then(fI p,-1,-1)else eU p 0 p.threads:=by
   rw[dl,ac (al d)]
  have m:=XW p c;have n:=Xd p c;have o:=Zv p c;refine bK ?_;refine aw m ?_;refine gS ?_ ?_<;>intro h
  ·have:dl p=(dX p,-1,-1):=by rw[a,ah (al h)]
   rw[this];simp
  ·have s:dX p=0:=al h
   rw[ac (al s)]at a;refine bK ?_;refine aw n ?_;refine gS ?_ ?_<;>intro h
   ·have:dl p=(ft p,-1,-1):=by rw[a,ah (al h)]
    rw[this];simp
   ·have t:ft p=0:=al h
    rw[ac (al t)]at a;refine bK ?_;refine aw o ?_;refine gS ?_ ?_<;>intro h
    ·have:dl p=(fI p,-1,-1):=by rw[a,ah (al h)]
     rw[this];simp
    ·have v:fI p=0:=al h
     rw[ac (al v)]at a;refine bK ?_;refine aA ?_;refine aS 73786835557349912604 p.threads.length (fun i f h y=>(f 47).v=vi i/\56<y/\h 56=some (.map (eL ((p.threads.take i).map Thread.name)))/\dl p=eU p i (p.threads.drop i)) rfl ⟨am,am,by simp -dsimp only[go_sem,seval];rfl,a⟩ ?_;rintro i f u w y bs hi ⟨b,D,k,g⟩;have A:=aB i aa;refine aw b ?_;refine aR b ?_ ?_<;>intro h
     ·obtain⟨x,e,l⟩:=au ‹i<p.threads.length›;refine aJ b e ?_;refine bf (Xv p c i x e (by have:=(B x l).1;omega) w _ 56 aa k) ?_;rintro r h' J ⟨⟨C,rfl⟩,z⟩;refine aw b ?_;refine aR b ?_ ?_<;>intro h
      ·rw[g,Pd e (al h)];simp
      ·have j:=z (al h);refine⟨aa,ak A,av,ak j,?_⟩;rw[g,Pe e (al h)]
     ·have:i=p.threads.length:=aa
      subst this;rw[g,Sj];simp
theorem wm: ∀l:List Int,iw (ai l)=some l
 | []=>rfl
 | a::l=>by
   have:ai (a::l)=[.t (.int .i64 a)]::ai l:=rfl;rw[this,iw,wm l];rfl
theorem JR (l:List Int):bY l=ai l:=by simp[bY,ai]
def qR (l:List Int):List Int:=Go.Lib.compact (l.mergeSort fun x y=>decide (x<=y))
theorem X' (l:List Int) (x:Int):x∈Go.Lib.compact l<->x∈l:=by
 unfold Go.Lib.compact Go.Lib.compactUpTo;simp only[cy,f_,dS];constructor
 ·rintro⟨j,⟨g,_⟩,rfl⟩;simp[g]
 ·intro k;obtain⟨i,hi⟩:=eH k
  have e: ∀i:Nat,l[i]? =some x-> ∃a,(a<l.length/\Go.Lib.keeps l.toArray a=true)/\l.toArray[a]! =x:=by
   intro i
   induction i with
   | zero=>
     intro h;obtain⟨b,c⟩:=zH.1 h
     exact⟨0,⟨b,by simp[Go.Lib.keeps]⟩,by simp[b,c]⟩
   | succ i m=>
     intro h;obtain⟨b,c⟩:=zH.1 h
     by_cases d:l[i]? =some x
     ·exact m d
     ·refine⟨i+1,⟨b,?_⟩,by simp[b,c]⟩;have hi:i<l.length:=aa
      have : ¬l[i+1]=l[i]:=by
       intro f;rw[zI hi]at d;exact d (by rw[<- f,c])
      simp[Go.Lib.keeps,b,hi,this]
  exact e i hi
theorem Jz (l:List Int) (x:Int):x∈qR l<->x∈l:=by
 rw[qR,X',List.mem_mergeSort]
theorem kav (l:List Int):(Go.Lib.compact l).length<=l.length:=by
 unfold Go.Lib.compact Go.Lib.compactUpTo;rw[cP];exact cU (ku _ _) af
theorem Xx (l:List Int):(qR l).length<=l.length:=by
 have:=kav (l.mergeSort fun x y=>decide (x<=y));rwa[tc]at this
def aN (p:Prog):Bool:=decide ((dl p).1=0)
theorem wX (p:Prog) (b:p.sane):Den Γ G 38 [(zP p)]=some (vb (aN p)):=by
 refine aD (q:=?_)
 have a:=tD p b;refine aw a ?_;rfl
theorem K4 (p:Prog) (b:p.sane):Den Γ G 39 [(zP p)]=some (vb (aN p)):=by
 refine aD (q:=?_)
 have a:=wI p b;refine aw a ?_;rfl
theorem qP {α β:Type} {l:List α} {m:List β} {i:Nat} {a:α} {b:β} (c:l[i]? =some a) (d:m[i]? =some b):(l.zip m)[i]? =some (a,b):=by
 rw[oH];exact⟨c,d⟩
def iK (q:Int×Cell):Bool:=decide (0<=q.1)&&decide (q.1<2^q.2.w.toNat)
def ic (q:Int×Thread):Bool:=decide (-1<=q.1)&&decide (q.1<q.2.points)&& !(decide (q.1= -1)&& !q.2.asleep)
def jl (p:Prog) (b a:List Int):Bool:=
 decide (b.length=p.cells.length)&&decide (a.length=p.threads.length)&&(b.zip p.cells).all iK&&(a.zip p.threads).all ic
def isM (p:Prog) (c:Config):Bool:=jl p c.mem c.at_&&decide (c.buf.length=p.threads.length)&&c.buf.all List.isEmpty
theorem cT {p:Prog} (h:aN p=true):(cM p).1=0/\dX p=0/\ft p=0/\fI p=0/\eU p 0 p.threads=(0,-1,-1):=by
 rw[aN,aQ,dl]at h
 have e: ∀(l:List Thread) (i:Nat),(eU p i l).1=0->eU p i l=(0,-1,-1):=by
  intro l
  induction l with
  | nil=>intro i _;rfl
  | cons x r f=>
    intro i h;rw[eU]at h⊢;split at h
    ·rename_i a;rw[ah a];exact f _ h
    ·rename_i a;exact absurd h a
 split at h
 ·rename_i a;exact absurd h a
 ·rename_i a;split at h
  ·rename_i b;exact absurd h b
  ·rename_i b;split at h
   ·rename_i c;exact absurd h c
   ·rename_i c;split at h
    ·rename_i d;exact absurd h d
    ·rename_i d;exact⟨al a,al b,al c,al d,e _ _ h⟩
theorem qm {p:Prog} (h:aN p=true) {x:Cell} (a:x∈p.cells):1<=x.w/\x.w<=8/\0<=x.init/\x.init<2^x.w.toNat:=by
 have:=xe (Jr (cT h).2.1 x a);exact⟨this.2.1,this.2.2.1,this.2.2.2.1,this.2.2.2.2.1⟩
theorem Y4 (p:Prog) (t:aN p=true) (b a:List Int) (D:b.length<2^48) (E:a.length<2^48):Den Γ G 46 [(.agg [.t (.sl ((p).cells.map (Cell.enc))),.t (.sl ((p).modules.map (Contract.enc))),.t (.sl ((p).locks.map (Lock.enc))),.t (.sl ((p).threads.map (Thread.enc)))]),.t (ints b),.t (ints a)]=some (vb (jl p b a)):=by
 refine aD (q:=aA ?_)
 by_cases w:(b.length:Int)=p.cells.length/\(a.length:Int)=p.threads.length
 ·obtain⟨z,A⟩:=w;have q:decide (¬(b.length:Int)=p.cells.length)=false:=by simp[z]
  have r:decide (¬(a.length:Int)=p.threads.length)=false:=by simp[A]
  have j:jl p b a=((b.zip p.cells).all iK&&(a.zip p.threads).all ic):=by
   have n:b.length=p.cells.length:=aa
   have o:a.length=p.threads.length:=aa
   simp[jl,n,o]
  have B:(b.zip p.cells).length=b.length:=by rw[kj];omega
  have C:(a.zip p.threads).length=a.length:=by rw[kj];omega
  refine aJ q r ?_;refine a8 281474968322240 b.length (fun i f=>(f 7).v=vi i/\(b.zip p.cells).all iK=((b.zip p.cells).drop i).all iK) rfl rfl ⟨am,rfl⟩ ?_;rintro i f u y bb hi ⟨k,d⟩;have m:=aB i aa;refine aw k ?_;refine aR k ?_ ?_<;>intro h
  ·obtain⟨v,e,_⟩:=au ‹i<b.length›;obtain⟨x,g,s⟩:=au (show i<p.cells.length from aa);obtain⟨F,H,_⟩:=qm t s;have hp:=pe x.w aa;have c:=qP e g;refine a7 k e g ?_
   repeat'(refine mL k e g hp ?_ ?_<;>intro h)
   all_goals first
    | (rw[j,d,ed c (by simp only[iK,lA,d8];omega)];simp;done)
    | (refine⟨aa,ak m,?_⟩
       rw[d,ee c (by simp only[iK,zF,aQ];omega)])
  ·have:i=b.length:=aa
   subst this;have c:=ek iK (b.zip p.cells);rw[B]at c;rw[c]at d;rw[d,eA]at j;clear d k m;refine a8 309485009821063593748070720 a.length (fun i f=>(f 8).v=vi i/\(a.zip p.threads).all ic=((a.zip p.threads).drop i).all ic) rfl rfl ⟨am,rfl⟩ ?_;rintro i f u y bb hi ⟨l,d⟩;have m:=aB i aa;refine aw l ?_;refine aR l ?_ ?_<;>intro h
   ·obtain⟨v,e,_⟩:=au ‹i<a.length›;obtain⟨x,g,s⟩:=au (show i<p.threads.length from aa);have c:=qP e g;refine a7 l e g ?_
    repeat'(refine qZ l e g ?_ ?_<;>intro h)
    all_goals first
     | (rw[j,d,ed c (by simp only[ic];simp[*];try omega)];done)
     | (refine⟨aa,ak m,?_⟩
        rw[d,ee c (by simp only[ic];simp[*];try omega)])
   ·have:i=a.length:=aa
    subst this;have c:=ek ic (a.zip p.threads);rw[C]at c;rw[j,d,c]
 ·have j:jl p b a=false:=by
   by_cases n:b.length=p.cells.length
   ·have o: ¬a.length=p.threads.length:=aa
    simp[jl,o]
   ·simp[jl,n]
  rw[j]
  repeat'(refine gS ?_ ?_<;>intro h<;>try exact⟨⟩)
  all_goals(exfalso;omega)
def rZ (a:Assign):Bool:=decide ((a.to.size:Int)<=30)
def md (s:Step):Bool:=decide ((s.guard.size:Int)<=30)&&decide ((s.set.length:Int)<=8)&&s.set.all rZ
def ng (l:Loop):Bool:=decide ((l.variant.size:Int)<=30)&&decide ((l.body.length:Int)<=48)
def hJ (e:Expr):Bool:=decide ((e.size:Int)<=60)
def j7 (x:Thread):Bool:=x.steps.all md&&x.asserts.all hJ&&x.loops.all ng
theorem kaF (x:Thread) (K:x.steps.length<2^40) (L:x.asserts.length<2^40) (M:x.loops.length<2^40):Den Γ G 36 [(zT x)]=some (vb (j7 x)):=by
 refine aD (q:=aA ?_);refine a8 36028797018963868 x.steps.length (fun i f=>(f 3).v=vi i/\x.steps.all md=(x.steps.drop i).all md) rfl rfl ⟨am,rfl⟩ ?_;rintro i f u A bb hi ⟨b,g⟩;have d:=aB i aa;refine aw b ?_;refine aR b ?_ ?_<;>intro h
 ·obtain⟨s,m,I⟩:=au ‹i<x.steps.length›;have p:=ph s.guard 30 aa;have j:md s=false->false=j7 x:=fun v=>by rw[j7,g,ed m v];rfl
  refine a7 b m p ?_;refine dH b m ?_ ?_<;>intro h
  ·exact j (by simp[md];omega)
  ·have E:(s.guard.size:Int)<=30:=bD
   refine aR b ?_ ?_<;>intro h
   ·exact j (by simp[md];omega)
   ·have J:(s.set.length:Int)<=8:=aa
    refine a8 36028792723996692 s.set.length (fun k z=>(z 4).v=vi k/\s.set.all rZ=(s.set.drop k).all rZ) rfl rfl ⟨am,rfl⟩ ?_;rintro k z O F D N ⟨r,c⟩;have B:=aB k aa;refine a7 b r m ?_;refine dH b r ?_ ?_<;>intro h
    ·obtain⟨a,w,H⟩:=au ‹k<s.set.length›;have C:=ph a.to 30 aa;refine bT b r m w C ?_;refine dH b r ?_ ?_<;>intro h
     ·exact j (by rw[md,c,ed w (by simp[rZ];omega)];simp)
     ·refine⟨aa,ak B,?_⟩;rw[c,ee w (by simp[rZ];omega)]
    ·have:k=s.set.length:=aa
     subst this;rw[ek]at c;refine⟨aa,ak d,?_⟩;rw[g,ee m (by rw[md,c];simp;omega)]
 ·have:i=x.steps.length:=aa
  subst this;rw[ek]at g;clear b d;refine a8 590259781561686687780 x.asserts.length (fun i f=>(f 5).v=vi i/\x.asserts.all hJ=(x.asserts.drop i).all hJ) rfl rfl ⟨am,rfl⟩ ?_;rintro i f u A bb hi ⟨n,c⟩;have d:=aB i aa;refine aw n ?_;refine aR n ?_ ?_<;>intro h
  ·obtain⟨e,y,_⟩:=au ‹i<x.asserts.length›;have p:=ph e 60 aa;refine a7 n y p ?_;refine aR n ?_ ?_<;>intro h
   ·rw[j7,g,c,ed y (by simp[hJ];omega)];rfl
   ·refine⟨aa,ak d,?_⟩;rw[c,ee y (by simp[hJ];omega)]
  ·have:i=x.asserts.length:=aa
   subst this;rw[ek]at c;clear n d;refine a8 19807040038270274039680335940 x.loops.length (fun i f=>(f 6).v=vi i/\x.loops.all ng=(x.loops.drop i).all ng) rfl rfl ⟨am,rfl⟩ ?_;rintro i f u A bb hi ⟨o,q⟩;have d:=aB i aa;refine aw o ?_;refine aR o ?_ ?_<;>intro h
   ·obtain⟨l,t,_⟩:=au ‹i<x.loops.length›;have p:=ph l.variant 30 aa;have j:ng l=false->false=j7 x:=fun v=>by rw[j7,g,c,q,ed t v];rfl
    refine a7 o t p ?_;refine dH o t ?_ ?_<;>intro h
    ·exact j (by simp[ng];omega)
    ·have E:(l.variant.size:Int)<=30:=bD
     refine aR o ?_ ?_<;>intro h
     ·exact j (by simp[ng];omega)
     ·refine⟨aa,ak d,?_⟩;rw[q,ee t (by simp[ng];omega)]
   ·have:i=x.loops.length:=aa
    subst this;rw[ek]at q;rw[j7,g,c,q];rfl
def l0:Int->List Thread->Bool
 | _,[]=>true
 | n,x::r=>if n+x.steps.length>24\/(x.asserts.length:Int)>48\/(x.modules.length:Int)>48\/(x.loops.length:Int)>8\/j7 x=false then false else l0 (n+x.steps.length) r
def lM (m:Contract):Bool:=hJ m.rely&&hJ m.guar&&decide ((m.frame.length:Int)<=32)
def i8 (p:Prog):Bool:=
 decide ((p.cells.length:Int)<=32)&&decide ((p.threads.length:Int)<=4)&&decide ((p.modules.length:Int)<=6)&&decide ((p.locks.length:Int)<=4)&&
  l0 0 p.threads&&p.modules.all lM&&p.locks.all fun l=>hJ l.inv
theorem kaX (p:Prog) (I: ∀x∈p.threads,x.steps.length<2^50):Den Γ G 9 [(zP p)]=some (vb (i8 p)):=by
 refine aD (q:=aA ?_)
 by_cases j:(p.cells.length:Int)<=32/\(p.threads.length:Int)<=4/\(p.modules.length:Int)<=6/\(p.locks.length:Int)<=4
 ·obtain⟨N,O,P,Q⟩:=j;have C: ¬(p.cells.length:Int)>32:=aa
  have D: ¬(p.threads.length:Int)>4:=aa
  have E: ¬(p.modules.length:Int)>6:=aa
  have F: ¬(p.locks.length:Int)>4:=aa
  have c:i8 p=(l0 0 p.threads&&p.modules.all lM&&p.locks.all fun l=>hJ l.inv):=by simp[i8,N,O,P,Q]
  refine bN C D E F ?_;refine a8 4722366482868571471932 p.threads.length (fun i f=>(f 4).v=vi i/\ ∃n:Int,0<=n/\n<=24/\(f 3).v=vi n/\l0 0 p.threads=l0 n (p.threads.drop i)) rfl rfl ⟨am,0,aa,aa,am,rfl⟩ ?_;rintro i f u v bb hi ⟨g,n,U,V,s,a⟩;have e:=aB i aa;refine aw g ?_;refine aR g ?_ ?_<;>intro h
  ·obtain⟨x,t,y⟩:=au ‹i<p.threads.length›;have R:=I x y;have A:IntKind.i64.wrap (n+(x.steps.length:Int))=n+x.steps.length:=bu aa;rw[jj t,l0]at a;refine bN g s t A ?_
   by_cases w:n+x.steps.length>24\/(x.asserts.length:Int)>48\/(x.modules.length:Int)>48\/(x.loops.length:Int)>8
   ·rw[ah (by rcases w with h | h | h | h<;>simp[h])]at a;rw[c,a,ik,ik]
    repeat'(refine aR g ?_ ?_<;>intro h<;>try exact⟨⟩)
    all_goals(exfalso;omega)
   ·have J: ¬n+(x.steps.length:Int)>24:=aa
    have K: ¬(x.asserts.length:Int)>48:=aa
    have L: ¬(x.modules.length:Int)>48:=aa
    have M: ¬(x.loops.length:Int)>8:=aa
    have B:=kaF x aa aa aa;refine bT J K L M B ?_;refine aR g ?_ ?_<;>intro h
    ·rw[ah (by simp[h])]at a;rw[c,a,ik,ik]
    ·rw[ac (by simp[h];omega)]at a;exact⟨aa,ak e,n+x.steps.length,aa,aa,am,a⟩
  ·have:i=p.threads.length:=aa
   subst this;rw[rJ,l0]at a;rw[a,eA]at c;clear g e s a;refine a8 162259276824490996908708365074500 p.modules.length (fun i f=>(f 6).v=vi i/\p.modules.all lM=(p.modules.drop i).all lM) rfl rfl ⟨am,rfl⟩ ?_;rintro i f u v bb hi ⟨d,b⟩;have e:=aB i aa;refine aw d ?_;refine aR d ?_ ?_<;>intro h
   ·obtain⟨m,k,_⟩:=au ‹i<p.modules.length›;have r:=ph m.rely 60 aa;have z:=ph m.guar 60 aa;have q:lM m=false->false=i8 p:=fun H=>by rw[c,b,ed k H];rfl
    refine a7 d k r ?_;refine qZ d k z ?_ ?_<;>intro h
    ·exact q (by simp[lM,hJ];omega)
    ·have S:(m.rely.size:Int)<=60:=bD
     refine dH d k ?_ ?_<;>intro h
     ·exact q (by simp[lM,hJ];omega)
     ·have T:(m.guar.size:Int)<=60:=bD
      refine aR d ?_ ?_<;>intro h
      ·exact q (by simp[lM,hJ];omega)
      ·refine⟨aa,ak e,?_⟩;rw[b,ee k (by simp[lM,hJ];omega)]
   ·have:i=p.modules.length:=aa
    subst this;rw[ek]at b;rw[b,eA]at c;clear d e b;refine a8 5316749723862834278251836663111090308 p.locks.length (fun i f=>(f 7).v=vi i/\i8 p=(p.locks.drop i).all fun l=>hJ l.inv) rfl rfl ⟨am,c⟩ ?_;rintro i f u v bb hi ⟨o,b⟩;have e:=aB i aa;refine aw o ?_;refine aR o ?_ ?_<;>intro h
    ·obtain⟨l,j,_⟩:=au ‹i<p.locks.length›;have r:=ph l.inv 60 aa;refine a7 o j r ?_;refine aR o ?_ ?_<;>intro h
     ·rw[b,ed j (by simp[hJ];omega)]
     ·refine⟨aa,ak e,?_⟩;rw[b,ee j (by simp[hJ];omega)]
    ·have:i=p.locks.length:=aa
     subst this;rw[b,ek]
 ·have c:i8 p=false:=by
   cases h:i8 p
   ·rfl
   ·exfalso;simp only[i8,zF,aQ]at h;omega
  rw[c]
  repeat'(refine gS ?_ ?_<;>intro h<;>try exact⟨⟩)
  all_goals(exfalso;omega)
structure Config.sane (c:Config):Prop where
 mem:c.mem.length<2^48
 at_:c.at_.length<2^48
 buf:c.buf.length<2^48
theorem Nl (p:Prog) (L:aN p=true) (c:Config) (K:c.sane):Den Γ G 43 [(.agg [.t (.sl ((p).cells.map (Cell.enc))),.t (.sl ((p).modules.map (Contract.enc))),.t (.sl ((p).locks.map (Lock.enc))),.t (.sl ((p).threads.map (Thread.enc)))]),(.agg [.t (ints (c).mem),.t (ints (c).at_),.t (.sl ((c).buf.map (fun b=>[.sl (b.map Entry.enc)])))])]=some (vb (isM p c)):=by
 refine aD (q:=?_)
 obtain⟨U,T,V⟩:=K;refine aA ?_
 by_cases M:(c.mem.length:Int)=p.cells.length/\(c.at_.length:Int)=p.threads.length/\(c.buf.length:Int)=p.threads.length
 ·obtain⟨O,P,Q⟩:=M;have z:decide (¬(c.mem.length:Int)=p.cells.length)=false:=by simp[O]
  have A:decide (¬(c.at_.length:Int)=p.threads.length)=false:=by simp[P]
  have B:decide (¬(c.buf.length:Int)=p.threads.length)=false:=by simp[Q]
  have m:isM p c=((c.mem.zip p.cells).all iK&&((c.at_.zip p.threads).all ic&&c.buf.all List.isEmpty)):=by
   have s:c.mem.length=p.cells.length:=aa
   have t:c.at_.length=p.threads.length:=aa
   have y:c.buf.length=p.threads.length:=aa
   simp[isM,jl,s,t,y,AU]
  have R:(c.mem.zip p.cells).length=c.mem.length:=by rw[kj];omega
  have S:(c.at_.zip p.threads).length=c.at_.length:=by rw[kj];omega
  refine a7 z A B ?_;refine a8 144114913197949040 c.mem.length (fun i f=>(f 38).v=vi i/\(c.mem.zip p.cells).all iK=((c.mem.zip p.cells).drop i).all iK) rfl rfl ⟨am,rfl⟩ ?_;rintro i f u N bb hi ⟨n,j⟩;have q:=aB i aa;refine aw n ?_;refine aR n ?_ ?_<;>intro h
  ·obtain⟨v,a,_⟩:=au ‹i<c.mem.length›;obtain⟨x,d,C⟩:=au (show i<p.cells.length from aa);obtain⟨Z,w2,_⟩:=qm L C;have I:=so (w:=x.w) aa;have J: ¬x.w<0:=aa
   have g:=qP a d;refine a7 n a d ?_
   repeat'(refine ld n a d I J ?_ ?_<;>intro h)
   all_goals first
    | (rw[m,j,ed g (by simp only[iK,lA,d8];omega)];simp;done)
    | (refine⟨aa,ak q,?_⟩
       rw[j,ee g (by simp only[iK,zF,aQ];omega)])
  ·have:i=c.mem.length:=aa
   subst this;have g:=ek iK (c.mem.zip p.cells);rw[R]at g;rw[g]at j;rw[j,eA]at m;clear j n q;refine a8 158456325027375753682481054608 c.at_.length (fun i f=>(f 60).v=vi i/\((c.at_.zip p.threads).all ic&&c.buf.all List.isEmpty)=(((c.at_.zip p.threads).drop i).all ic&&(c.buf.drop i).all List.isEmpty)) rfl rfl ⟨am,rfl⟩ ?_;rintro i f u N bb hi ⟨k,j⟩;have q:=aB i aa;refine aw k ?_;refine aR k ?_ ?_<;>intro h
   ·obtain⟨v,a,_⟩:=au ‹i<c.at_.length›;obtain⟨x,d,C⟩:=au (show i<p.threads.length from aa);obtain⟨b,l,_⟩:=au (show i<c.buf.length from aa);have g:=qP a d;cases o:ic (v,x)
    ·rw[m,j,ed g o,ik];refine a7 k a d ?_
     repeat'(refine mL k a d l ?_ ?_<;>intro h<;>try exact⟨⟩)
     all_goals(exfalso;simp only[ic,lA,d8,ni,zF,aQ,eI]at o;simp_all;try omega)
    ·have F:=o;simp only[ic,zF,aQ,eI,lA,d8,ni]at F;obtain⟨⟨W,X⟩,Y⟩:=F;have H: ¬v< -1:=aa
     have b2: ¬v>=x.points:=aa
     cases b with
     | nil=>
       refine de k a d H b2 l ?_
       repeat'(refine mL k a d l ?_ ?_<;>intro h)
       all_goals first
        | (exfalso;simp_all;done)
        | (refine⟨aa,ak q,?_⟩
           rw[j,ee g o,ee l rfl])
     | cons e r=>
       have D:(((e::r).length:Nat):Int)>0:=by show((r.length+1:Nat):Int)>0;omega
       rw[m,j,ed l rfl,rg];refine dG k a d H b2 l D ?_
       repeat'(refine ld k a d l D ?_ ?_<;>intro h<;>try exact⟨⟩)
       all_goals(exfalso;simp_all;try omega)
   ·have:i=c.at_.length:=aa
    subst this;have g:=ek ic (c.at_.zip p.threads);rw[S]at g;have E:=ek List.isEmpty c.buf;rw[show c.buf.length=c.at_.length by omega]at E;rw[m,j,g,E];rfl
 ·have m:isM p c=false:=by
   by_cases s:c.mem.length=p.cells.length
   ·by_cases t:c.at_.length=p.threads.length
    ·have y: ¬c.buf.length=p.threads.length:=aa
     simp[isM,y]
    ·simp[isM,jl,t]
   ·simp[isM,jl,s]
  rw[m]
  repeat'(refine gS ?_ ?_<;>intro h<;>try exact⟨⟩)
  all_goals(exfalso;omega)
theorem tW (l:List Int) (D:l.length<2^31) (j:ae) (d:Nat):
 ∃r h' o,DenR Γ G 32 [.t (ints l)] j d=some (r,h',o)/\ax h' o r 1 (ai l)/\d<=o/\(∀k,k<d->h' k=j k/\aK r k):=by
 refine bO (q:=aA ?_);refine aS 262136 l.length (fun i f h x=>(f 4).v=vi i/\ax h x (f 3).v 1 (ai (l.take i))/\d<=x/\(∀k,k<d->h k=j k/\aK (f 3).v k)) rfl ⟨am,.inl ⟨am,rfl⟩,av,fun k c=>⟨rfl,by simp -dsimp only[go_sem,seval];intro i n h;cases h⟩⟩ ?_;rintro i f u H x bs hi ⟨e,b,C,g⟩;have y:=aB i aa;refine aw e ?_;refine aR e ?_ ?_<;>intro h
 ·obtain⟨a,q,_⟩:=au ‹i<l.length›;have p:=b.valOf;have z:=b.r2;have A:=b.r3;refine bT e q p z A ?_;refine ce (b.upd aa _) aa (by rw[aC];simp;omega) aG rfl (eC _) ?_;intro v hp m w t;have B:=m.valOf;rw[show ai (l.take i)++[[V.t (ti a)]]=ai (l.take (i+1))from by rw[a_ q,fB]]at m;refine aJ B e ?_;refine⟨aa,ak y,by simp -dsimp only[go_sem,seval];exact m.le aa,av,fun k c=>⟨?_,by simp -dsimp only[go_sem,seval];exact w k aa⟩⟩;refine aA ?_;rw[t k aa (g k c).2,aq,ac aa];exact(g k c).1
 ·have:i=l.length:=aa
  subst this;rw[be]at b;have p:=b.valOf;have s:=b.resVal;simp only[Rg.resVal]at s;refine aJ p s ?_;exact⟨by simp -dsimp only[go_sem,seval];exact b.le aa,av,fun k c=>by simp -dsimp only[go_sem,seval];exact g k c⟩
end Rg
end
