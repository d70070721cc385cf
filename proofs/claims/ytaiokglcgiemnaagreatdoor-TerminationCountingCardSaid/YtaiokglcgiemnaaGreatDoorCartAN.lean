/- Part of the proof of laws of relyguardlaw36. No condition. -/
import Derived.Test.YtaiokglcgiemnaaGreatDoorCartAM
set_option linter.unusedSimpArgs false
set_option linter.unusedVariables false
section
namespace Rg
open Go
theorem zBv (p:Prog):IsF (.fa 100 [.sl (p.cells.map Cell.enc),.sl (p.modules.map Contract.enc),.sl (p.locks.map Lock.enc),.sl (p.threads.map Thread.enc)]) (zxb p (-1)):=
 zpK (by simp[T.norm]) (fun n=>zbP p n)
theorem zh5 (p:Prog) (c:Int):zAq p (-1) c=zxb p (-1) c:=by simp[zAq]
theorem zie (p:Prog):zCt p true (-1)=zxb p (-1):=by funext c;simp[zCt,zh5]
theorem zeU (p:Prog) (t:Int):zCt p true t=zAq p t:=by funext c;simp[zCt]
theorem zgo (p:Prog) (t:Int):zCt p false t=zxb p t:=by funext c;simp[zCt]
theorem zfi (p:Prog) (e:Expr) (pair:Bool):Den Γ G 99 [(zP p),(.agg [.t (ti (e).op),.t (ti (e).w),.t (ti (e).n),.t (.sl ((e).kids.map (Expr.enc)))]),vb pair,.t (.fa 100 [.sl (p.cells.map Cell.enc),.sl (p.modules.map Contract.enc),.sl (p.locks.map Lock.enc),.sl (p.threads.map Thread.enc)])]=some (vb (zxl p e pair (-1))):=by
 rw[zjn p e pair _ _ (zBv p),zxl,zxI,zie]
theorem zhk (p:Prog) (hs:p.sane):Den Γ G 81 [(zP p)]=some (vi (zxB p)):=by
 (refine zw3 Γ81 rfl ?_;dsimp only[f81])
 simp -dsimp only[go_sem,seval];have Hc:=hs.modules;refine zap 4611686018427385892 p.modules.length (fun i f h x=>(f 11).v=vi i/\h 2=some (.map (zAp ((p.modules.take i).map Contract.name)))/\zxB p=(zx7 (zyK p) i (p.modules.drop i)).1) rfl ⟨by simp -dsimp only[go_sem,seval],by simp -dsimp only[go_sem,seval];rfl,rfl⟩ ?_;rintro i f u hh x bs hi ⟨Bf,Bg,hm⟩;have hw:=zag i (by omega);simp -dsimp only[go_sem,seval,Bf];refine zw1 (fun h=> ?_) (fun h=> ?_)<;>(try rw[h])<;>(try simp only[zab]at h)<;>(try simp -dsimp only[go_sem,seval,Bf])
 ·obtain⟨c,hc,B9⟩:=zad ‹i<p.modules.length›;obtain⟨_,_,s3⟩:=hs.mname c B9
  have Al: ∀k:Int,k≠0->zyK p i c=k->zxB p=k:=fun k hk h0=>by
   rw[hm,zyg hc (by rw[h0];exact hk)];exact h0
  have hl:=zc4 c.name;have Cz:=zc4 c.owner;simp -dsimp only[go_sem,seval,Bf,hc,hl];refine zw1 (fun h=> ?_) (fun h=> ?_)<;>(try rw[h])<;>(try simp only[zab]at h)<;>(try simp -dsimp only[go_sem,seval,Bf,Cz])
  ·rw[Al 1 (by decide) (by simp[zyK,h])]
  ·have e1:zxG c.name=true:=by assumption
   refine zw1 (fun h=> ?_) (fun h=> ?_)<;>(try rw[h])<;>(try simp only[zab]at h)<;>(try simp -dsimp only[go_sem,seval,Bf])
   ·rw[Al 1 (by decide) (by simp[zyK,h])]
   ·have e2:zxG c.owner=true:=by assumption
    have Bz:=fun n=>zgT 2 c.name ((p.modules.take i).map Contract.name) hh n Bg
    have A3:((p.modules.take i).map Contract.name).any (fun d=>d.toList==c.name.toList)=(p.modules.take i).any (fun d=>d.name.toList==c.name.toList):=by rw[List.any_map];rfl
    refine zas (Bz _) ?_;rintro r h' n' ⟨rfl,Ag⟩;rw[A3]at Ag;simp -dsimp only[go_sem,seval,Bf,A3];have DV:=ziG c.rely;have Gy:=zfi p c.rely true;have GJ:=zfi p c.guar true;refine zw1 (fun h=> ?_) (fun h=> ?_)<;>(try rw[h])<;>(try simp only[zab]at h)<;>(try simp -dsimp only[go_sem,seval,Bf,DV])
    ·rw[Al 41 (by decide) (by rw[zyK,if_neg (by simp[e1,e2]),if_pos h])]
    ·have ED:zyK p i c=if(!c.rely.absent&& !zxl p c.rely true (-1)) || !zxl p c.guar true (-1)then 60 else if !zyv c.frame || !c.frame.all (zxb p (-1))then 1 else 0:=by
      rw[zyK,if_neg (by simp[e1,e2]),if_neg (by simp[h])]
     have AX:=Ag h;have Dw:=zdd c.frame (by omega);have CJ:=zcb _ _ (zBv p) c.frame (by omega)
     repeat'(refine zw1 (fun h=> ?_) (fun h=> ?_)<;>(try rw[h])<;>(try simp only[zab]at h)<;>(try simp -dsimp only[go_sem,seval,Bf,Gy,GJ,Dw,CJ]))
     all_goals first
      | (rw[Al 60 (by decide) (by rw[ED];simp[*])];done)
      | (rw[Al 1 (by decide) (by rw[ED];simp[*])];done)
      | (refine⟨by omega,by simp -dsimp only[go_sem,seval,hw],?_,?_⟩
         ·simp -dsimp only[go_sem,seval,AX];rw[zac hc];simp
         ·rw[hm,zbj hc (by rw[ED];simp[*])])
 ·have:i=p.modules.length:=by omega
  subst this;rw[hm,zb3]
theorem zeS {p:Prog} {t c:Int} (h:zxb p t c=true):0<=c/\ ∃x,p.cells[c.toNat]? =some x/\x.thread=t:=by
 unfold zxb at h;simp only[zF,decide_eq_true_eq]at h;refine⟨h.1,?_⟩;rcases hx:p.cells[c.toNat]? with _ | x
 ·rw[hx]at h;simp at h
 ·rw[hx]at h;exact⟨x,rfl,by simpa using h.2⟩
theorem zjM (p:Prog) (hs:p.sane):Den Γ G 82 [(zP p)]=some (vi (zys p)):=by
 (refine zw3 Γ82 rfl ?_;dsimp only[f82])
 simp -dsimp only[go_sem,seval];have Hc:=hs.locks;refine zap 9444732965739290419428 p.locks.length (fun i f h x=>(f 13).v=vi i/\h 2=some (.map (zCu ((p.locks.take i).map Lock.cell)))/\zys p=(zx7 (zyq p) i (p.locks.drop i)).1) rfl ⟨by simp -dsimp only[go_sem,seval],by simp -dsimp only[go_sem,seval];rfl,rfl⟩ ?_;rintro i f u hh x bs hi ⟨Db,Bg,hm⟩;have hw:=zag i (by omega);simp -dsimp only[go_sem,seval,Db];refine zw1 (fun h=> ?_) (fun h=> ?_)<;>(try rw[h])<;>(try simp only[zab]at h)<;>(try simp -dsimp only[go_sem,seval,Db])
 ·obtain⟨l,hl,Ff⟩:=zad ‹i<p.locks.length›
  have Al: ∀k:Int,k≠0->zyq p i l=k->zys p=k:=fun k hk h0=>by
   rw[hm,zyg hl (by rw[h0];exact hk)];exact h0
  have Bj:=zbP p l.cell;have hb:=zaT l.module p.modules.length;have ht:=zfi p l.inv false;have A3:((p.locks.take i).map Lock.cell).any (fun d=>decide (d=l.cell))=(p.locks.take i).any (fun d=>decide (d.cell=l.cell)):=by rw[List.any_map];rfl
  have BJ:=zoB l.cell ((p.locks.take i).map Lock.cell);rw[A3]at BJ;simp -dsimp only[go_sem,seval,Db,hl,Bj];refine zw1 (fun h=> ?_) (fun h=> ?_)<;>(try rw[h])<;>(try simp only[zab]at h)<;>(try simp -dsimp only[go_sem,seval,Db])
  ·rw[Al 1 (by decide) (by simp[zyq,h])]
  ·have o1:zxb p (-1) l.cell=true:=by assumption
   obtain⟨d0,y,hy,_⟩:=zeS o1;have CZ:=zau (g:=fun x=>decide (x.w=1)) hy;have C2:=zau (g:=Cell.ghost) hy;simp -dsimp only[go_sem,seval,Db,hl,d0,hy];refine zw1 (fun h=> ?_) (fun h=> ?_)<;>(try rw[h])<;>(try simp only[zab]at h)<;>(try simp -dsimp only[go_sem,seval,Db,hl,d0,hy])
   ·rw[Al 1 (by decide) (by rw[zyq,if_pos (by rw[CZ];simp[h])])]
   ·have e1:y.w=1:=by assumption
    refine zw1 (fun h=> ?_) (fun h=> ?_)<;>(try rw[h])<;>(try simp only[zab]at h)<;>(try simp -dsimp only[go_sem,seval,Db,hl,Bg,BJ,Option.getD_none,Option.getD_some,Option.isSome_none,zG,if_true,if_false])
    ·rw[Al 1 (by decide) (by rw[zyq,if_pos (by rw[C2];simp[h])])]
    ·have e2:y.ghost=false:=by assumption
     have A4:zyq p i l=if !inR l.module p.modules.length then 1 else if(p.locks.take i).any (fun d=>decide (d.cell=l.cell))then 1 else if !zxl p l.inv false (-1)then 60 else 0:=by
      rw[zyq,o1,CZ,C2,e1,e2];simp
     cases ha:(p.locks.take i).any (fun d=>decide (d.cell=l.cell))
     ·rw[ha]at BJ A3 A4;have My:=zrO l.cell _ A3;simp -dsimp only[go_sem,seval,Db,hl,Bg,BJ,Option.getD_none,Option.getD_some,Option.isSome_none,zG,if_true,if_false,hb];refine zw1 (fun h=> ?_) (fun h=> ?_)<;>(try rw[h])<;>(try simp only[zab]at h)<;>(try simp -dsimp only[go_sem,seval,Db,hl,Bg,My,ht])
      ·rw[Al 1 (by decide) (by rw[A4];simp[h])]
      ·have e3:inR l.module p.modules.length=true:=by assumption
       refine zw1 (fun h=> ?_) (fun h=> ?_)<;>(try rw[h])<;>(try simp only[zab]at h)<;>(try simp -dsimp only[go_sem,seval,Db])
       ·rw[Al 60 (by decide) (by rw[A4];simp[h,e3])]
       ·refine⟨by omega,by simp -dsimp only[go_sem,seval,hw],?_,?_⟩
        ·simp -dsimp only[go_sem,seval];rw[zac hl];simp
        ·rw[hm,zbj hl (by rw[A4];simp[h,e3])]
     ·rw[ha]at BJ A4;simp -dsimp only[go_sem,seval,Db,hl,Bg,BJ,Option.getD_none,Option.getD_some,Option.isSome_none,zG,if_true,if_false];rw[Al 1 (by decide) (by rw[A4];simp)]
 ·have:i=p.locks.length:=by omega
  subst this;rw[hm,zb3]
end Rg
end
section
namespace Rg
open Go
def zsK (F:T) (P:Int->Bool) (D:Int->Prop):Prop:=T.norm F=F/\ ∃g a b,zze (.t F)=some (g,a,b)/\(∀(h:Nat->Option O) (n:Int),(a++[vi n]++b).mapM (toT1 h)=some (a++[vi n]++b))/\
 (∀n:Int,(a++[vi n]++b).all V.tree=true)/\ ∀n:Int,D n->Den Γ G g (a++[vi n]++b)=some (vb (P n))
theorem IsF.on {F:T} {P:Int->Bool} (h:IsF F P):zsK F P (fun _=>True):=by
 obtain⟨h1,g,a,b,h2,h3,h4,h5⟩:=h;exact⟨h1,g,a,b,h2,h3,h4,fun n _=>h5 n⟩
theorem zdl (set:List Assign) (F:T) (P:Int->Bool) (D:Int->Prop) (hP:zsK F P D) (hD: ∀a∈set,D a.cell) (hl:set.length<2^48):
 Den Γ G 162 [.t (.sl (set.map Assign.enc)),.t F]=some (vb (set.all fun a=>P a.cell)):=by
 (refine zw3 Γ162 rfl ?_;dsimp only[f162])
 obtain⟨_,g,a,b,hf,hm,ha,hd⟩:=hP;have hK:=zlu hf;simp -dsimp only[go_sem,seval];refine zaq 523856 set.length (fun i f=>(f 9).v=vi i/\(set.all fun a=>P a.cell)=(set.drop i).all fun a=>P a.cell) rfl rfl ⟨by simp -dsimp only[go_sem,seval],rfl⟩ ?_;rintro i f u kk bb hi ⟨h9,Aa⟩;have hw:=zag i (by omega);simp -dsimp only[go_sem,seval,h9];refine zw1 (fun h=> ?_) (fun h=> ?_)<;>(try rw[h])<;>(try simp only[zab]at h)<;>(try simp -dsimp only[go_sem,seval,h9])
 ·obtain⟨x,hx,Ct⟩:=zad ‹i<set.length›;have Pl:=hd x.cell (hD x Ct);simp -dsimp only[go_sem,seval,h9,hx,hK,hm,ha,Pl];refine zw1 (fun h=> ?_) (fun h=> ?_)<;>(try rw[h])<;>(try simp only[zab]at h)<;>(try simp -dsimp only[go_sem,seval,h9])
  ·rw[Aa,zaz hx h]
  ·refine⟨by omega,by simp -dsimp only[go_sem,seval,hw],?_⟩;rw[Aa,zaA hx h]
 ·have:i=set.length:=by omega
  subst this;rw[Aa,zaQ]
theorem zdk (s:Step) (F:T) (P:Int->Bool) (hP:IsF F P) (hl:s.set.length<2^48):
 Den Γ G 161 [(zS s),.t F]=some (vb (((s.guard.sup 3).all P&&(s.guard.sup 2).all P)&&s.set.all fun a=>(a.to.sup 3).all P&&(a.to.sup 2).all P)):=by
 (refine zw3 Γ161 rfl ?_;dsimp only[f161])
 have hn:=hP.1;simp only[T.norm]at hn;have hg:=zcF s.guard F P hP;simp -dsimp only[go_sem,seval,hg,hn];refine zw1 (fun h=> ?_) (fun h=> ?_)<;>(try rw[h])<;>(try simp only[zab]at h)<;>(try simp -dsimp only[go_sem,seval])
 ·rw[h];simp
 ·rw[h,Bool.true_and];refine zaq 33521744 s.set.length (fun i f=>(f 15).v=vi i/\(s.set.all fun a=>(a.to.sup 3).all P&&(a.to.sup 2).all P)=(s.set.drop i).all fun a=>(a.to.sup 3).all P&&(a.to.sup 2).all P) rfl rfl ⟨by simp -dsimp only[go_sem,seval],rfl⟩ ?_;rintro i f u kk bb hi ⟨BS,Aa⟩;have hw:=zag i (by omega);simp -dsimp only[go_sem,seval,BS];refine zw1 (fun h=> ?_) (fun h=> ?_)<;>(try rw[h])<;>(try simp only[zab]at h)<;>(try simp -dsimp only[go_sem,seval,BS])
  ·obtain⟨x,hx,Ct⟩:=zad ‹i<s.set.length›;have OK:=zcF x.to F P hP;simp -dsimp only[go_sem,seval,BS,hx,OK,hn];refine zw1 (fun h=> ?_) (fun h=> ?_)<;>(try rw[h])<;>(try simp only[zab]at h)<;>(try simp -dsimp only[go_sem,seval,BS])
   ·rw[Aa,zaz hx h]
   ·refine⟨by omega,by simp -dsimp only[go_sem,seval,hw],?_⟩;rw[Aa,zaA hx h]
  ·have:i=s.set.length:=by omega
   subst this;rw[Aa,zaQ]
theorem zjp (s:Step):Den Γ G 165 [(zS s)]=some (vb (s.guard.one&&decide (s.set=[]))):=by
 (refine zw3 Γ165 rfl ?_;dsimp only[f165])
 have h1:=zor s.guard;simp -dsimp only[go_sem,seval,h1];refine zw1 (fun h=> ?_) (fun h=> ?_)<;>(try rw[h])<;>(try simp only[zab]at h)<;>(try simp -dsimp only[go_sem,seval])
 ·rcases s.set with _ | ⟨a,r⟩
  ·simp
  ·simp;omega
 ·simp
theorem zDw (p:Prog) (t:Int):IsF (.fn 146 [] [zaN p,.ip [ti t]]) (zxb p t):=(zDC p t).isF
theorem zCv (p:Prog) (t:Int):IsF (.fn 134 [] [zaN p,.ip [.fn 146 [] [zaN p,.ip [ti t]]]]) (zAq p t):=(zAZ p t).isF
theorem zgw (p:Prog) (t:Int) (s:Step) (hl:s.set.length<2^48):Den Γ G 147 [(.agg [.t (.sl ((p).cells.map (Cell.enc))),.t (.sl ((p).modules.map (Contract.enc))),.t (.sl ((p).locks.map (Lock.enc))),.t (.sl ((p).threads.map (Thread.enc)))]),vi t,(.agg [.t (ti (s).kind),.t (ti (s).fr),.t (ti (s).to),.t (ti ((s).guard).op),.t (ti ((s).guard).w),.t (ti ((s).guard).n),.t (.sl (((s).guard).kids.map Expr.enc)),.t (.sl ((s).set.map Assign.enc)),.t (tb (s).release),.t (ti (s).target),.t (ti (s).module)])]=some (vb (zxF p s false t&&s.set.all fun a=>zxb p t a.cell)):=by
 (refine zw3 Γ147 rfl ?_;dsimp only[f147])
 have h1:=zgk p t
 have h2:Den Γ G 161 [(zS s),.t (.fn 146 [] [zaN p,.ip [ti t]])]=some (vb (zxF p s false t)):=by
  rw[zdk s _ _ (zDw p t) hl];simp only[zxF,zxI,zgo]
 have h3:=zdl s.set _ _ _ (zDw p t).on (fun _ _=>trivial) hl;simp -dsimp only[go_sem,seval,h1,h2];refine zw1 (fun h=> ?_) (fun h=> ?_)<;>(try rw[h])<;>(try simp only[zab]at h)<;>(try simp -dsimp only[go_sem,seval,h3])
 ·simp
theorem zfr (p:Prog) (t:Int) (s:Step) (hl:s.set.length<2^48):Den Γ G 150 [(.agg [.t (.sl ((p).cells.map (Cell.enc))),.t (.sl ((p).modules.map (Contract.enc))),.t (.sl ((p).locks.map (Lock.enc))),.t (.sl ((p).threads.map (Thread.enc)))]),vi t,(.agg [.t (ti (s).kind),.t (ti (s).fr),.t (ti (s).to),.t (ti ((s).guard).op),.t (ti ((s).guard).w),.t (ti ((s).guard).n),.t (.sl (((s).guard).kids.map Expr.enc)),.t (.sl ((s).set.map Assign.enc)),.t (tb (s).release),.t (ti (s).target),.t (ti (s).module)])]=some (vb (zxF p s true t&&s.set.all fun a=>zAq p t a.cell)):=by
 (refine zw3 Γ150 rfl ?_;dsimp only[f150])
 have h1:=zdj p t
 have h2:Den Γ G 161 [(zS s),.t (.fn 134 [] [zaN p,.ip [.fn 146 [] [zaN p,.ip [ti t]]]])]=some (vb (zxF p s true t)):=by
  rw[zdk s _ _ (zCv p t) hl];simp only[zxF,zxI,zeU]
 have h3:=zdl s.set _ _ _ (zCv p t).on (fun _ _=>trivial) hl;simp -dsimp only[go_sem,seval,h1,h2];refine zw1 (fun h=> ?_) (fun h=> ?_)<;>(try rw[h])<;>(try simp only[zab]at h)<;>(try simp -dsimp only[go_sem,seval,h3])
 ·simp
theorem zgx (p:Prog) (t:Int) (s:Step):Den Γ G 151 [(.agg [.t (.sl ((p).cells.map (Cell.enc))),.t (.sl ((p).modules.map (Contract.enc))),.t (.sl ((p).locks.map (Lock.enc))),.t (.sl ((p).threads.map (Thread.enc)))]),vi t,(.agg [.t (ti (s).kind),.t (ti (s).fr),.t (ti (s).to),.t (ti ((s).guard).op),.t (ti ((s).guard).w),.t (ti ((s).guard).n),.t (.sl (((s).guard).kids.map Expr.enc)),.t (.sl ((s).set.map Assign.enc)),.t (tb (s).release),.t (ti (s).target),.t (ti (s).module)])]=some (vb (s.guard.one&&decide (s.set=[]))):=by
 (refine zw3 Γ151 rfl ?_;dsimp only[f151])
 have h1:=zjp s;simp -dsimp only[go_sem,seval,h1]
theorem zei (p:Prog) (t:Int) (s:Step):Den Γ G 153 [(.agg [.t (.sl ((p).cells.map (Cell.enc))),.t (.sl ((p).modules.map (Contract.enc))),.t (.sl ((p).locks.map (Lock.enc))),.t (.sl ((p).threads.map (Thread.enc)))]),vi t,(.agg [.t (ti (s).kind),.t (ti (s).fr),.t (ti (s).to),.t (ti ((s).guard).op),.t (ti ((s).guard).w),.t (ti ((s).guard).n),.t (.sl (((s).guard).kids.map Expr.enc)),.t (.sl ((s).set.map Assign.enc)),.t (tb (s).release),.t (ti (s).target),.t (ti (s).module)])]=some (vb (zyz p t s)):=by
 (refine zw3 Γ153 rfl ?_;dsimp only[f153])
 have h1:=zjp s;have h2:=zaT s.target p.threads.length;simp -dsimp only[go_sem,seval,h1];cases hb:(s.guard.one&&decide (s.set=[]))
 ·rw[hb]at h1;simp -dsimp only[go_sem,seval,h1];simp[zyz,hb]
 ·rw[hb]at h1;simp -dsimp only[go_sem,seval,h1];refine zw1 (fun h=> ?_) (fun h=> ?_)<;>(try rw[h])<;>(try simp only[zab]at h)<;>(try simp -dsimp only[go_sem,seval,h2])
  ·simp[zyz,hb,h]
  ·simp[zyz,hb,h]
theorem zgv (p:Prog) (t:Int) (s:Step):Den Γ G 152 [(.agg [.t (.sl ((p).cells.map (Cell.enc))),.t (.sl ((p).modules.map (Contract.enc))),.t (.sl ((p).locks.map (Lock.enc))),.t (.sl ((p).threads.map (Thread.enc)))]),vi t,(.agg [.t (ti (s).kind),.t (ti (s).fr),.t (ti (s).to),.t (ti ((s).guard).op),.t (ti ((s).guard).w),.t (ti ((s).guard).n),.t (.sl (((s).guard).kids.map Expr.enc)),.t (.sl ((s).set.map Assign.enc)),.t (tb (s).release),.t (ti (s).target),.t (ti (s).module)])]=some (vb (zyz p t s&&zc8 p s.target)):=by
 (refine zw3 Γ152 rfl ?_;dsimp only[f152])
 have h1:=zei p t s;simp -dsimp only[go_sem,seval,h1];cases hb:zyz p t s
 ·rw[hb]at h1;simp -dsimp only[go_sem,seval];simp
 ·have hr:inR s.target p.threads.length=true:=by
   simp only[zyz,zF]at hb;exact hb.2
  simp only[inR,decide_eq_true_eq]at hr;obtain⟨t0,t1⟩:=hr;obtain⟨y,hy⟩: ∃y,p.threads[s.target.toNat]? =some y:=⟨_,zI (by omega)⟩
  simp -dsimp only[go_sem,seval,t0,hy];simp[zc8,hy]
theorem zkV (p:Prog) (t:Int) (e:Expr):Den Γ G 108 [(.agg [.t (ti (e).op),.t (ti (e).w),.t (ti (e).n),.t (.sl ((e).kids.map (Expr.enc)))]),.t (.fn 146 [] [zaN p,.ip [ti t]])]=some (vb (zxI p e false t)):=by
 rw[zcF e _ _ (zDw p t),zxI,zgo]
theorem zf6 (r:List Assign):((r.map Assign.enc).all fun x=>decide (x.length=5))=true:=by
 simp[Assign.enc,Expr.enc_eq]
theorem zi0 (n:Nat):(((n+1:Nat):Int)-1).toNat=n:=by omega
theorem ziL {α β:Type} (f:α->β) (r:List α):List.take r.length (r.map f)=r.map f:=List.take_of_length_le (by simp)
theorem zhs (p:Prog) (t:Int) (s:Step) (hl:s.set.length<2^48) (hr:zfk p s):Den Γ G 148 [(.agg [.t (.sl ((p).cells.map (Cell.enc))),.t (.sl ((p).modules.map (Contract.enc))),.t (.sl ((p).locks.map (Lock.enc))),.t (.sl ((p).threads.map (Thread.enc)))]),vi t,(.agg [.t (ti (s).kind),.t (ti (s).fr),.t (ti (s).to),.t (ti ((s).guard).op),.t (ti ((s).guard).w),.t (ti ((s).guard).n),.t (.sl (((s).guard).kids.map Expr.enc)),.t (.sl ((s).set.map Assign.enc)),.t (tb (s).release),.t (ti (s).target),.t (ti (s).module)])]=some (vb (zzE p t s)):=by
 (refine zw3 Γ148 rfl ?_;dsimp only[f148])
 have h1:=zgk p t;have hg:=zkV p t s.guard;rcases hs:s.set with _ | ⟨a,r⟩
 ·simp -dsimp only[go_sem,seval,h1,hs];simp[zzE,hs]
 ·have A8: ¬(((r.length+1:Nat):Int)=0):=by omega
  have A4:(1:Int)<=((r.length+1:Nat):Int):=by omega
  have hK:zzE p t s=(zxI p s.guard false t&&zxb p t a.cell&& !zaO p a.cell Cell.ghost&&decide (a.to.op=2)&&zxb p (-1) a.to.n&& !zaO p a.to.n Cell.ghost&&
   r.all fun b=>zxb p t b.cell&&zaO p b.cell Cell.ghost&&zxI p b.to false t):=by rw[zzE,hs]
  have Cj:a∈s.set:=by rw[hs];simp
  obtain⟨d0,x,hx⟩:=za5 (hr.2 a Cj).1;have ho:=zez p t a.cell;have KB:=zcL p a.cell x d0 hx;have o2:=zau (g:=Cell.ghost) hx;have Bj:=zbP p a.to.n;simp -dsimp only[go_sem,seval,h1,hs,A8,hg];refine zw1 (fun h=> ?_) (fun h=> ?_)<;>(try rw[h])<;>(try simp only[zab]at h)<;>(try simp -dsimp only[go_sem,seval,hs,ho,zaN])
  ·rw[hK,h];simp
  ·have e0:zxI p s.guard false t=true:=by assumption
   refine zw1 (fun h=> ?_) (fun h=> ?_)<;>(try rw[h])<;>(try simp only[zab]at h)<;>(try simp -dsimp only[go_sem,seval,KB,hs])
   ·rw[hK,h];simp
   ·have e1:zxb p t a.cell=true:=by assumption
    refine zw1 (fun h=> ?_) (fun h=> ?_)<;>(try rw[h])<;>(try simp only[zab]at h)<;>(try simp -dsimp only[go_sem,seval,hs])
    ·rw[hK,o2,h];simp
    ·have e2:x.ghost=false:=by assumption
     refine zw1 (fun h=> ?_) (fun h=> ?_)<;>(try rw[h])<;>(try simp only[zab]at h)<;>(try simp -dsimp only[go_sem,seval,Bj])
     ·rw[hK];simp[h]
     ·have e3:a.to.op=2:=by assumption
      obtain⟨d1,y,hy⟩:=za5 (zAu (hr.2 a Cj).2 e3);have MQ:=zcL p a.to.n y d1 hy;have q2:=zau (g:=Cell.ghost) hy;refine zw1 (fun h=> ?_) (fun h=> ?_)<;>(try rw[h])<;>(try simp only[zab]at h)<;>(try simp -dsimp only[go_sem,seval,MQ])
      ·rw[hK,h];simp
      ·have e4:zxb p (-1) a.to.n=true:=by assumption
       refine zw1 (fun h=> ?_) (fun h=> ?_)<;>(try rw[h])<;>(try simp only[zab]at h)<;>(try simp -dsimp only[go_sem,seval,hs,A4])
       ·rw[hK,q2,h];simp
       ·rw[o2,q2,e0,e1,e2,e4,h]at hK;simp only[e3,decide_true,Bool.not_false,Bool.and_true,Bool.true_and]at hK;have t1:=zf6 r;have t2:=zi0 r.length;have t3:=ziL Assign.enc r;simp -dsimp only[go_sem,seval,t1,t2,t3,Int.le_refl];refine zaq 2475879930996807960121837632 r.length (fun j f'=>(f' 67).v=vi j/\zzE p t s=(r.drop j).all fun b=>zxb p t b.cell&&zaO p b.cell Cell.ghost&&zxI p b.to false t) rfl rfl ⟨by simp -dsimp only[go_sem,seval],hK⟩ ?_;rintro j f' u' kk' bb' hj ⟨LF,Aa⟩;have Ay:=zag j (by rw[hs]at hl;simp at hl;omega);simp -dsimp only[go_sem,seval,LF];refine zw1 (fun h=> ?_) (fun h=> ?_)<;>(try rw[h])<;>(try simp only[zab]at h)<;>(try simp -dsimp only[go_sem,seval,LF])
        ·obtain⟨b,hb,KM⟩:=zad ‹j<r.length›;obtain⟨d2,z,hz⟩:=za5 (hr.2 b (by rw[hs];simp[KM])).1;have Kb:=zez p t b.cell;have Pe:=zcL p b.cell z d2 hz;have z2:=zau (g:=Cell.ghost) hz;have De:=zkV p t b.to;simp only[zaN]at De;simp -dsimp only[go_sem,seval,LF,hb,Kb,zaN]
         repeat'(refine zw1 (fun h=> ?_) (fun h=> ?_)<;>(try rw[h])<;>(try simp only[zab]at h)<;>(try simp -dsimp only[go_sem,seval,LF,Pe,De,zaN]))
         all_goals first
          | (rw[Aa,zaz hb (by rw[z2];simp[*])];done)
          | (refine⟨by omega,by simp -dsimp only[go_sem,seval,Ay],?_⟩
             rw[Aa,zaA hb (by rw[z2];simp[*])])
        ·have:j=r.length:=by omega
         subst this;rw[Aa,zaQ]
theorem zDb (p:Prog) (t:Int):zsK (.fn 164 [] [zaN p,.ip [.fn 134 [] [zaN p,.ip [.fn 146 [] [zaN p,.ip [ti t]]]]]]) (fun c=>zaO p c Cell.ghost&&zAq p t c) (fun c=>inR c p.cells.length=true):=by
 have hb:IsP 134 [zaN p,.ip [.fn 146 [] [zaN p,.ip [ti t]]]] (zAq p t):=zAZ p t;have hn: ∀x∈[zaN p,.ip [.fn 134 [] [zaN p,.ip [.fn 146 [] [zaN p,.ip [ti t]]]]]],T.norm x=x:=by simp[zaN,T.norm]
 refine⟨rfl,164,[],[zaN p,.ip [.fn 134 [] [zaN p,.ip [.fn 146 [] [zaN p,.ip [ti t]]]]]].map V.t,rfl,fun hh n=> ?_,fun n=> ?_,fun n Ar=> ?_⟩
 ·exact zdT hh (ti n::[zaN p,.ip [.fn 134 [] [zaN p,.ip [.fn 146 [] [zaN p,.ip [ti t]]]]]]) (fun x hx=>(List.mem_cons.1 hx).elim (fun e=>by rw[e];rfl) (hn x))
 ·exact zgR (ti n::[zaN p,.ip [.fn 134 [] [zaN p,.ip [.fn 146 [] [zaN p,.ip [ti t]]]]]])
 ·obtain⟨d0,x,hx⟩:=za5 Ar;have KB:=zcL p n x d0 hx;have o2:=zau (g:=Cell.ghost) hx;have hd:=hb.2 n;simp only[List.map_cons,List.map_nil,zaN,List.nil_append,List.cons_append]at hd⊢
  (refine zw3 Γ164 rfl ?_;dsimp only[f164])
  simp -dsimp only[go_sem,seval,KB];refine zw1 (fun h=> ?_) (fun h=> ?_)<;>(try rw[h])<;>(try simp only[zab]at h)<;>(try simp -dsimp only[go_sem,seval,hd])
  ·rw[o2,h];simp
  ·rw[o2,h];simp
theorem zgu (p:Prog) (t:Int) (s:Step) (hl:s.set.length<2^48) (hr:zfk p s):Den Γ G 149 [(.agg [.t (.sl ((p).cells.map (Cell.enc))),.t (.sl ((p).modules.map (Contract.enc))),.t (.sl ((p).locks.map (Lock.enc))),.t (.sl ((p).threads.map (Thread.enc)))]),vi t,(.agg [.t (ti (s).kind),.t (ti (s).fr),.t (ti (s).to),.t (ti ((s).guard).op),.t (ti ((s).guard).w),.t (ti ((s).guard).n),.t (.sl (((s).guard).kids.map Expr.enc)),.t (.sl ((s).set.map Assign.enc)),.t (tb (s).release),.t (ti (s).target),.t (ti (s).module)])]=some (vb (zy6 p t s)):=by
 (refine zw3 Γ149 rfl ?_;dsimp only[f149])
 have h1:=zgk p t
 have hv:Den Γ G 161 [(zS s),.t (.fn 146 [] [zaN p,.ip [ti t]])]=some (vb (zxF p s false t)):=by
  rw[zdk s _ _ (zDw p t) hl];simp only[zxF,zxI,zgo]
 by_cases he:s.set=[]
 ·simp -dsimp only[go_sem,seval,h1,he];simp[zy6,he]
 ·obtain⟨a,r,hs⟩: ∃a r,s.set=a::r:=by
   rcases h:s.set with _ | ⟨a,r⟩
   ·exact absurd h he
   ·exact⟨a,r,rfl⟩
  have BU:s.set.length=r.length+1:=by rw[hs];rfl
  have h0:s.set[0]? =some a:=by rw[hs];rfl
  have Jx:List.drop 1 (s.set.map Assign.enc)=r.map Assign.enc:=by rw[hs];rfl
  have A8: ¬(((r.length+1:Nat):Int)=0):=by omega
  have A4:(1:Int)<=((r.length+1:Nat):Int):=by omega
  have hK:zy6 p t s=(zxF p s false t&&zxb p (-1) a.cell&& !zaO p a.cell Cell.ghost&&r.all fun b=>zaO p b.cell Cell.ghost&&zAq p t b.cell):=by rw[zy6,hs]
  have Cj:a∈s.set:=by rw[hs];simp
  obtain⟨d0,x,hx⟩:=za5 (hr.2 a Cj).1;have KB:=zcL p a.cell x d0 hx;have o2:=zau (g:=Cell.ghost) hx;have Bj:=zbP p a.cell;have HQ:=zdj p t;have NG:=zdl r _ _ _ (zDb p t) (fun b hb=>(hr.2 b (by rw[hs];simp[hb])).1) (by omega);have t1:=zf6 s.set;have t2:=zi0 r.length;have t3:=ziL Assign.enc r;simp -dsimp only[go_sem,seval,h1,BU,A8,hv,h0];refine zw1 (fun h=> ?_) (fun h=> ?_)<;>(try rw[h])<;>(try simp only[zab]at h)<;>(try simp -dsimp only[go_sem,seval,h0,Bj])
  ·rw[hK,h];simp
  ·have e0:zxF p s false t=true:=by assumption
   refine zw1 (fun h=> ?_) (fun h=> ?_)<;>(try rw[h])<;>(try simp only[zab]at h)<;>(try simp -dsimp only[go_sem,seval,KB])
   ·rw[hK,h];simp
   ·have e1:zxb p (-1) a.cell=true:=by assumption
    refine zw1 (fun h=> ?_) (fun h=> ?_)<;>(try rw[h])<;>(try simp only[zab]at h)<;>(try simp -dsimp only[go_sem,seval,HQ,BU,Jx,t1,t2,t3,A4,Int.le_refl,NG])
    ·rw[hK,o2,h];simp
    ·rw[o2,e0,e1,h]at hK;simp only[Bool.not_false,Bool.and_true,Bool.true_and]at hK;rw[hK];have GN:T.ip [.sl (p.cells.map Cell.enc),.sl (p.modules.map Contract.enc),.sl (p.locks.map Lock.enc),.sl (p.threads.map Thread.enc)]=zaN p:=rfl;simp -dsimp only[go_sem,seval,GN,NG]
theorem zlb:Den Γ G 135 []=some (.agg [.t .nilf,.t (.fn 147 [] []),.t (.fn 148 [] []),.t (.fn 149 [] []),.t (.fn 150 [] []),.t (.fn 151 [] []),.t (.fn 152 [] []),.t (.fn 153 [] [])]):=by
 (refine zw3 Γ135 rfl ?_;dsimp only[f135])
 simp -dsimp only[go_sem,seval]
set_option maxHeartbeats 4000000 in
theorem zks (p:Prog) (t:Int) (x:Thread) (J8: -2^48<x.points/\x.points<2^48) (s:Step) (Ac:s.set.length<2^48):
 Den Γ G 105 [(zP p),vi t,(zT x),(zS s)]=some (vi (zxm p t x.points s)):=by
 (refine zw3 Γ105 rfl ?_;dsimp only[f105])
 have Cq:IntKind.i64.wrap (x.points-1)=x.points-1:=zaj (by omega);have Cg:=zaT s.fr (x.points-1);have C0:=zaT s.to x.points;have D1:=zaT s.module p.modules.length;have hv:=zcW s.guard p.cells false;simp -dsimp only[go_sem,seval]
 by_cases AO:zbN p x.points s=true
 ·rw[zxm,if_pos AO]
  repeat'(refine zw1 (fun h=> ?_) (fun h=> ?_)<;>(try rw[h])<;>(try simp only[zab]at h)<;>(try simp -dsimp only[go_sem,seval,Cq,Cg,C0,D1]))
  all_goals(exfalso;simp only[zbN,Bool.or_eq_true,zF,Bool.not_eq_true',decide_eq_true_eq]at AO;simp_all;try omega)
 ·have HY:zxm p t x.points s=if !s.guard.valid p.cells false||decide (s.guard.w≠1)then 60 else if ¬(zx7 (zxH p s.set) 0 s.set).1=0 then(zx7 (zxH p s.set) 0 s.set).1 else if zxJ p t s then 0 else 70:=by rw[zxm,if_neg AO]
  have Bi:zbN p x.points s=false:=by simpa using AO
  simp only[zbN,Bool.or_eq_false_iff,Bool.and_eq_false_iff,Bool.not_eq_false',decide_eq_false_iff_not]at Bi;obtain⟨⟨⟨⟨⟨⟨b1,b2⟩,b3⟩,b4⟩,b5⟩,b6⟩,b7⟩:=Bi;rw[b3]at Cg;rw[b4]at C0;rw[b5]at D1
  have AU: ∀Q:Prop,(∀(c3 c6 c7 r tz:Bool),decide (s.kind=6)=c6->decide (s.kind=7)=c7->decide (s.kind=3)=c3->s.release=r->decide (s.target=0)=tz->
   ((c6=true/\r=false)\/(c6=false/\c7=true/\r=false)\/(c6=false/\c7=false/\tz=true/\r=false)\/(c6=false/\c7=false/\tz=true/\r=true/\c3=true))->Q)->Q:=fun Q q=>by
   refine q _ _ _ _ _ rfl rfl rfl rfl rfl ?_;simp only[decide_eq_true_eq,decide_eq_false_iff_not]
   by_cases h6:s.kind=6<;>by_cases h7:s.kind=7<;>by_cases h3:s.kind=3<;>cases hr:s.release<;>by_cases hz:s.target=0<;>simp_all
  refine AU _ (fun c3 c6 c7 r tz e6 e7 e3 er ez hc=> ?_);have Cn:s.guard.valid p.cells false=true->s.guard.w=1->zxm p t x.points s=if ¬(zx7 (zxH p s.set) 0 s.set).1=0 then(zx7 (zxH p s.set) 0 s.set).1 else if zxJ p t s then 0 else 70:=fun g1 g2=>by rw[HY,if_neg (by simp[g1,g2])]
  have E1:(s.guard.valid p.cells false=false\/ ¬s.guard.w=1)->zxm p t x.points s=60:=fun g=>by rw[HY,if_pos (by rcases g with g | g<;>simp[g])]
  have b1':1<=s.kind/\s.kind<=7:=by omega
  have e3':(decide ¬s.kind=3)= !c3:=by rw[<- e3];simp
  have ez':(decide ¬s.target=0)= !tz:=by rw[<- ez];simp
  rcases hc with⟨rfl,rfl⟩ | ⟨rfl,rfl,rfl⟩ | ⟨rfl,rfl,rfl,rfl⟩ | ⟨rfl,rfl,rfl,rfl,rfl⟩
  all_goals(try cases tz)
  all_goals(try cases c3)
  all_goals(try(exfalso;simp only[decide_eq_true_eq]at e3 e6 e7;omega))
  all_goals(
   (try simp only[Bool.not_true,Bool.not_false]at e3' ez')
   simp -dsimp only[go_sem,seval,Cq,Cg,C0,D1,b1,b2,e6,e7,e3',ez',er,hv]
   repeat'(refine zw1 (fun h=> ?_) (fun h=> ?_)<;>(try rw[h])<;>(try simp only[zab]at h)<;>(try simp -dsimp only[go_sem,seval,hv])))
  all_goals(try(rw[E1 (.inl ‹_›)];done))
  all_goals(try(rw[E1 (.inr ‹_›)];done))
  all_goals(
   have L2:s.guard.valid p.cells false=true:=by assumption
   have Pf:s.guard.w=1:=by assumption
   have Cn:=Cn L2 Pf;clear AU E1 HY hv Cg C0 D1 e3' ez' er e3 e6;refine zap 2722258935367498036300439942420748071168 s.set.length (fun i f h y=>(f 83).v=vi i/\h 74=some (.map (zCu ((s.set.take i).map Assign.cell)))/\zx7 (zxH p s.set) 0 s.set=zx7 (zxH p s.set) i (s.set.drop i)) rfl ⟨by simp -dsimp only[go_sem,seval],by simp -dsimp only[go_sem,seval];rfl,rfl⟩ ?_;rintro i f u hh y bs hi ⟨HE,Bg,hm⟩;have hw:=zag i (by omega);simp -dsimp only[go_sem,seval,HE];refine zw1 (fun h=> ?_) (fun h=> ?_)<;>(try rw[h])<;>(try simp only[zab]at h)<;>(try simp -dsimp only[go_sem,seval,HE])
   ·obtain⟨a,ha,Cj⟩:=zad ‹i<s.set.length›;have Cg:=zaT a.cell p.cells.length
    have Al: ∀k:Int,k≠0->zxH p s.set i a=k->zxm p t x.points s=k:=fun k hk h0=>by
     have h2:=hm.trans (zyg ha (by rw[h0];exact hk));rw[Cn,h2,h0,if_pos hk]
    have A3:((s.set.take i).map Assign.cell).any (fun d=>decide (d=a.cell))=(s.set.take i).any (fun d=>decide (d.cell=a.cell)):=by rw[List.any_map];rfl
    have BJ:=zoB a.cell ((s.set.take i).map Assign.cell);rw[A3]at BJ;cases hc:(s.set.take i).any (fun d=>decide (d.cell=a.cell))
    ·rw[hc]at BJ A3;have My:=zrO a.cell _ A3;simp -dsimp only[go_sem,seval,HE,ha,Bg,BJ,Option.getD_none,Option.getD_some,Option.isSome_none,zG,if_true,if_false,Cg];cases Hz:inR a.cell p.cells.length
     ·simp -dsimp only[go_sem,seval,HE];rw[Al 70 (by decide) (by simp[zxH,Hz])]
     ·obtain⟨d0,z,hz⟩:=za5 Hz;have D3:=zcW a.to p.cells false;have GZ:=zau (g:=fun x=>decide (a.to.w=x.w)) hz
      have D6:zxH p s.set i a=if !a.to.valid p.cells false || !zaO p a.cell (fun x=>decide (a.to.w=x.w))then 60 else 0:=by
       rw[zxH,if_neg (by rw[Hz,hc];simp)]
      rw[GZ]at D6;simp -dsimp only[go_sem,seval,HE,Bg,My,d0,hz];refine zw1 (fun h=> ?_) (fun h=> ?_)<;>(try rw[h])<;>(try simp only[zab]at h)<;>(try simp -dsimp only[go_sem,seval,HE,D3])
      ·rw[Al 60 (by decide) (by rw[D6];simp[h])]
      ·have Jk:a.to.w=z.w:=by assumption
       refine zw1 (fun h=> ?_) (fun h=> ?_)<;>(try rw[h])<;>(try simp only[zab]at h)<;>(try simp -dsimp only[go_sem,seval,HE])
       ·rw[Al 60 (by decide) (by rw[D6];simp[h])]
       ·refine⟨by omega,by simp -dsimp only[go_sem,seval,hw],?_,?_⟩
        ·simp -dsimp only[go_sem,seval];rw[zac ha];simp
        ·rw[hm,zbj ha (by rw[D6];simp[h,Jk])]
    ·rw[hc]at BJ;simp -dsimp only[go_sem,seval,HE,ha,Bg,BJ,Option.getD_none,Option.getD_some,Option.isSome_none,zG,if_true,if_false];rw[Al 70 (by decide) (by rw[zxH,if_pos (by rw[hc];simp)])]
   ·have:i=s.set.length:=by omega
    subst this;rw[zb3]at hm;rw[hm,if_neg (by simp)]at Cn;have hr:zfk p s:=⟨L2,zbX (i:=0) (set:=s.set) (by rw[hm])⟩
    have A7:=zlb;have f1:=zgw p t s Ac;have f2:=zhs p t s Ac hr;have f3:=zgu p t s Ac hr;have f4:=zfr p t s Ac;have f5:=zgx p t s;have f6:=zgv p t s;have f7:=zei p t s;have CU:s.kind=1\/s.kind=2\/s.kind=3\/s.kind=4\/s.kind=5\/s.kind=6\/s.kind=7:=by omega
    rw[Cn];clear Cn hm Bg;rcases CU with k | k | k | k | k | k | k
    all_goals(try(exfalso;simp only[decide_eq_false_iff_not]at e7;omega))
    all_goals(
     simp only[k]at f1 f2 f3 f4 f5 f6 f7;simp -dsimp only[go_sem,seval,A7,k,f1,f2,f3,f4,f5,f6,f7];refine zw1 (fun h=> ?_) (fun h=> ?_)<;>(try rw[h])<;>(try simp only[zab]at h)<;>(try simp -dsimp only[go_sem,seval])
     all_goals(simp[zxJ,k,h])))
end Rg
end
section
namespace Rg
open Go
theorem zB5 (p:Prog):IsF (.fn 103 [] [zaN p]) (fun m=>inR m p.modules.length):=by
 refine IsP.isF ⟨by simp[zaN,T.norm],fun n=> ?_⟩;simp only[List.map_cons,List.map_nil,zaN]
 (refine zw3 Γ103 rfl ?_;dsimp only[f103])
 have h1:=zaT n p.modules.length;simp -dsimp only[go_sem,seval,h1]
def zqB (x:Thread):T:=.ip [.str x.name,ti x.points,.sl (x.asserts.map Expr.enc),ints x.modules,.sl (x.steps.map Step.enc),.sl (x.loops.map Loop.enc),tb x.asleep]
def zmT (l:Loop):T:=.ip [ti l.head,ints l.body,ti l.variant.op,ti l.variant.w,ti l.variant.n,.sl (l.variant.kids.map Expr.enc)]
theorem zB4 (x:Thread) (l:Loop):IsF (.fn 106 [] [zqB x,zmT l]) (fun q=>inR q x.points&&decide (q≠l.head)):=by
 refine IsP.isF ⟨by simp[zqB,zmT,T.norm],fun n=> ?_⟩;simp only[List.map_cons,List.map_nil,zqB,zmT]
 (refine zw3 Γ106 rfl ?_;dsimp only[f106])
 have h1:=zaT n x.points;simp -dsimp only[go_sem,seval,h1]
 repeat'(refine zw1 (fun h=> ?_) (fun h=> ?_)<;>(try rw[h])<;>(try simp only[zab]at h)<;>(try simp -dsimp only[go_sem,seval]))
 all_goals(simp[*])
theorem zoL (p:Prog) (t:Int) (e:Expr) (pair:Bool):Den Γ G 99 [(zP p),(.agg [.t (ti (e).op),.t (ti (e).w),.t (ti (e).n),.t (.sl ((e).kids.map (Expr.enc)))]),vb pair,.t (.fn 134 [] [zaN p,.ip [.fn 146 [] [zaN p,.ip [ti t]]]])]=some (vb (zxl p e pair t)):=by
 rw[zjn p e pair _ _ (zCv p t),zxl,zxI,zeU]
theorem zmM (p:Prog) (t:Int) (e:Expr):Den Γ G 108 [(.agg [.t (ti (e).op),.t (ti (e).w),.t (ti (e).n),.t (.sl ((e).kids.map (Expr.enc)))]),.t (.fn 134 [] [zaN p,.ip [.fn 146 [] [zaN p,.ip [ti t]]]])]=some (vb (zxI p e true t)):=by
 rw[zcF e _ _ (zCv p t),zxI,zeU]
def HT (p:Prog) (x:Thread) (n k:Nat) (es:List (T×V)) (h:Nat->Option O) (y:Nat):Prop:=
 h (n+0)=some (.rows 4 [[.t (.sl (p.cells.map Cell.enc)),.t (.sl (p.modules.map Contract.enc)),.t (.sl (p.locks.map Lock.enc)),.t (.sl (p.threads.map Thread.enc))]] false)/\
 h (n+1)=some (.rows 7 [[.t (.str x.name),.t (ti x.points),.t (.sl (x.asserts.map Expr.enc)),.t (ints x.modules),.t (.sl (x.steps.map Step.enc)),.t (.sl (x.loops.map Loop.enc)),.t (tb x.asleep)]] false)/\
 h k=some (.map es)/\n+2<=y
set_option maxHeartbeats 4000000 in
theorem zBl (p:Prog) (hs:p.sane) (i:Nat) (x:Thread) (hx:p.threads[i]? =some x) (J8:x.points<2^48) (H:Nat->Option O) (n k:Nat) (G2:k<n) (Bg:H k=some (.map (zAp ((p.threads.take i).map Thread.name)))):
 ∃r h' n',DenR Γ G 83 [(zP p),vi i,(zT x),.mm k] H n=some (r,h',n')/\(n<=n'/\r= .tup [vi (zxa p i x).1,vi (zxa p i x).2])/\((zxa p i x).1=0->h' k=some (.map (zAp ((p.threads.take (i+1)).map Thread.name)))):=by
 have Ct:=zL hx;obtain⟨s1,s2,s3,s4,s5⟩:=hs.thr x Ct;have hl:=zc4 x.name;have OQ: ¬k=n:=by omega
 have Iq:=zk5 G2;have OP:=zid G2;have Bz:=fun H' n' P3=>zfw k x.name ((p.threads.take i).map Thread.name) H' n' P3
 have A3:((p.threads.take i).map Thread.name).any (fun d=>d.toList==x.name.toList)=(p.threads.take i).any (fun d=>d.name.toList==x.name.toList):=by rw[List.any_map];rfl
 (refine zxC Γ83 rfl ?_;dsimp only[f83])
 simp -dsimp only[go_sem,seval,hl];refine zw1 (fun h=> ?_) (fun h=> ?_)<;>(try rw[h])<;>(try simp only[zab]at h)<;>(try simp -dsimp only[go_sem,seval])
 ·have:zxa p i x=(1,-1):=by rw[zxa,if_pos (by simp[h])]
  rw[this];exact⟨⟨by simp -dsimp only[go_sem,seval];omega,by simp -dsimp only[go_sem,seval]⟩,fun h0=>by simp at h0⟩
 ·have e1:zxG x.name=true:=by assumption
  refine zas (Bz _ _ (by simp -dsimp only[go_sem,seval,Iq,Bg])) ?_;rintro r h' n' ⟨⟨Kl,rfl⟩,es,he,EJ⟩;rw[A3]at EJ;have q1: ¬n+1=k:=by omega
  have q2: ¬n+0=k:=by omega
  have q3: ¬n+0=n+1:=by omega
  have g4:h' (n+0)=some (.rows 4 [[.t (.sl (p.cells.map Cell.enc)),.t (.sl (p.modules.map Contract.enc)),.t (.sl (p.locks.map Lock.enc)),.t (.sl (p.threads.map Thread.enc))]] false):=by
   rw[he];simp -dsimp only[go_sem,seval,q2,q3]
  have g6:h' (n+1)=some (.rows 7 [[.t (.str x.name),.t (ti x.points),.t (.sl (x.asserts.map Expr.enc)),.t (ints x.modules),.t (.sl (x.steps.map Step.enc)),.t (.sl (x.loops.map Loop.enc)),.t (tb x.asleep)]] false):=by
   rw[he];simp -dsimp only[go_sem,seval,q1]
  have gk:h' k=some (.map es):=by rw[he];simp -dsimp only[go_sem,seval]
  clear he;simp -dsimp only[go_sem,seval,A3];refine zw1 (fun h=> ?_) (fun h=> ?_)<;>(try rw[h])<;>(try simp only[zab]at h)<;>(try simp -dsimp only[go_sem,seval,g6])
  ·have:zxa p i x=(41,-1):=by rw[zxa,if_neg (by simp[e1]),if_pos h]
   rw[this];exact⟨⟨by simp -dsimp only[go_sem,seval];omega,by simp -dsimp only[go_sem,seval]⟩,fun h0=>by simp at h0⟩
  ·have e2:(p.threads.take i).any (fun d=>d.name.toList==x.name.toList)=false:=by assumption
   rw[EJ e2,show(p.threads.take i).map Thread.name++[x.name]=(p.threads.take (i+1)).map Thread.name from by rw[zac hx];simp]at gk;clear EJ Bz Bg
   by_cases GN:x.points<1\/ ¬(x.asserts.length:Int)=x.points\/ ¬(x.modules.length:Int)=x.points
   ·have:zxa p i x=(1,-1):=by rw[zxa,if_neg (by simp[e1]),if_neg (by simp[e2]),if_pos GN]
    rw[this]
    repeat'(refine zw1 (fun h=> ?_) (fun h=> ?_)<;>(try rw[h])<;>(try simp only[zab]at h)<;>(try simp -dsimp only[go_sem,seval,g6]))
    all_goals first
     | (exfalso;omega)
     | exact⟨⟨by simp -dsimp only[go_sem,seval];omega,by simp -dsimp only[go_sem,seval]⟩,fun h0=>by simp at h0⟩
   ·have f1: ¬x.points<1:=by omega
    have f2:(x.asserts.length:Int)=x.points:=by omega
    have f3:(x.modules.length:Int)=x.points:=by omega
    have BT:zxa p i x=if !x.modules.all (fun m=>inR m p.modules.length)then(1,-1)
     else if !x.asserts.all (fun e=>zxl p e false i)then(60,-1)
     else if ¬(zx7 (fun _ s=>zxm p i x.points s) 0 x.steps).1=0 then zx7 (fun _ s=>zxm p i x.points s) 0 x.steps
     else((zx7 (fun _ l=>zaF p i x.points l) 0 x.loops).1,-1):=by
     rw[zxa,if_neg (by simp[e1]),if_neg (by simp[e2]),if_neg GN]
    have f2':decide (¬(x.asserts.length:Int)=x.points)=false:=by simp[f2]
    have f3':decide (¬(x.modules.length:Int)=x.points)=false:=by simp[f3]
    have CJ:=zcb _ _ (zB5 p) x.modules (by omega);simp only[zaN]at CJ;simp -dsimp only[go_sem,seval,f1,f2',f3',g6,g4,CJ];have HQ:=zdj p i;refine zw1 (fun h=> ?_) (fun h=> ?_)<;>(try rw[h])<;>(try simp only[zab]at h)<;>(try simp -dsimp only[go_sem,seval,g4,HQ,g6])
    ·have:zxa p i x=(1,-1):=by rw[BT];simp[h]
     rw[this];exact⟨⟨by simp -dsimp only[go_sem,seval];omega,by simp -dsimp only[go_sem,seval]⟩,fun h0=>by simp at h0⟩
    ·rw[h]at BT;simp only[Bool.not_true,zG,if_false]at BT;clear CJ h;refine zap 147429837401600561920 x.asserts.length (fun j f h y=>(f 57).v=vi j/\HT p x n k (zAp ((p.threads.take (i+1)).map Thread.name)) h y/\x.asserts.all (fun e=>zxl p e false i)=(x.asserts.drop j).all (fun e=>zxl p e false i)) rfl ⟨by simp -dsimp only[go_sem,seval],⟨g4,g6,gk,by simp -dsimp only[go_sem,seval];omega⟩,rfl⟩ ?_;clear g4 g6 gk;rintro j f u hh y bs hj ⟨Lb,⟨g4,g6,gk,gn⟩,Aa⟩;have hw:=zag j (by omega);simp -dsimp only[go_sem,seval,Lb];refine zw1 (fun h=> ?_) (fun h=> ?_)<;>(try rw[h])<;>(try simp only[zab]at h)<;>(try simp -dsimp only[go_sem,seval,Lb])
     ·obtain⟨e,he,_⟩:=zad ‹j<x.asserts.length›;have hb:=zoL p i e false;simp -dsimp only[go_sem,seval,Lb,he,g4,hb];refine zw1 (fun h=> ?_) (fun h=> ?_)<;>(try rw[h])<;>(try simp only[zab]at h)<;>(try simp -dsimp only[go_sem,seval,Lb])
      ·have:zxa p i x=(60,-1):=by rw[BT,Aa,zaz he h];simp
       rw[this];exact⟨⟨by simp -dsimp only[go_sem,seval];omega,by simp -dsimp only[go_sem,seval]⟩,fun h0=>by simp at h0⟩
      ·refine⟨by omega,by simp -dsimp only[go_sem,seval,hw],⟨by simp -dsimp only[go_sem,seval,g4],by simp -dsimp only[go_sem,seval,g6],by simp -dsimp only[go_sem,seval,gk],by simp -dsimp only[go_sem,seval];omega⟩,?_⟩;rw[Aa,zaA he h]
     ·have:j=x.asserts.length:=by omega
      subst this;rw[zaQ]at Aa;rw[Aa]at BT;simp only[Bool.not_true,zG,if_false]at BT;clear Aa Lb hw;simp -dsimp only[go_sem,seval,g6];refine zap 38684445636047416179352320 x.steps.length (fun j f h y=>(f 70).v=vi j/\HT p x n k (zAp ((p.threads.take (i+1)).map Thread.name)) h y/\zx7 (fun _ s=>zxm p i x.points s) 0 x.steps=zx7 (fun _ s=>zxm p i x.points s) j (x.steps.drop j)) rfl ⟨by simp -dsimp only[go_sem,seval],⟨by simp -dsimp only[go_sem,seval,g4],by simp -dsimp only[go_sem,seval,g6],by simp -dsimp only[go_sem,seval,gk],by simp -dsimp only[go_sem,seval];omega⟩,rfl⟩ ?_;clear g4 g6 gk;rintro j f u hh y bs hj ⟨KZ,⟨g4,g6,gk,gn⟩,hm⟩;have hw:=zag j (by omega);simp -dsimp only[go_sem,seval,KZ];refine zw1 (fun h=> ?_) (fun h=> ?_)<;>(try rw[h])<;>(try simp only[zab]at h)<;>(try simp -dsimp only[go_sem,seval,KZ])
      ·obtain⟨s,D6,HW⟩:=zad ‹j<x.steps.length›;have AB:=zks p i x ⟨by omega,J8⟩ s (hs.sets x Ct s HW);simp -dsimp only[go_sem,seval,KZ,D6,g4,g6,AB];refine zw1 (fun h=> ?_) (fun h=> ?_)<;>(try rw[h])<;>(try simp only[zab]at h)<;>(try simp -dsimp only[go_sem,seval,KZ])
       ·have h2:=hm.trans (zyg (f:=fun _ s=>zxm p i x.points s) D6 (by simpa using h));have:zxa p i x=(zxm p i x.points s,(j:Int)):=by rw[BT,h2,if_pos (by simpa using h)]
        rw[this];exact⟨⟨by simp -dsimp only[go_sem,seval];omega,by simp -dsimp only[go_sem,seval]⟩,fun h0=>absurd h0 h⟩
       ·refine⟨by omega,by simp -dsimp only[go_sem,seval,hw],⟨by simp -dsimp only[go_sem,seval,g4],by simp -dsimp only[go_sem,seval,g6],by simp -dsimp only[go_sem,seval,gk],by simp -dsimp only[go_sem,seval];omega⟩,?_⟩;rw[hm,zbj D6 (by simpa using h)]
      ·have:j=x.steps.length:=by omega
       subst this;rw[zb3]at hm;rw[hm,if_neg (by simp)]at BT;clear hm KZ hw;simp -dsimp only[go_sem,seval,g6];refine zap 10633823965969841973409111413518369536 x.loops.length (fun j f h y=>(f 88).v=vi j/\HT p x n k (zAp ((p.threads.take (i+1)).map Thread.name)) h y/\zx7 (fun _ l=>zaF p i x.points l) 0 x.loops=zx7 (fun _ l=>zaF p i x.points l) j (x.loops.drop j)) rfl ⟨by simp -dsimp only[go_sem,seval],⟨by simp -dsimp only[go_sem,seval,g4],by simp -dsimp only[go_sem,seval,g6],by simp -dsimp only[go_sem,seval,gk],by simp -dsimp only[go_sem,seval];omega⟩,rfl⟩ ?_;clear g4 g6 gk;rintro j f u hh y bs hj ⟨HD,⟨g4,g6,gk,gn⟩,hm⟩;have hw:=zag j (by omega);simp -dsimp only[go_sem,seval,HD];refine zw1 (fun h=> ?_) (fun h=> ?_)<;>(try rw[h])<;>(try simp only[zab]at h)<;>(try simp -dsimp only[go_sem,seval,HD])
       ·obtain⟨l,Iy,Ff⟩:=zad ‹j<x.loops.length›;have DP:=hs.loops x Ct l Ff
        have Al: ∀k':Int,k'≠0->zaF p i x.points l=k'->zxa p i x=(k',-1):=fun k' Ag h0=>by
         have h2:=hm.trans (zyg (f:=fun _ l=>zaF p i x.points l) Iy (by rw[h0];exact Ag));rw[BT,h2,h0]
        have Ar:=zaT l.head x.points;have Dw:=zdd l.body (by omega);have CJ:=zcb _ _ (zB4 x l) l.body (by omega);simp only[zqB,zmT]at CJ;have hv:=zcW l.variant p.cells false;have De:=zmM p i l.variant;have r1: ¬n=y+2:=by omega
        have r2: ∀a b:Nat,¬n+0=y+a+b:=by intros;omega
        have r3: ∀a b:Nat,¬k=y+a+b:=by intros;omega
        simp -dsimp only[go_sem,seval,HD,Iy,g4,g6,r1,r2,Ar];refine zw1 (fun h=> ?_) (fun h=> ?_)<;>(try rw[h])<;>(try simp only[zab]at h)<;>(try simp -dsimp only[go_sem,seval,HD,r1,r2,g4,g6,Dw])
        ·rw[Al 1 (by decide) (by simp[zaF,h])];exact⟨⟨by simp -dsimp only[go_sem,seval];omega,by simp -dsimp only[go_sem,seval]⟩,fun h0=>by simp at h0⟩
        ·have u1:inR l.head x.points=true:=by assumption
         refine zw1 (fun h=> ?_) (fun h=> ?_)<;>(try rw[h])<;>(try simp only[zab]at h)<;>(try simp -dsimp only[go_sem,seval,HD,r1,r2,g4,g6,CJ])
         ·rw[Al 1 (by decide) (by simp[zaF,h])];exact⟨⟨by simp -dsimp only[go_sem,seval];omega,by simp -dsimp only[go_sem,seval]⟩,fun h0=>by simp at h0⟩
         ·have u2:zyv l.body=true:=by assumption
          refine zw1 (fun h=> ?_) (fun h=> ?_)<;>(try rw[h])<;>(try simp only[zab]at h)<;>(try simp -dsimp only[go_sem,seval,HD,r1,r2,g4,g6,hv])
          ·rw[Al 1 (by decide) (by rw[zaF,if_pos (by rw[h];simp)])];exact⟨⟨by simp -dsimp only[go_sem,seval];omega,by simp -dsimp only[go_sem,seval]⟩,fun h0=>by simp at h0⟩
          ·have u3:(l.body.all fun q=>inR q x.points&&decide (q≠l.head))=true:=by assumption
           have A4:zaF p i x.points l=if !l.variant.valid p.cells false || !zxI p l.variant true i then 60 else 0:=by
            rw[zaF,if_neg (by rw[u1,u2,u3];simp)]
           refine zw1 (fun h=> ?_) (fun h=> ?_)<;>(try rw[h])<;>(try simp only[zab]at h)<;>(try simp -dsimp only[go_sem,seval,HD,r1,r2,g4,g6,De])
           ·rw[Al 60 (by decide) (by rw[A4];simp[h])];exact⟨⟨by simp -dsimp only[go_sem,seval];omega,by simp -dsimp only[go_sem,seval]⟩,fun h0=>by simp at h0⟩
           ·have u4:l.variant.valid p.cells false=true:=by assumption
            refine zw1 (fun h=> ?_) (fun h=> ?_)<;>(try rw[h])<;>(try simp only[zab]at h)<;>(try simp -dsimp only[go_sem,seval,HD])
            ·rw[Al 60 (by decide) (by rw[A4];simp[h])];exact⟨⟨by simp -dsimp only[go_sem,seval];omega,by simp -dsimp only[go_sem,seval]⟩,fun h0=>by simp at h0⟩
            ·refine⟨by omega,by simp -dsimp only[go_sem,seval,hw],⟨by simp -dsimp only[go_sem,seval,g4,r2],by simp -dsimp only[go_sem,seval,g6,r1],by simp -dsimp only[go_sem,seval,gk,r3],by simp -dsimp only[go_sem,seval];omega⟩,?_⟩;rw[hm,zbj Iy (by rw[A4];simp[h,u4])]
       ·have:j=x.loops.length:=by omega
        subst this;rw[zb3]at hm;rw[BT,hm];exact⟨⟨by simp -dsimp only[go_sem,seval];omega,by simp -dsimp only[go_sem,seval]⟩,fun _=>by simp -dsimp only[go_sem,seval,gk]⟩
end Rg
end
section
namespace Rg
open Go
@[go_sem]theorem ztk (g:Nat) (c:List T) (K:Nat->List V->List V->Prop) (w:WK K):fnK (some (.t (.fa g c))) K w=K g [.agg (c.map V.t)] []:=rfl
theorem zbM (p:Prog) (hs:p.sane):Den Γ G 64 [(zP p)]=some (.tup [vi (zxL p).1,vi (zxL p).2.1,vi (zxL p).2.2]):=by
 (refine zw3 Γ64 rfl ?_;dsimp only[f64])
 have h1:=zig p hs;simp -dsimp only[go_sem,seval,h1];refine zw1 (fun h=> ?_) (fun h=> ?_)<;>(try rw[h])<;>(try simp only[zab]at h)<;>(try simp -dsimp only[go_sem,seval])
 ·have h0: ¬(zxn p).1=0:=by simpa using h
  have:zxL p=((zxn p).1,(zxn p).2,-1):=by rw[zxL,if_pos h0]
  rw[this];simp
 ·have h0:(zxn p).1=0:=by simpa using h
  obtain⟨⟨l1,l2,l3,l4⟩,l5⟩:=zw8 h0
  have AY:zxL p=if ¬zx2 p=0 then(zx2 p,-1,-1)else if ¬zxB p=0 then(zxB p,-1,-1)else if ¬zys p=0 then(zys p,-1,-1)else zyW p 0 p.threads:=by
   rw[zxL,if_neg (by simpa using h0)]
  have c1:=zj8 p hs;have c2:=zhk p hs;have c3:=zjM p hs;refine zai ?_;simp -dsimp only[go_sem,seval,c1];refine zw1 (fun h=> ?_) (fun h=> ?_)<;>(try rw[h])<;>(try simp only[zab]at h)<;>(try simp -dsimp only[go_sem,seval])
  ·have:zxL p=(zx2 p,-1,-1):=by rw[AY,if_pos (by simpa using h)]
   rw[this];simp
  ·have h2:zx2 p=0:=by simpa using h
   rw[if_neg (by simpa using h2)]at AY;refine zai ?_;simp -dsimp only[go_sem,seval,c2];refine zw1 (fun h=> ?_) (fun h=> ?_)<;>(try rw[h])<;>(try simp only[zab]at h)<;>(try simp -dsimp only[go_sem,seval])
   ·have:zxL p=(zxB p,-1,-1):=by rw[AY,if_pos (by simpa using h)]
    rw[this];simp
   ·have h3:zxB p=0:=by simpa using h
    rw[if_neg (by simpa using h3)]at AY;refine zai ?_;simp -dsimp only[go_sem,seval,c3];refine zw1 (fun h=> ?_) (fun h=> ?_)<;>(try rw[h])<;>(try simp only[zab]at h)<;>(try simp -dsimp only[go_sem,seval])
    ·have:zxL p=(zys p,-1,-1):=by rw[AY,if_pos (by simpa using h)]
     rw[this];simp
    ·have h4:zys p=0:=by simpa using h
     rw[if_neg (by simpa using h4)]at AY;refine zai ?_;simp -dsimp only[go_sem,seval];refine zap 73786835557349912604 p.threads.length (fun i f h y=>(f 47).v=vi i/\56<y/\h 56=some (.map (zAp ((p.threads.take i).map Thread.name)))/\zxL p=zyW p i (p.threads.drop i)) rfl ⟨by simp -dsimp only[go_sem,seval],by simp -dsimp only[go_sem,seval],by simp -dsimp only[go_sem,seval];rfl,AY⟩ ?_;rintro i f u hh y bs hi ⟨Lc,hy,Bg,hm⟩;have hw:=zag i (by omega);simp -dsimp only[go_sem,seval,Lc];refine zw1 (fun h=> ?_) (fun h=> ?_)<;>(try rw[h])<;>(try simp only[zab]at h)<;>(try simp -dsimp only[go_sem,seval,Lc])
     ·obtain⟨x,hx,Ct⟩:=zad ‹i<p.threads.length›;simp -dsimp only[go_sem,seval,Lc,hx];refine zas (zBl p hs i x hx (by have:=(l5 x Ct).1;omega) hh _ 56 (by omega) Bg) ?_;rintro r h' n' ⟨⟨hn,rfl⟩,hk⟩;simp -dsimp only[go_sem,seval,Lc];refine zw1 (fun h=> ?_) (fun h=> ?_)<;>(try rw[h])<;>(try simp only[zab]at h)<;>(try simp -dsimp only[go_sem,seval,Lc])
      ·rw[hm,ziJ hx (by simpa using h)];simp
      ·have Ag:=hk (by simpa using h);refine⟨by omega,by simp -dsimp only[go_sem,seval,hw],by simp -dsimp only[go_sem,seval];omega,by simp -dsimp only[go_sem,seval,Ag],?_⟩;rw[hm,ziK hx (by simpa using h)]
     ·have:i=p.threads.length:=by omega
      subst this;rw[hm,zkn];simp
theorem zcK: ∀l:List Int,zyR (zw5 l)=some l
 | []=>rfl
 | a::l=>by
   have:zw5 (a::l)=[.t (.int .i64 a)]::zw5 l:=rfl;rw[this,zyR,zcK l];rfl
theorem zee (l:List Int):zxs l=zw5 l:=by simp[zxs,zw5]
def zzs (l:List Int):List Int:=Go.Lib.compact (l.mergeSort fun x y=>decide (x<=y))
theorem zix (l:List Int) (x:Int):x∈Go.Lib.compact l<->x∈l:=by
 unfold Go.Lib.compact Go.Lib.compactUpTo;simp only[List.mem_map,List.mem_filter,List.mem_range];constructor
 ·rintro⟨j,⟨hj,_⟩,rfl⟩;simp[hj]
 ·intro hx;obtain⟨i,hi⟩:=List.getElem?_of_mem hx
  have key: ∀i:Nat,l[i]? =some x-> ∃a,(a<l.length/\Go.Lib.keeps l.toArray a=true)/\l.toArray[a]! =x:=by
   intro i
   induction i with
   | zero=>
     intro h;obtain⟨h1,h2⟩:=zH.1 h
     exact⟨0,⟨h1,by simp[Go.Lib.keeps]⟩,by simp[h1,h2]⟩
   | succ i ih=>
     intro h;obtain⟨h1,h2⟩:=zH.1 h
     by_cases he:l[i]? =some x
     ·exact ih he
     ·refine⟨i+1,⟨h1,?_⟩,by simp[h1,h2]⟩;have hi:i<l.length:=by omega
      have : ¬l[i+1]=l[i]:=by
       intro hh;rw[zI hi]at he;exact he (by rw[<- hh,h2])
      simp[Go.Lib.keeps,h1,hi,this]
  exact key i hi
theorem zeH (l:List Int) (x:Int):x∈zzs l<->x∈l:=by
 rw[zzs,zix,List.mem_mergeSort]
theorem znl (l:List Int):(Go.Lib.compact l).length<=l.length:=by
 unfold Go.Lib.compact Go.Lib.compactUpTo;rw[List.length_map];exact Nat.le_trans (List.length_filter_le _ _) (by simp)
theorem zh1 (l:List Int):(zzs l).length<=l.length:=by
 have:=znl (l.mergeSort fun x y=>decide (x<=y));rwa[List.length_mergeSort]at this
def zw6 (p:Prog):Bool:=decide ((zxL p).1=0)
theorem zcz (p:Prog) (hs:p.sane):Den Γ G 38 [(zP p)]=some (vb (zw6 p)):=by
 (refine zw3 Γ38 rfl ?_;dsimp only[f38])
 have h1:=zbM p hs;simp -dsimp only[go_sem,seval,h1];rfl
theorem ze4 (p:Prog) (hs:p.sane):Den Γ G 39 [(zP p)]=some (vb (zw6 p)):=by
 (refine zw3 Γ39 rfl ?_;dsimp only[f39])
 have h1:=zft p hs;simp -dsimp only[go_sem,seval,h1];rfl
theorem zz4 {α β:Type} {l:List α} {m:List β} {i:Nat} {a:α} {b:β} (h1:l[i]? =some a) (h2:m[i]? =some b):(l.zip m)[i]? =some (a,b):=by
 rw[List.getElem?_zip_eq_some];exact⟨h1,h2⟩
def zbk (q:Int×Cell):Bool:=decide (0<=q.1)&&decide (q.1<2^q.2.w.toNat)
def zdw (q:Int×Thread):Bool:=decide (-1<=q.1)&&decide (q.1<q.2.points)&& !(decide (q.1= -1)&& !q.2.asleep)
def zzP (p:Prog) (mem at_:List Int):Bool:=
 decide (mem.length=p.cells.length)&&decide (at_.length=p.threads.length)&&(mem.zip p.cells).all zbk&&(at_.zip p.threads).all zdw
def isM (p:Prog) (c:Config):Bool:=zzP p c.mem c.at_&&decide (c.buf.length=p.threads.length)&&c.buf.all List.isEmpty
theorem zw9 {p:Prog} (h:zw6 p=true):(zxn p).1=0/\zx2 p=0/\zxB p=0/\zys p=0/\zyW p 0 p.threads=(0,-1,-1):=by
 rw[zw6,decide_eq_true_eq,zxL]at h
 have key: ∀(l:List Thread) (i:Nat),(zyW p i l).1=0->zyW p i l=(0,-1,-1):=by
  intro l
  induction l with
  | nil=>intro i _;rfl
  | cons x r ih=>
    intro i h;rw[zyW]at h⊢;split at h
    ·rename_i h0;rw[if_pos h0];exact ih _ h
    ·rename_i h0;exact absurd h h0
 split at h
 ·rename_i h0;exact absurd h h0
 ·rename_i h0;split at h
  ·rename_i h1;exact absurd h h1
  ·rename_i h1;split at h
   ·rename_i h2;exact absurd h h2
   ·rename_i h2;split at h
    ·rename_i h3;exact absurd h h3
    ·rename_i h3;exact⟨by simpa using h0,by simpa using h1,by simpa using h2,by simpa using h3,key _ _ h⟩
theorem zyB {p:Prog} (h:zw6 p=true) {x:Cell} (hx:x∈p.cells):1<=x.w/\x.w<=8/\0<=x.init/\x.init<2^x.w.toNat:=by
 have:=zzc (zzH (zw9 h).2.1 x hx);exact⟨this.2.1,this.2.2.1,this.2.2.2.1,this.2.2.2.2.1⟩
theorem zlv (p:Prog) (hf:zw6 p=true) (mem at_:List Int) (h1:mem.length<2^48) (h2:at_.length<2^48):Den Γ G 46 [(.agg [.t (.sl ((p).cells.map (Cell.enc))),.t (.sl ((p).modules.map (Contract.enc))),.t (.sl ((p).locks.map (Lock.enc))),.t (.sl ((p).threads.map (Thread.enc)))]),.t (ints mem),.t (ints at_)]=some (vb (zzP p mem at_)):=by
 (refine zw3 Γ46 rfl ?_;dsimp only[f46])
 simp -dsimp only[go_sem,seval]
 by_cases hl:(mem.length:Int)=p.cells.length/\(at_.length:Int)=p.threads.length
 ·obtain⟨l1,l2⟩:=hl;have l1':decide (¬(mem.length:Int)=p.cells.length)=false:=by simp[l1]
  have l2':decide (¬(at_.length:Int)=p.threads.length)=false:=by simp[l2]
  have hF:zzP p mem at_=((mem.zip p.cells).all zbk&&(at_.zip p.threads).all zdw):=by
   have e1:mem.length=p.cells.length:=by omega
   have e2:at_.length=p.threads.length:=by omega
   simp[zzP,e1,e2]
  have z1:(mem.zip p.cells).length=mem.length:=by rw[List.length_zip];omega
  have z2:(at_.zip p.threads).length=at_.length:=by rw[List.length_zip];omega
  simp -dsimp only[go_sem,seval,l1',l2'];refine zaq 281474968322240 mem.length (fun i f=>(f 7).v=vi i/\(mem.zip p.cells).all zbk=((mem.zip p.cells).drop i).all zbk) rfl rfl ⟨by simp -dsimp only[go_sem,seval],rfl⟩ ?_;rintro i f u kk bb hi ⟨h7,Aa⟩;have hw:=zag i (by omega);simp -dsimp only[go_sem,seval,h7];refine zw1 (fun h=> ?_) (fun h=> ?_)<;>(try rw[h])<;>(try simp only[zab]at h)<;>(try simp -dsimp only[go_sem,seval,h7])
  ·obtain⟨v,hv,_⟩:=zad ‹i<mem.length›;obtain⟨x,hx,Ct⟩:=zad (show i<p.cells.length by omega);obtain⟨w1,w2,_⟩:=zyB hf Ct;have hp:=zbR x.w (by omega);have hz:=zz4 hv hx;simp -dsimp only[go_sem,seval,h7,hv,hx]
   repeat'(refine zw1 (fun h=> ?_) (fun h=> ?_)<;>(try rw[h])<;>(try simp only[zab]at h)<;>(try simp -dsimp only[go_sem,seval,h7,hv,hx,hp]))
   all_goals first
    | (rw[hF,Aa,zaz hz (by simp only[zbk,Bool.and_eq_false_iff,decide_eq_false_iff_not];omega)];simp;done)
    | (refine⟨by omega,by simp -dsimp only[go_sem,seval,hw],?_⟩
       rw[Aa,zaA hz (by simp only[zbk,zF,decide_eq_true_eq];omega)])
  ·have:i=mem.length:=by omega
   subst this;have hz:=zaQ zbk (mem.zip p.cells);rw[z1]at hz;rw[hz]at Aa;rw[Aa,Bool.true_and]at hF;clear Aa h7 hw;refine zaq 309485009821063593748070720 at_.length (fun i f=>(f 8).v=vi i/\(at_.zip p.threads).all zdw=((at_.zip p.threads).drop i).all zdw) rfl rfl ⟨by simp -dsimp only[go_sem,seval],rfl⟩ ?_;rintro i f u kk bb hi ⟨h8,Aa⟩;have hw:=zag i (by omega);simp -dsimp only[go_sem,seval,h8];refine zw1 (fun h=> ?_) (fun h=> ?_)<;>(try rw[h])<;>(try simp only[zab]at h)<;>(try simp -dsimp only[go_sem,seval,h8])
   ·obtain⟨v,hv,_⟩:=zad ‹i<at_.length›;obtain⟨x,hx,Ct⟩:=zad (show i<p.threads.length by omega);have hz:=zz4 hv hx;simp -dsimp only[go_sem,seval,h8,hv,hx]
    repeat'(refine zw1 (fun h=> ?_) (fun h=> ?_)<;>(try rw[h])<;>(try simp only[zab]at h)<;>(try simp -dsimp only[go_sem,seval,h8,hv,hx]))
    all_goals first
     | (rw[hF,Aa,zaz hz (by simp only[zdw];simp[*];try omega)];done)
     | (refine⟨by omega,by simp -dsimp only[go_sem,seval,hw],?_⟩
        rw[Aa,zaA hz (by simp only[zdw];simp[*];try omega)])
   ·have:i=at_.length:=by omega
    subst this;have hz:=zaQ zdw (at_.zip p.threads);rw[z2]at hz;rw[hF,Aa,hz]
 ·have hF:zzP p mem at_=false:=by
   by_cases e1:mem.length=p.cells.length
   ·have e2: ¬at_.length=p.threads.length:=by omega
    simp[zzP,e2]
   ·simp[zzP,e1]
  rw[hF]
  repeat'(refine zw1 (fun h=> ?_) (fun h=> ?_)<;>(try rw[h])<;>(try simp only[zab]at h)<;>(try simp -dsimp only[go_sem,seval]))
  all_goals(exfalso;omega)
def zpO (a:Assign):Bool:=decide ((a.to.size:Int)<=30)
def zm9 (s:Step):Bool:=decide ((s.guard.size:Int)<=30)&&decide ((s.set.length:Int)<=8)&&s.set.all zpO
def znP (l:Loop):Bool:=decide ((l.variant.size:Int)<=30)&&decide ((l.body.length:Int)<=48)
def zc9 (e:Expr):Bool:=decide ((e.size:Int)<=60)
def zCi (x:Thread):Bool:=x.steps.all zm9&&x.asserts.all zc9&&x.loops.all znP
theorem zoC (x:Thread) (h1:x.steps.length<2^40) (h2:x.asserts.length<2^40) (h3:x.loops.length<2^40):Den Γ G 36 [(zT x)]=some (vb (zCi x)):=by
 (refine zw3 Γ36 rfl ?_;dsimp only[f36])
 simp -dsimp only[go_sem,seval];refine zaq 36028797018963868 x.steps.length (fun i f=>(f 3).v=vi i/\x.steps.all zm9=(x.steps.drop i).all zm9) rfl rfl ⟨by simp -dsimp only[go_sem,seval],rfl⟩ ?_;rintro i f u kk bb hi ⟨BZ,Aa⟩;have hw:=zag i (by omega);simp -dsimp only[go_sem,seval,BZ];refine zw1 (fun h=> ?_) (fun h=> ?_)<;>(try rw[h])<;>(try simp only[zab]at h)<;>(try simp -dsimp only[go_sem,seval,BZ])
 ·obtain⟨s,hs,HW⟩:=zad ‹i<x.steps.length›;have hg:=zbO s.guard 30 (by omega);have Bs:zm9 s=false->false=zCi x:=fun h0=>by rw[zCi,Aa,zaz hs h0];rfl
  simp -dsimp only[go_sem,seval,BZ,hs,hg];refine zw1 (fun h=> ?_) (fun h=> ?_)<;>(try rw[h])<;>(try simp only[zab]at h)<;>(try simp -dsimp only[go_sem,seval,BZ,hs])
  ·exact Bs (by simp[zm9];omega)
  ·have e1:(s.guard.size:Int)<=30:=by assumption
   refine zw1 (fun h=> ?_) (fun h=> ?_)<;>(try rw[h])<;>(try simp only[zab]at h)<;>(try simp -dsimp only[go_sem,seval,BZ])
   ·exact Bs (by simp[zm9];omega)
   ·have e2:(s.set.length:Int)<=8:=by omega
    refine zaq 36028792723996692 s.set.length (fun k f'=>(f' 4).v=vi k/\s.set.all zpO=(s.set.drop k).all zpO) rfl rfl ⟨by simp -dsimp only[go_sem,seval],rfl⟩ ?_;rintro k f' u' kk' bb' hk ⟨h4,BW⟩;have Ay:=zag k (by omega);simp -dsimp only[go_sem,seval,BZ,h4,hs];refine zw1 (fun h=> ?_) (fun h=> ?_)<;>(try rw[h])<;>(try simp only[zab]at h)<;>(try simp -dsimp only[go_sem,seval,BZ,h4])
    ·obtain⟨a,ha,Cj⟩:=zad ‹k<s.set.length›;have Ph:=zbO a.to 30 (by omega);simp -dsimp only[go_sem,seval,BZ,h4,hs,ha,Ph];refine zw1 (fun h=> ?_) (fun h=> ?_)<;>(try rw[h])<;>(try simp only[zab]at h)<;>(try simp -dsimp only[go_sem,seval,BZ,h4])
     ·exact Bs (by rw[zm9,BW,zaz ha (by simp[zpO];omega)];simp)
     ·refine⟨by omega,by simp -dsimp only[go_sem,seval,Ay],?_⟩;rw[BW,zaA ha (by simp[zpO];omega)]
    ·have:k=s.set.length:=by omega
     subst this;rw[zaQ]at BW;refine⟨by omega,by simp -dsimp only[go_sem,seval,hw],?_⟩;rw[Aa,zaA hs (by rw[zm9,BW];simp;omega)]
 ·have:i=x.steps.length:=by omega
  subst this;rw[zaQ]at Aa;clear BZ hw;refine zaq 590259781561686687780 x.asserts.length (fun i f=>(f 5).v=vi i/\x.asserts.all zc9=(x.asserts.drop i).all zc9) rfl rfl ⟨by simp -dsimp only[go_sem,seval],rfl⟩ ?_;rintro i f u kk bb hi ⟨h5,BW⟩;have hw:=zag i (by omega);simp -dsimp only[go_sem,seval,h5];refine zw1 (fun h=> ?_) (fun h=> ?_)<;>(try rw[h])<;>(try simp only[zab]at h)<;>(try simp -dsimp only[go_sem,seval,h5])
  ·obtain⟨e,he,_⟩:=zad ‹i<x.asserts.length›;have hg:=zbO e 60 (by omega);simp -dsimp only[go_sem,seval,h5,he,hg];refine zw1 (fun h=> ?_) (fun h=> ?_)<;>(try rw[h])<;>(try simp only[zab]at h)<;>(try simp -dsimp only[go_sem,seval,h5])
   ·rw[zCi,Aa,BW,zaz he (by simp[zc9];omega)];rfl
   ·refine⟨by omega,by simp -dsimp only[go_sem,seval,hw],?_⟩;rw[BW,zaA he (by simp[zc9];omega)]
  ·have:i=x.asserts.length:=by omega
   subst this;rw[zaQ]at BW;clear h5 hw;refine zaq 19807040038270274039680335940 x.loops.length (fun i f=>(f 6).v=vi i/\x.loops.all znP=(x.loops.drop i).all znP) rfl rfl ⟨by simp -dsimp only[go_sem,seval],rfl⟩ ?_;rintro i f u kk bb hi ⟨h6,EM⟩;have hw:=zag i (by omega);simp -dsimp only[go_sem,seval,h6];refine zw1 (fun h=> ?_) (fun h=> ?_)<;>(try rw[h])<;>(try simp only[zab]at h)<;>(try simp -dsimp only[go_sem,seval,h6])
   ·obtain⟨l,hl,_⟩:=zad ‹i<x.loops.length›;have hg:=zbO l.variant 30 (by omega);have Bs:znP l=false->false=zCi x:=fun h0=>by rw[zCi,Aa,BW,EM,zaz hl h0];rfl
    simp -dsimp only[go_sem,seval,h6,hl,hg];refine zw1 (fun h=> ?_) (fun h=> ?_)<;>(try rw[h])<;>(try simp only[zab]at h)<;>(try simp -dsimp only[go_sem,seval,h6,hl])
    ·exact Bs (by simp[znP];omega)
    ·have e1:(l.variant.size:Int)<=30:=by assumption
     refine zw1 (fun h=> ?_) (fun h=> ?_)<;>(try rw[h])<;>(try simp only[zab]at h)<;>(try simp -dsimp only[go_sem,seval,h6])
     ·exact Bs (by simp[znP];omega)
     ·refine⟨by omega,by simp -dsimp only[go_sem,seval,hw],?_⟩;rw[EM,zaA hl (by simp[znP];omega)]
   ·have:i=x.loops.length:=by omega
    subst this;rw[zaQ]at EM;rw[zCi,Aa,BW,EM];rfl
def zAS:Int->List Thread->Bool
 | _,[]=>true
 | n,x::r=>if n+x.steps.length>24\/(x.asserts.length:Int)>48\/(x.modules.length:Int)>48\/(x.loops.length:Int)>8\/zCi x=false then false else zAS (n+x.steps.length) r
def zl9 (m:Contract):Bool:=zc9 m.rely&&zc9 m.guar&&decide ((m.frame.length:Int)<=32)
def zBT (p:Prog):Bool:=
 decide ((p.cells.length:Int)<=32)&&decide ((p.threads.length:Int)<=4)&&decide ((p.modules.length:Int)<=6)&&decide ((p.locks.length:Int)<=4)&&
  zAS 0 p.threads&&p.modules.all zl9&&p.locks.all fun l=>zc9 l.inv
theorem zna (p:Prog) (hb: ∀x∈p.threads,x.steps.length<2^50):Den Γ G 9 [(zP p)]=some (vb (zBT p)):=by
 (refine zw3 Γ9 rfl ?_;dsimp only[f9])
 simp -dsimp only[go_sem,seval]
 by_cases hl:(p.cells.length:Int)<=32/\(p.threads.length:Int)<=4/\(p.modules.length:Int)<=6/\(p.locks.length:Int)<=4
 ·obtain⟨l1,l2,l3,l4⟩:=hl;have g1: ¬(p.cells.length:Int)>32:=by omega
  have g2: ¬(p.threads.length:Int)>4:=by omega
  have g3: ¬(p.modules.length:Int)>6:=by omega
  have g4: ¬(p.locks.length:Int)>4:=by omega
  have hF:zBT p=(zAS 0 p.threads&&p.modules.all zl9&&p.locks.all fun l=>zc9 l.inv):=by simp[zBT,l1,l2,l3,l4]
  simp -dsimp only[go_sem,seval,g1,g2,g3,g4];refine zaq 4722366482868571471932 p.threads.length (fun i f=>(f 4).v=vi i/\ ∃n:Int,0<=n/\n<=24/\(f 3).v=vi n/\zAS 0 p.threads=zAS n (p.threads.drop i)) rfl rfl ⟨by simp -dsimp only[go_sem,seval],0,by omega,by omega,by simp -dsimp only[go_sem,seval],rfl⟩ ?_;rintro i f u kk bb hi ⟨h4,n,n0,n1,h3,G3⟩;have hw:=zag i (by omega);simp -dsimp only[go_sem,seval,h4];refine zw1 (fun h=> ?_) (fun h=> ?_)<;>(try rw[h])<;>(try simp only[zab]at h)<;>(try simp -dsimp only[go_sem,seval,h4])
  ·obtain⟨x,hx,Ct⟩:=zad ‹i<p.threads.length›;have BU:=hb x Ct;have LR:IntKind.i64.wrap (n+(x.steps.length:Int))=n+x.steps.length:=zaj (by omega);rw[zbC hx,zAS]at G3;simp -dsimp only[go_sem,seval,h4,h3,hx,LR]
   by_cases AO:n+x.steps.length>24\/(x.asserts.length:Int)>48\/(x.modules.length:Int)>48\/(x.loops.length:Int)>8
   ·rw[if_pos (by rcases AO with h | h | h | h<;>simp[h])]at G3;rw[hF,G3,Bool.false_and,Bool.false_and]
    repeat'(refine zw1 (fun h=> ?_) (fun h=> ?_)<;>(try rw[h])<;>(try simp only[zab]at h)<;>(try simp -dsimp only[go_sem,seval,h4]))
    all_goals(exfalso;omega)
   ·have k1: ¬n+(x.steps.length:Int)>24:=by omega
    have k2: ¬(x.asserts.length:Int)>48:=by omega
    have k3: ¬(x.modules.length:Int)>48:=by omega
    have k4: ¬(x.loops.length:Int)>8:=by omega
    have MS:=zoC x (by omega) (by omega) (by omega);simp -dsimp only[go_sem,seval,k1,k2,k3,k4,MS];refine zw1 (fun h=> ?_) (fun h=> ?_)<;>(try rw[h])<;>(try simp only[zab]at h)<;>(try simp -dsimp only[go_sem,seval,h4])
    ·rw[if_pos (by simp[h])]at G3;rw[hF,G3,Bool.false_and,Bool.false_and]
    ·rw[if_neg (by simp[h];omega)]at G3;exact⟨by omega,by simp -dsimp only[go_sem,seval,hw],n+x.steps.length,by omega,by omega,by simp -dsimp only[go_sem,seval],G3⟩
  ·have:i=p.threads.length:=by omega
   subst this;rw[List.drop_length,zAS]at G3;rw[G3,Bool.true_and]at hF;clear h4 hw h3 G3;refine zaq 162259276824490996908708365074500 p.modules.length (fun i f=>(f 6).v=vi i/\p.modules.all zl9=(p.modules.drop i).all zl9) rfl rfl ⟨by simp -dsimp only[go_sem,seval],rfl⟩ ?_;rintro i f u kk bb hi ⟨h6,Aa⟩;have hw:=zag i (by omega);simp -dsimp only[go_sem,seval,h6];refine zw1 (fun h=> ?_) (fun h=> ?_)<;>(try rw[h])<;>(try simp only[zab]at h)<;>(try simp -dsimp only[go_sem,seval,h6])
   ·obtain⟨m,hm,_⟩:=zad ‹i<p.modules.length›;have MR:=zbO m.rely 60 (by omega);have Jv:=zbO m.guar 60 (by omega);have Bs:zl9 m=false->false=zBT p:=fun h0=>by rw[hF,Aa,zaz hm h0];rfl
    simp -dsimp only[go_sem,seval,h6,hm,MR];refine zw1 (fun h=> ?_) (fun h=> ?_)<;>(try rw[h])<;>(try simp only[zab]at h)<;>(try simp -dsimp only[go_sem,seval,h6,hm,Jv])
    ·exact Bs (by simp[zl9,zc9];omega)
    ·have e1:(m.rely.size:Int)<=60:=by assumption
     refine zw1 (fun h=> ?_) (fun h=> ?_)<;>(try rw[h])<;>(try simp only[zab]at h)<;>(try simp -dsimp only[go_sem,seval,h6,hm])
     ·exact Bs (by simp[zl9,zc9];omega)
     ·have e2:(m.guar.size:Int)<=60:=by assumption
      refine zw1 (fun h=> ?_) (fun h=> ?_)<;>(try rw[h])<;>(try simp only[zab]at h)<;>(try simp -dsimp only[go_sem,seval,h6])
      ·exact Bs (by simp[zl9,zc9];omega)
      ·refine⟨by omega,by simp -dsimp only[go_sem,seval,hw],?_⟩;rw[Aa,zaA hm (by simp[zl9,zc9];omega)]
   ·have:i=p.modules.length:=by omega
    subst this;rw[zaQ]at Aa;rw[Aa,Bool.true_and]at hF;clear h6 hw Aa;refine zaq 5316749723862834278251836663111090308 p.locks.length (fun i f=>(f 7).v=vi i/\zBT p=(p.locks.drop i).all fun l=>zc9 l.inv) rfl rfl ⟨by simp -dsimp only[go_sem,seval],hF⟩ ?_;rintro i f u kk bb hi ⟨h7,Aa⟩;have hw:=zag i (by omega);simp -dsimp only[go_sem,seval,h7];refine zw1 (fun h=> ?_) (fun h=> ?_)<;>(try rw[h])<;>(try simp only[zab]at h)<;>(try simp -dsimp only[go_sem,seval,h7])
    ·obtain⟨l,hl,_⟩:=zad ‹i<p.locks.length›;have MR:=zbO l.inv 60 (by omega);simp -dsimp only[go_sem,seval,h7,hl,MR];refine zw1 (fun h=> ?_) (fun h=> ?_)<;>(try rw[h])<;>(try simp only[zab]at h)<;>(try simp -dsimp only[go_sem,seval,h7])
     ·rw[Aa,zaz hl (by simp[zc9];omega)]
     ·refine⟨by omega,by simp -dsimp only[go_sem,seval,hw],?_⟩;rw[Aa,zaA hl (by simp[zc9];omega)]
    ·have:i=p.locks.length:=by omega
     subst this;rw[Aa,zaQ]
 ·have hF:zBT p=false:=by
   cases h:zBT p
   ·rfl
   ·exfalso;simp only[zBT,zF,decide_eq_true_eq]at h;omega
  rw[hF]
  repeat'(refine zw1 (fun h=> ?_) (fun h=> ?_)<;>(try rw[h])<;>(try simp only[zab]at h)<;>(try simp -dsimp only[go_sem,seval]))
  all_goals(exfalso;omega)
structure Config.sane (c:Config):Prop where
 mem:c.mem.length<2^48
 at_:c.at_.length<2^48
 buf:c.buf.length<2^48
theorem zlw (p:Prog) (hf:zw6 p=true) (c:Config) (hc:c.sane):Den Γ G 43 [(.agg [.t (.sl ((p).cells.map (Cell.enc))),.t (.sl ((p).modules.map (Contract.enc))),.t (.sl ((p).locks.map (Lock.enc))),.t (.sl ((p).threads.map (Thread.enc)))]),(.agg [.t (ints (c).mem),.t (ints (c).at_),.t (.sl ((c).buf.map (fun b=>[.sl (b.map Entry.enc)])))])]=some (vb (isM p c)):=by
 (refine zw3 Γ43 rfl ?_;dsimp only[f43])
 obtain⟨CZ,C2,Nh⟩:=hc;simp -dsimp only[go_sem,seval]
 by_cases hl:(c.mem.length:Int)=p.cells.length/\(c.at_.length:Int)=p.threads.length/\(c.buf.length:Int)=p.threads.length
 ·obtain⟨l1,l2,l3⟩:=hl;have l1':decide (¬(c.mem.length:Int)=p.cells.length)=false:=by simp[l1]
  have l2':decide (¬(c.at_.length:Int)=p.threads.length)=false:=by simp[l2]
  have l3':decide (¬(c.buf.length:Int)=p.threads.length)=false:=by simp[l3]
  have hF:isM p c=((c.mem.zip p.cells).all zbk&&((c.at_.zip p.threads).all zdw&&c.buf.all List.isEmpty)):=by
   have e1:c.mem.length=p.cells.length:=by omega
   have e2:c.at_.length=p.threads.length:=by omega
   have e3:c.buf.length=p.threads.length:=by omega
   simp[isM,zzP,e1,e2,e3,Bool.and_assoc]
  have z1:(c.mem.zip p.cells).length=c.mem.length:=by rw[List.length_zip];omega
  have z2:(c.at_.zip p.threads).length=c.at_.length:=by rw[List.length_zip];omega
  simp -dsimp only[go_sem,seval,l1',l2',l3'];refine zaq 144114913197949040 c.mem.length (fun i f=>(f 38).v=vi i/\(c.mem.zip p.cells).all zbk=((c.mem.zip p.cells).drop i).all zbk) rfl rfl ⟨by simp -dsimp only[go_sem,seval],rfl⟩ ?_;rintro i f u kk bb hi ⟨Le,Aa⟩;have hw:=zag i (by omega);simp -dsimp only[go_sem,seval,Le];refine zw1 (fun h=> ?_) (fun h=> ?_)<;>(try rw[h])<;>(try simp only[zab]at h)<;>(try simp -dsimp only[go_sem,seval,Le])
  ·obtain⟨v,hv,_⟩:=zad ‹i<c.mem.length›;obtain⟨x,hx,Ct⟩:=zad (show i<p.cells.length by omega);obtain⟨w1,w2,_⟩:=zyB hf Ct;have Bj:=zeJ (w:=x.w) (by omega);have FA: ¬x.w<0:=by omega
   have hz:=zz4 hv hx;simp -dsimp only[go_sem,seval,Le,hv,hx]
   repeat'(refine zw1 (fun h=> ?_) (fun h=> ?_)<;>(try rw[h])<;>(try simp only[zab]at h)<;>(try simp -dsimp only[go_sem,seval,Le,hv,hx,Bj,FA]))
   all_goals first
    | (rw[hF,Aa,zaz hz (by simp only[zbk,Bool.and_eq_false_iff,decide_eq_false_iff_not];omega)];simp;done)
    | (refine⟨by omega,by simp -dsimp only[go_sem,seval,hw],?_⟩
       rw[Aa,zaA hz (by simp only[zbk,zF,decide_eq_true_eq];omega)])
  ·have:i=c.mem.length:=by omega
   subst this;have hz:=zaQ zbk (c.mem.zip p.cells);rw[z1]at hz;rw[hz]at Aa;rw[Aa,Bool.true_and]at hF;clear Aa Le hw;refine zaq 158456325027375753682481054608 c.at_.length (fun i f=>(f 60).v=vi i/\((c.at_.zip p.threads).all zdw&&c.buf.all List.isEmpty)=(((c.at_.zip p.threads).drop i).all zdw&&(c.buf.drop i).all List.isEmpty)) rfl rfl ⟨by simp -dsimp only[go_sem,seval],rfl⟩ ?_;rintro i f u kk bb hi ⟨HG,Aa⟩;have hw:=zag i (by omega);simp -dsimp only[go_sem,seval,HG];refine zw1 (fun h=> ?_) (fun h=> ?_)<;>(try rw[h])<;>(try simp only[zab]at h)<;>(try simp -dsimp only[go_sem,seval,HG])
   ·obtain⟨v,hv,_⟩:=zad ‹i<c.at_.length›;obtain⟨x,hx,Ct⟩:=zad (show i<p.threads.length by omega);obtain⟨b,IY,_⟩:=zad (show i<c.buf.length by omega);have hz:=zz4 hv hx;cases Bq:zdw (v,x)
    ·rw[hF,Aa,zaz hz Bq,Bool.false_and];simp -dsimp only[go_sem,seval,HG,hv,hx]
     repeat'(refine zw1 (fun h=> ?_) (fun h=> ?_)<;>(try rw[h])<;>(try simp only[zab]at h)<;>(try simp -dsimp only[go_sem,seval,HG,hv,hx,IY]))
     all_goals(exfalso;simp only[zdw,Bool.and_eq_false_iff,decide_eq_false_iff_not,Bool.not_eq_false',zF,decide_eq_true_eq,Bool.not_eq_true']at Bq;simp_all;try omega)
    ·have Hd:=Bq;simp only[zdw,zF,decide_eq_true_eq,Bool.not_eq_true',Bool.and_eq_false_iff,decide_eq_false_iff_not,Bool.not_eq_false']at Hd;obtain⟨⟨a1,a2⟩,a3⟩:=Hd;have b1: ¬v< -1:=by omega
     have b2: ¬v>=x.points:=by omega
     cases b with
     | nil=>
       simp -dsimp only[go_sem,seval,HG,hv,hx,b1,b2,IY]
       repeat'(refine zw1 (fun h=> ?_) (fun h=> ?_)<;>(try rw[h])<;>(try simp only[zab]at h)<;>(try simp -dsimp only[go_sem,seval,HG,hv,hx,IY]))
       all_goals first
        | (exfalso;simp_all;done)
        | (refine⟨by omega,by simp -dsimp only[go_sem,seval,hw],?_⟩
           rw[Aa,zaA hz Bq,zaA IY rfl])
     | cons e r=>
       have DP:(((e::r).length:Nat):Int)>0:=by show((r.length+1:Nat):Int)>0;omega
       rw[hF,Aa,zaz IY rfl,Bool.and_false];simp -dsimp only[go_sem,seval,HG,hv,hx,b1,b2,IY,DP]
       repeat'(refine zw1 (fun h=> ?_) (fun h=> ?_)<;>(try rw[h])<;>(try simp only[zab]at h)<;>(try simp -dsimp only[go_sem,seval,HG,hv,hx,IY,DP]))
       all_goals(exfalso;simp_all;try omega)
   ·have:i=c.at_.length:=by omega
    subst this;have hz:=zaQ zdw (c.at_.zip p.threads);rw[z2]at hz;have Hk:=zaQ List.isEmpty c.buf;rw[show c.buf.length=c.at_.length by omega]at Hk;rw[hF,Aa,hz,Hk];rfl
 ·have hF:isM p c=false:=by
   by_cases e1:c.mem.length=p.cells.length
   ·by_cases e2:c.at_.length=p.threads.length
    ·have e3: ¬c.buf.length=p.threads.length:=by omega
     simp[isM,e3]
    ·simp[isM,zzP,e2]
   ·simp[isM,zzP,e1]
  rw[hF]
  repeat'(refine zw1 (fun h=> ?_) (fun h=> ?_)<;>(try rw[h])<;>(try simp only[zab]at h)<;>(try simp -dsimp only[go_sem,seval]))
  all_goals(exfalso;omega)
theorem zeD (l:List Int) (hl:l.length<2^31) (H0:Nat->Option O) (n0:Nat):
 ∃r h' n',DenR Γ G 32 [.t (ints l)] H0 n0=some (r,h',n')/\za0 h' n' r 1 (zw5 l)/\n0<=n'/\(∀k,k<n0->h' k=H0 k/\zdc r k):=by
 (refine zxC Γ32 rfl ?_;dsimp only[f32])
 simp -dsimp only[go_sem,seval];refine zap 262136 l.length (fun i f h x=>(f 4).v=vi i/\za0 h x (f 3).v 1 (zw5 (l.take i))/\n0<=x/\(∀k,k<n0->h k=H0 k/\zdc (f 3).v k)) rfl ⟨by simp -dsimp only[go_sem,seval],.inl ⟨by simp -dsimp only[go_sem,seval],rfl⟩,by simp -dsimp only[go_sem,seval];omega,fun k hk=>⟨rfl,by simp -dsimp only[go_sem,seval];intro i n h;cases h⟩⟩ ?_;rintro i f u H x bs hi ⟨h4,Ab,BV,CS⟩;have hw:=zag i (by omega);simp -dsimp only[go_sem,seval,h4];refine zw1 (fun h=> ?_) (fun h=> ?_)<;>(try rw[h])<;>(try simp only[zab]at h)<;>(try simp -dsimp only[go_sem,seval,h4])
 ·obtain⟨a,ha,_⟩:=zad ‹i<l.length›;have v1:=Ab.valOf;have v2:=Ab.r2;have v3:=Ab.r3;simp -dsimp only[go_sem,seval,h4,ha,v1,v2,v3];refine zaM (Ab.upd (by omega) _) (by omega) (by rw[zw2];simp;omega) (by decide) rfl (zxw _) ?_;intro v hp hO Be As;have w1:=hO.valOf;rw[show zw5 (l.take i)++[[V.t (ti a)]]=zw5 (l.take (i+1))from by rw[zac ha,zaV]]at hO;simp -dsimp only[go_sem,seval,w1,h4];refine⟨by omega,by simp -dsimp only[go_sem,seval,hw],by simp -dsimp only[go_sem,seval];exact hO.le (by omega),by simp -dsimp only[go_sem,seval];omega,fun k hk=>⟨?_,by simp -dsimp only[go_sem,seval];exact Be k (by omega)⟩⟩;simp -dsimp only[go_sem,seval];rw[As k (by omega) (CS k hk).2,zae,if_neg (by omega)];exact(CS k hk).1
 ·have:i=l.length:=by omega
  subst this;rw[List.take_length]at Ab;have v1:=Ab.valOf;have v5:=Ab.resVal;simp only[Rg.resVal]at v5;simp -dsimp only[go_sem,seval,v1,v5];exact⟨by simp -dsimp only[go_sem,seval];exact Ab.le (by omega),by simp -dsimp only[go_sem,seval];omega,fun k hk=>by simp -dsimp only[go_sem,seval];exact CS k hk⟩
end Rg
end
