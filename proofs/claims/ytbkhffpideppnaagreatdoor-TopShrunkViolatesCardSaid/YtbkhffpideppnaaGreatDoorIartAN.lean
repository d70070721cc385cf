/- Part of the proof of laws of relyguardtop. No condition. -/
import Derived.Test.YtbkhffpideppnaaGreatDoorIartAM
set_option linter.unusedSimpArgs false
set_option linter.unusedVariables false
section
namespace Rg
open Go
theorem zoU (p:Prog):IsF (.fa 100 [.sl (p.cells.map Cell.enc),.sl (p.modules.map Contract.enc),.sl (p.locks.map Lock.enc),.sl (p.threads.map Thread.enc)]) (zar p (-1)):=
 zyI (by simp[T.norm]) (fun n=>zdY p n)
theorem znK (p:Prog) (c:Int):zjW p (-1) c=zar p (-1) c:=by simp[zjW]
theorem zn2 (p:Prog):ztz p true (-1)=zar p (-1):=by funext c;simp[ztz,znK]
theorem zi4 (p:Prog) (t:Int):ztz p true t=zjW p t:=by funext c;simp[ztz]
theorem zlv (p:Prog) (t:Int):ztz p false t=zar p t:=by funext c;simp[ztz]
theorem zjK (p:Prog) (e:Expr) (pair:Bool):Den Γ G 99 [(zP p),(.agg [.t (ti (e).op),.t (ti (e).w),.t (ti (e).n),.t (.sl ((e).kids.map (Expr.enc)))]),vb pair,.t (.fa 100 [.sl (p.cells.map Cell.enc),.sl (p.modules.map Contract.enc),.sl (p.locks.map Lock.enc),.sl (p.threads.map Thread.enc)])]=some (vb (zaR p e pair (-1))):=by
 rw[zpS p e pair _ _ (zoU p),zaR,zbE,zn2]
theorem zmQ (p:Prog) (hs:p.sane):Den Γ G 81 [(zP p)]=some (vi (zbm p)):=by
 (refine zag Γ81 rfl ?_;dsimp only[f81])
 simp -dsimp only[go_sem,seval];have He:=hs.modules;refine zaq 4611686018427385892 p.modules.length (fun i f h x=>(f 11).v=vi i/\h 2=some (.map (zjR ((p.modules.take i).map Contract.name)))/\zbm p=(zco (zdH p) i (p.modules.drop i)).1) rfl ⟨by simp -dsimp only[go_sem,seval],by simp -dsimp only[go_sem,seval];rfl,rfl⟩ ?_;rintro i f u hh x bs hi ⟨h11,Bk,hm⟩;have hw:=zan i (by omega);simp -dsimp only[go_sem,seval,h11];refine zac (fun h=> ?_) (fun h=> ?_)<;>(try rw[h])<;>(try simp only[zah]at h)<;>(try simp -dsimp only[go_sem,seval,h11])
 ·obtain⟨c,hc,BI⟩:=zai ‹i<p.modules.length›;obtain⟨_,_,s3⟩:=hs.mname c BI
  have Ai: ∀k:Int,k≠0->zdH p i c=k->zbm p=k:=fun k hk h0=>by
   rw[hm,zcC hc (by rw[h0];exact hk)];exact h0
  have hl:=zf2 c.name;have C7:=zf2 c.owner;simp -dsimp only[go_sem,seval,h11,hc,hl];refine zac (fun h=> ?_) (fun h=> ?_)<;>(try rw[h])<;>(try simp only[zah]at h)<;>(try simp -dsimp only[go_sem,seval,h11,C7])
  ·rw[Ai 1 (by decide) (by simp[zdH,h])]
  ·have e1:zbA c.name=true:=by assumption
   refine zac (fun h=> ?_) (fun h=> ?_)<;>(try rw[h])<;>(try simp only[zah]at h)<;>(try simp -dsimp only[go_sem,seval,h11])
   ·rw[Ai 1 (by decide) (by simp[zdH,h])]
   ·have e2:zbA c.owner=true:=by assumption
    have Ct:=fun n=>zmg 2 c.name ((p.modules.take i).map Contract.name) hh n Bk
    have A9:((p.modules.take i).map Contract.name).any (fun d=>d.toList==c.name.toList)=(p.modules.take i).any (fun d=>d.name.toList==c.name.toList):=by rw[List.any_map];rfl
    refine zas (Ct _) ?_;rintro r h' n' ⟨rfl,Ah⟩;rw[A9]at Ah;simp -dsimp only[go_sem,seval,h11,A9];have Ca:=zoB c.rely;have Hw:=zjK p c.rely true;have HI:=zjK p c.guar true;refine zac (fun h=> ?_) (fun h=> ?_)<;>(try rw[h])<;>(try simp only[zah]at h)<;>(try simp -dsimp only[go_sem,seval,h11,Ca])
    ·rw[Ai 41 (by decide) (by rw[zdH,if_neg (by simp[e1,e2]),if_pos h])]
    ·have Fk:zdH p i c=if(!c.rely.absent&& !zaR p c.rely true (-1)) || !zaR p c.guar true (-1)then 60 else if !zc0 c.frame || !c.frame.all (zar p (-1))then 1 else 0:=by
      rw[zdH,if_neg (by simp[e1,e2]),if_neg (by simp[h])]
     have AF:=Ah h;have Et:=zgi c.frame (by omega);have BF:=zeC _ _ (zoU p) c.frame (by omega)
     repeat'(refine zac (fun h=> ?_) (fun h=> ?_)<;>(try rw[h])<;>(try simp only[zah]at h)<;>(try simp -dsimp only[go_sem,seval,h11,Hw,HI,Et,BF]))
     all_goals first
      | (rw[Ai 60 (by decide) (by rw[Fk];simp[*])];done)
      | (rw[Ai 1 (by decide) (by rw[Fk];simp[*])];done)
      | (refine⟨by omega,by simp -dsimp only[go_sem,seval,hw],?_,?_⟩
         ·simp -dsimp only[go_sem,seval,AF];rw[zaf hc];simp
         ·rw[hm,zc6 hc (by rw[Fk];simp[*])])
 ·have:i=p.modules.length:=by omega
  subst this;rw[hm,zel]
theorem ziZ {p:Prog} {t c:Int} (h:zar p t c=true):0<=c/\ ∃x,p.cells[c.toNat]? =some x/\x.thread=t:=by
 unfold zar at h;simp only[zF,decide_eq_true_eq]at h;refine⟨h.1,?_⟩;rcases hx:p.cells[c.toNat]? with _ | x
 ·rw[hx]at h;simp at h
 ·rw[hx]at h;exact⟨x,rfl,by simpa using h.2⟩
theorem zqt (p:Prog) (hs:p.sane):Den Γ G 82 [(zP p)]=some (vi (zcT p)):=by
 (refine zag Γ82 rfl ?_;dsimp only[f82])
 simp -dsimp only[go_sem,seval];have He:=hs.locks;refine zaq 9444732965739290419428 p.locks.length (fun i f h x=>(f 13).v=vi i/\h 2=some (.map (ztX ((p.locks.take i).map Lock.cell)))/\zcT p=(zco (zcM p) i (p.locks.drop i)).1) rfl ⟨by simp -dsimp only[go_sem,seval],by simp -dsimp only[go_sem,seval];rfl,rfl⟩ ?_;rintro i f u hh x bs hi ⟨Du,Bk,hm⟩;have hw:=zan i (by omega);simp -dsimp only[go_sem,seval,Du];refine zac (fun h=> ?_) (fun h=> ?_)<;>(try rw[h])<;>(try simp only[zah]at h)<;>(try simp -dsimp only[go_sem,seval,Du])
 ·obtain⟨l,hl,Hy⟩:=zai ‹i<p.locks.length›
  have Ai: ∀k:Int,k≠0->zcM p i l=k->zcT p=k:=fun k hk h0=>by
   rw[hm,zcC hl (by rw[h0];exact hk)];exact h0
  have Bo:=zdY p l.cell;have hb:=zbR l.module p.modules.length;have ht:=zjK p l.inv false;have A9:((p.locks.take i).map Lock.cell).any (fun d=>decide (d=l.cell))=(p.locks.take i).any (fun d=>decide (d.cell=l.cell)):=by rw[List.any_map];rfl
  have BJ:=zw1 l.cell ((p.locks.take i).map Lock.cell);rw[A9]at BJ;simp -dsimp only[go_sem,seval,Du,hl,Bo];refine zac (fun h=> ?_) (fun h=> ?_)<;>(try rw[h])<;>(try simp only[zah]at h)<;>(try simp -dsimp only[go_sem,seval,Du])
  ·rw[Ai 1 (by decide) (by simp[zcM,h])]
  ·have o1:zar p (-1) l.cell=true:=by assumption
   obtain⟨d0,y,hy,_⟩:=ziZ o1;have Dr:=zaZ (g:=fun x=>decide (x.w=1)) hy;have CG:=zaZ (g:=Cell.ghost) hy;simp -dsimp only[go_sem,seval,Du,hl,d0,hy];refine zac (fun h=> ?_) (fun h=> ?_)<;>(try rw[h])<;>(try simp only[zah]at h)<;>(try simp -dsimp only[go_sem,seval,Du,hl,d0,hy])
   ·rw[Ai 1 (by decide) (by rw[zcM,if_pos (by rw[Dr];simp[h])])]
   ·have e1:y.w=1:=by assumption
    refine zac (fun h=> ?_) (fun h=> ?_)<;>(try rw[h])<;>(try simp only[zah]at h)<;>(try simp -dsimp only[go_sem,seval,Du,hl,Bk,BJ,Option.getD_none,Option.getD_some,Option.isSome_none,zG,if_true,if_false])
    ·rw[Ai 1 (by decide) (by rw[zcM,if_pos (by rw[CG];simp[h])])]
    ·have e2:y.ghost=false:=by assumption
     have A5:zcM p i l=if !inR l.module p.modules.length then 1 else if(p.locks.take i).any (fun d=>decide (d.cell=l.cell))then 1 else if !zaR p l.inv false (-1)then 60 else 0:=by
      rw[zcM,o1,Dr,CG,e1,e2];simp
     cases ha:(p.locks.take i).any (fun d=>decide (d.cell=l.cell))
     ·rw[ha]at BJ A9 A5;have Jj:=zBs l.cell _ A9;simp -dsimp only[go_sem,seval,Du,hl,Bk,BJ,Option.getD_none,Option.getD_some,Option.isSome_none,zG,if_true,if_false,hb];refine zac (fun h=> ?_) (fun h=> ?_)<;>(try rw[h])<;>(try simp only[zah]at h)<;>(try simp -dsimp only[go_sem,seval,Du,hl,Bk,Jj,ht])
      ·rw[Ai 1 (by decide) (by rw[A5];simp[h])]
      ·have e3:inR l.module p.modules.length=true:=by assumption
       refine zac (fun h=> ?_) (fun h=> ?_)<;>(try rw[h])<;>(try simp only[zah]at h)<;>(try simp -dsimp only[go_sem,seval,Du])
       ·rw[Ai 60 (by decide) (by rw[A5];simp[h,e3])]
       ·refine⟨by omega,by simp -dsimp only[go_sem,seval,hw],?_,?_⟩
        ·simp -dsimp only[go_sem,seval];rw[zaf hl];simp
        ·rw[hm,zc6 hl (by rw[A5];simp[h,e3])]
     ·rw[ha]at BJ A5;simp -dsimp only[go_sem,seval,Du,hl,Bk,BJ,Option.getD_none,Option.getD_some,Option.isSome_none,zG,if_true,if_false];rw[Ai 1 (by decide) (by rw[A5];simp)]
 ·have:i=p.locks.length:=by omega
  subst this;rw[hm,zel]
end Rg
end
section
namespace Rg
open Go
def zB3 (F:T) (P:Int->Bool) (D:Int->Prop):Prop:=T.norm F=F/\ ∃g a b,zfC (.t F)=some (g,a,b)/\(∀(h:Nat->Option O) (n:Int),(a++[vi n]++b).mapM (toT1 h)=some (a++[vi n]++b))/\
 (∀n:Int,(a++[vi n]++b).all V.tree=true)/\ ∀n:Int,D n->Den Γ G g (a++[vi n]++b)=some (vb (P n))
theorem IsF.on {F:T} {P:Int->Bool} (h:IsF F P):zB3 F P (fun _=>True):=by
 obtain⟨h1,g,a,b,h2,h3,h4,h5⟩:=h;exact⟨h1,g,a,b,h2,h3,h4,fun n _=>h5 n⟩
theorem zgq (set:List Assign) (F:T) (P:Int->Bool) (D:Int->Prop) (hP:zB3 F P D) (hD: ∀a∈set,D a.cell) (hl:set.length<2^48):
 Den Γ G 162 [.t (.sl (set.map Assign.enc)),.t F]=some (vb (set.all fun a=>P a.cell)):=by
 (refine zag Γ162 rfl ?_;dsimp only[f162])
 obtain⟨_,g,a,b,hf,hm,ha,hd⟩:=hP;have hK:=zsE hf;simp -dsimp only[go_sem,seval];refine zaT 523856 set.length (fun i f=>(f 9).v=vi i/\(set.all fun a=>P a.cell)=(set.drop i).all fun a=>P a.cell) rfl rfl ⟨by simp -dsimp only[go_sem,seval],rfl⟩ ?_;rintro i f u kk bb hi ⟨h9,Aa⟩;have hw:=zan i (by omega);simp -dsimp only[go_sem,seval,h9];refine zac (fun h=> ?_) (fun h=> ?_)<;>(try rw[h])<;>(try simp only[zah]at h)<;>(try simp -dsimp only[go_sem,seval,h9])
 ·obtain⟨x,hx,C1⟩:=zai ‹i<set.length›;have QF:=hd x.cell (hD x C1);simp -dsimp only[go_sem,seval,h9,hx,hK,hm,ha,QF];refine zac (fun h=> ?_) (fun h=> ?_)<;>(try rw[h])<;>(try simp only[zah]at h)<;>(try simp -dsimp only[go_sem,seval,h9])
  ·rw[Aa,za6 hx h]
  ·refine⟨by omega,by simp -dsimp only[go_sem,seval,hw],?_⟩;rw[Aa,za7 hx h]
 ·have:i=set.length:=by omega
  subst this;rw[Aa,zbB]
theorem zgo (s:Step) (F:T) (P:Int->Bool) (hP:IsF F P) (hl:s.set.length<2^48):
 Den Γ G 161 [(zS s),.t F]=some (vb (((s.guard.sup 3).all P&&(s.guard.sup 2).all P)&&s.set.all fun a=>(a.to.sup 3).all P&&(a.to.sup 2).all P)):=by
 (refine zag Γ161 rfl ?_;dsimp only[f161])
 have hn:=hP.1;simp only[T.norm]at hn;have hg:=zft s.guard F P hP;simp -dsimp only[go_sem,seval,hg,hn];refine zac (fun h=> ?_) (fun h=> ?_)<;>(try rw[h])<;>(try simp only[zah]at h)<;>(try simp -dsimp only[go_sem,seval])
 ·rw[h];simp
 ·rw[h,Bool.true_and];refine zaT 33521744 s.set.length (fun i f=>(f 15).v=vi i/\(s.set.all fun a=>(a.to.sup 3).all P&&(a.to.sup 2).all P)=(s.set.drop i).all fun a=>(a.to.sup 3).all P&&(a.to.sup 2).all P) rfl rfl ⟨by simp -dsimp only[go_sem,seval],rfl⟩ ?_;rintro i f u kk bb hi ⟨Cy,Aa⟩;have hw:=zan i (by omega);simp -dsimp only[go_sem,seval,Cy];refine zac (fun h=> ?_) (fun h=> ?_)<;>(try rw[h])<;>(try simp only[zah]at h)<;>(try simp -dsimp only[go_sem,seval,Cy])
  ·obtain⟨x,hx,C1⟩:=zai ‹i<s.set.length›;have Qj:=zft x.to F P hP;simp -dsimp only[go_sem,seval,Cy,hx,Qj,hn];refine zac (fun h=> ?_) (fun h=> ?_)<;>(try rw[h])<;>(try simp only[zah]at h)<;>(try simp -dsimp only[go_sem,seval,Cy])
   ·rw[Aa,za6 hx h]
   ·refine⟨by omega,by simp -dsimp only[go_sem,seval,hw],?_⟩;rw[Aa,za7 hx h]
  ·have:i=s.set.length:=by omega
   subst this;rw[Aa,zbB]
theorem zpU (s:Step):Den Γ G 165 [(zS s)]=some (vb (s.guard.one&&decide (s.set=[]))):=by
 (refine zag Γ165 rfl ?_;dsimp only[f165])
 have h1:=zwI s.guard;simp -dsimp only[go_sem,seval,h1];refine zac (fun h=> ?_) (fun h=> ?_)<;>(try rw[h])<;>(try simp only[zah]at h)<;>(try simp -dsimp only[go_sem,seval])
 ·rcases s.set with _ | ⟨a,r⟩
  ·simp
  ·simp;omega
 ·simp
theorem zzJ (p:Prog) (t:Int):IsF (.fn 146 [] [zbx p,.ip [ti t]]) (zar p t):=(zBt p t).isF
theorem ztY (p:Prog) (t:Int):IsF (.fn 134 [] [zbx p,.ip [.fn 146 [] [zbx p,.ip [ti t]]]]) (zjW p t):=(zmb p t).isF
theorem zlD (p:Prog) (t:Int) (s:Step) (hl:s.set.length<2^48):Den Γ G 147 [(.agg [.t (.sl ((p).cells.map (Cell.enc))),.t (.sl ((p).modules.map (Contract.enc))),.t (.sl ((p).locks.map (Lock.enc))),.t (.sl ((p).threads.map (Thread.enc)))]),vi t,(.agg [.t (ti (s).kind),.t (ti (s).fr),.t (ti (s).to),.t (ti ((s).guard).op),.t (ti ((s).guard).w),.t (ti ((s).guard).n),.t (.sl (((s).guard).kids.map Expr.enc)),.t (.sl ((s).set.map Assign.enc)),.t (tb (s).release),.t (ti (s).target),.t (ti (s).module)])]=some (vb (zbz p s false t&&s.set.all fun a=>zar p t a.cell)):=by
 (refine zag Γ147 rfl ?_;dsimp only[f147])
 have h1:=zlp p t
 have h2:Den Γ G 161 [(zS s),.t (.fn 146 [] [zbx p,.ip [ti t]])]=some (vb (zbz p s false t)):=by
  rw[zgo s _ _ (zzJ p t) hl];simp only[zbz,zbE,zlv]
 have h3:=zgq s.set _ _ _ (zzJ p t).on (fun _ _=>trivial) hl;simp -dsimp only[go_sem,seval,h1,h2];refine zac (fun h=> ?_) (fun h=> ?_)<;>(try rw[h])<;>(try simp only[zah]at h)<;>(try simp -dsimp only[go_sem,seval,h3])
 ·simp
theorem zj4 (p:Prog) (t:Int) (s:Step) (hl:s.set.length<2^48):Den Γ G 150 [(.agg [.t (.sl ((p).cells.map (Cell.enc))),.t (.sl ((p).modules.map (Contract.enc))),.t (.sl ((p).locks.map (Lock.enc))),.t (.sl ((p).threads.map (Thread.enc)))]),vi t,(.agg [.t (ti (s).kind),.t (ti (s).fr),.t (ti (s).to),.t (ti ((s).guard).op),.t (ti ((s).guard).w),.t (ti ((s).guard).n),.t (.sl (((s).guard).kids.map Expr.enc)),.t (.sl ((s).set.map Assign.enc)),.t (tb (s).release),.t (ti (s).target),.t (ti (s).module)])]=some (vb (zbz p s true t&&s.set.all fun a=>zjW p t a.cell)):=by
 (refine zag Γ150 rfl ?_;dsimp only[f150])
 have h1:=zgn p t
 have h2:Den Γ G 161 [(zS s),.t (.fn 134 [] [zbx p,.ip [.fn 146 [] [zbx p,.ip [ti t]]]])]=some (vb (zbz p s true t)):=by
  rw[zgo s _ _ (ztY p t) hl];simp only[zbz,zbE,zi4]
 have h3:=zgq s.set _ _ _ (ztY p t).on (fun _ _=>trivial) hl;simp -dsimp only[go_sem,seval,h1,h2];refine zac (fun h=> ?_) (fun h=> ?_)<;>(try rw[h])<;>(try simp only[zah]at h)<;>(try simp -dsimp only[go_sem,seval,h3])
 ·simp
theorem zlE (p:Prog) (t:Int) (s:Step):Den Γ G 151 [(.agg [.t (.sl ((p).cells.map (Cell.enc))),.t (.sl ((p).modules.map (Contract.enc))),.t (.sl ((p).locks.map (Lock.enc))),.t (.sl ((p).threads.map (Thread.enc)))]),vi t,(.agg [.t (ti (s).kind),.t (ti (s).fr),.t (ti (s).to),.t (ti ((s).guard).op),.t (ti ((s).guard).w),.t (ti ((s).guard).n),.t (.sl (((s).guard).kids.map Expr.enc)),.t (.sl ((s).set.map Assign.enc)),.t (tb (s).release),.t (ti (s).target),.t (ti (s).module)])]=some (vb (s.guard.one&&decide (s.set=[]))):=by
 (refine zag Γ151 rfl ?_;dsimp only[f151])
 have h1:=zpU s;simp -dsimp only[go_sem,seval,h1]
theorem zhX (p:Prog) (t:Int) (s:Step):Den Γ G 153 [(.agg [.t (.sl ((p).cells.map (Cell.enc))),.t (.sl ((p).modules.map (Contract.enc))),.t (.sl ((p).locks.map (Lock.enc))),.t (.sl ((p).threads.map (Thread.enc)))]),vi t,(.agg [.t (ti (s).kind),.t (ti (s).fr),.t (ti (s).to),.t (ti ((s).guard).op),.t (ti ((s).guard).w),.t (ti ((s).guard).n),.t (.sl (((s).guard).kids.map Expr.enc)),.t (.sl ((s).set.map Assign.enc)),.t (tb (s).release),.t (ti (s).target),.t (ti (s).module)])]=some (vb (zdd p t s)):=by
 (refine zag Γ153 rfl ?_;dsimp only[zJd])
 have h1:=zpU s;have h2:=zbR s.target p.threads.length;simp -dsimp only[go_sem,seval,h1];cases hb:(s.guard.one&&decide (s.set=[]))
 ·rw[hb]at h1;simp -dsimp only[go_sem,seval,h1];simp[zdd,hb]
 ·rw[hb]at h1;simp -dsimp only[go_sem,seval,h1];refine zac (fun h=> ?_) (fun h=> ?_)<;>(try rw[h])<;>(try simp only[zah]at h)<;>(try simp -dsimp only[go_sem,seval,h2])
  ·simp[zdd,hb,h]
  ·simp[zdd,hb,h]
theorem zlC (p:Prog) (t:Int) (s:Step):Den Γ G 152 [(.agg [.t (.sl ((p).cells.map (Cell.enc))),.t (.sl ((p).modules.map (Contract.enc))),.t (.sl ((p).locks.map (Lock.enc))),.t (.sl ((p).threads.map (Thread.enc)))]),vi t,(.agg [.t (ti (s).kind),.t (ti (s).fr),.t (ti (s).to),.t (ti ((s).guard).op),.t (ti ((s).guard).w),.t (ti ((s).guard).n),.t (.sl (((s).guard).kids.map Expr.enc)),.t (.sl ((s).set.map Assign.enc)),.t (tb (s).release),.t (ti (s).target),.t (ti (s).module)])]=some (vb (zdd p t s&&zf7 p s.target)):=by
 (refine zag Γ152 rfl ?_;dsimp only[zJe])
 have h1:=zhX p t s;simp -dsimp only[go_sem,seval,h1];cases hb:zdd p t s
 ·rw[hb]at h1;simp -dsimp only[go_sem,seval];simp
 ·have hr:inR s.target p.threads.length=true:=by
   simp only[zdd,zF]at hb;exact hb.2
  simp only[inR,decide_eq_true_eq]at hr;obtain⟨t0,t1⟩:=hr;obtain⟨y,hy⟩: ∃y,p.threads[s.target.toNat]? =some y:=⟨_,zI (by omega)⟩
  simp -dsimp only[go_sem,seval,t0,hy];simp[zf7,hy]
theorem zr3 (p:Prog) (t:Int) (e:Expr):Den Γ G 108 [(.agg [.t (ti (e).op),.t (ti (e).w),.t (ti (e).n),.t (.sl ((e).kids.map (Expr.enc)))]),.t (.fn 146 [] [zbx p,.ip [ti t]])]=some (vb (zbE p e false t)):=by
 rw[zft e _ _ (zzJ p t),zbE,zlv]
theorem zk3 (r:List Assign):((r.map Assign.enc).all fun x=>decide (x.length=5))=true:=by
 simp[Assign.enc,Expr.enc_eq]
theorem zpc (n:Nat):(((n+1:Nat):Int)-1).toNat=n:=by omega
theorem zoL {α β:Type} (f:α->β) (r:List α):List.take r.length (r.map f)=r.map f:=List.take_of_length_le (by simp)
theorem zm1 (p:Prog) (t:Int) (s:Step) (hl:s.set.length<2^48) (hr:zjN p s):Den Γ G 148 [(.agg [.t (.sl ((p).cells.map (Cell.enc))),.t (.sl ((p).modules.map (Contract.enc))),.t (.sl ((p).locks.map (Lock.enc))),.t (.sl ((p).threads.map (Thread.enc)))]),vi t,(.agg [.t (ti (s).kind),.t (ti (s).fr),.t (ti (s).to),.t (ti ((s).guard).op),.t (ti ((s).guard).w),.t (ti ((s).guard).n),.t (.sl (((s).guard).kids.map Expr.enc)),.t (.sl ((s).set.map Assign.enc)),.t (tb (s).release),.t (ti (s).target),.t (ti (s).module)])]=some (vb (zg1 p t s)):=by
 (refine zag Γ148 rfl ?_;dsimp only[f148])
 have h1:=zlp p t;have hg:=zr3 p t s.guard;rcases hs:s.set with _ | ⟨a,r⟩
 ·simp -dsimp only[go_sem,seval,h1,hs];simp[zg1,hs]
 ·have Az: ¬(((r.length+1:Nat):Int)=0):=by omega
  have A5:(1:Int)<=((r.length+1:Nat):Int):=by omega
  have hK:zg1 p t s=(zbE p s.guard false t&&zar p t a.cell&& !zby p a.cell Cell.ghost&&decide (a.to.op=2)&&zar p (-1) a.to.n&& !zby p a.to.n Cell.ghost&&
   r.all fun b=>zar p t b.cell&&zby p b.cell Cell.ghost&&zbE p b.to false t):=by rw[zg1,hs]
  have Cp:a∈s.set:=by rw[hs];simp
  obtain⟨d0,x,hx⟩:=zch (hr.2 a Cp).1;have ho:=zis p t a.cell;have L8:=zfA p a.cell x d0 hx;have o2:=zaZ (g:=Cell.ghost) hx;have Bo:=zdY p a.to.n;simp -dsimp only[go_sem,seval,h1,hs,Az,hg];refine zac (fun h=> ?_) (fun h=> ?_)<;>(try rw[h])<;>(try simp only[zah]at h)<;>(try simp -dsimp only[go_sem,seval,hs,ho,zbx])
  ·rw[hK,h];simp
  ·have e0:zbE p s.guard false t=true:=by assumption
   refine zac (fun h=> ?_) (fun h=> ?_)<;>(try rw[h])<;>(try simp only[zah]at h)<;>(try simp -dsimp only[go_sem,seval,L8,hs])
   ·rw[hK,h];simp
   ·have e1:zar p t a.cell=true:=by assumption
    refine zac (fun h=> ?_) (fun h=> ?_)<;>(try rw[h])<;>(try simp only[zah]at h)<;>(try simp -dsimp only[go_sem,seval,hs])
    ·rw[hK,o2,h];simp
    ·have e2:x.ghost=false:=by assumption
     refine zac (fun h=> ?_) (fun h=> ?_)<;>(try rw[h])<;>(try simp only[zah]at h)<;>(try simp -dsimp only[go_sem,seval,Bo])
     ·rw[hK];simp[h]
     ·have e3:a.to.op=2:=by assumption
      obtain⟨d1,y,hy⟩:=zch (zj7 (hr.2 a Cp).2 e3);have NU:=zfA p a.to.n y d1 hy;have q2:=zaZ (g:=Cell.ghost) hy;refine zac (fun h=> ?_) (fun h=> ?_)<;>(try rw[h])<;>(try simp only[zah]at h)<;>(try simp -dsimp only[go_sem,seval,NU])
      ·rw[hK,h];simp
      ·have e4:zar p (-1) a.to.n=true:=by assumption
       refine zac (fun h=> ?_) (fun h=> ?_)<;>(try rw[h])<;>(try simp only[zah]at h)<;>(try simp -dsimp only[go_sem,seval,hs,A5])
       ·rw[hK,q2,h];simp
       ·rw[o2,q2,e0,e1,e2,e4,h]at hK;simp only[e3,decide_true,Bool.not_false,Bool.and_true,Bool.true_and]at hK;have t1:=zk3 r;have t2:=zpc r.length;have t3:=zoL Assign.enc r;simp -dsimp only[go_sem,seval,t1,t2,t3,Int.le_refl];refine zaT 2475879930996807960121837632 r.length (fun j f'=>(f' 67).v=vi j/\zg1 p t s=(r.drop j).all fun b=>zar p t b.cell&&zby p b.cell Cell.ghost&&zbE p b.to false t) rfl rfl ⟨by simp -dsimp only[go_sem,seval],hK⟩ ?_;rintro j f' u' kk' bb' hj ⟨IJ,Aa⟩;have Aw:=zan j (by rw[hs]at hl;simp at hl;omega);simp -dsimp only[go_sem,seval,IJ];refine zac (fun h=> ?_) (fun h=> ?_)<;>(try rw[h])<;>(try simp only[zah]at h)<;>(try simp -dsimp only[go_sem,seval,IJ])
        ·obtain⟨b,hb,LN⟩:=zai ‹j<r.length›;obtain⟨d2,z,hz⟩:=zch (hr.2 b (by rw[hs];simp[LN])).1;have HQ:=zis p t b.cell;have Q9:=zfA p b.cell z d2 hz;have z2:=zaZ (g:=Cell.ghost) hz;have De:=zr3 p t b.to;simp only[zbx]at De;simp -dsimp only[go_sem,seval,IJ,hb,HQ,zbx]
         repeat'(refine zac (fun h=> ?_) (fun h=> ?_)<;>(try rw[h])<;>(try simp only[zah]at h)<;>(try simp -dsimp only[go_sem,seval,IJ,Q9,De,zbx]))
         all_goals first
          | (rw[Aa,za6 hb (by rw[z2];simp[*])];done)
          | (refine⟨by omega,by simp -dsimp only[go_sem,seval,Aw],?_⟩
             rw[Aa,za7 hb (by rw[z2];simp[*])])
        ·have:j=r.length:=by omega
         subst this;rw[Aa,zbB]
theorem zxS (p:Prog) (t:Int):zB3 (.fn 164 [] [zbx p,.ip [.fn 134 [] [zbx p,.ip [.fn 146 [] [zbx p,.ip [ti t]]]]]]) (fun c=>zby p c Cell.ghost&&zjW p t c) (fun c=>inR c p.cells.length=true):=by
 have hb:IsP 134 [zbx p,.ip [.fn 146 [] [zbx p,.ip [ti t]]]] (zjW p t):=zmb p t;have hn: ∀x∈[zbx p,.ip [.fn 134 [] [zbx p,.ip [.fn 146 [] [zbx p,.ip [ti t]]]]]],T.norm x=x:=by simp[zbx,T.norm]
 refine⟨rfl,164,[],[zbx p,.ip [.fn 134 [] [zbx p,.ip [.fn 146 [] [zbx p,.ip [ti t]]]]]].map V.t,rfl,fun hh n=> ?_,fun n=> ?_,fun n Aj=> ?_⟩
 ·exact zhl hh (ti n::[zbx p,.ip [.fn 134 [] [zbx p,.ip [.fn 146 [] [zbx p,.ip [ti t]]]]]]) (fun x hx=>(List.mem_cons.1 hx).elim (fun e=>by rw[e];rfl) (hn x))
 ·exact zme (ti n::[zbx p,.ip [.fn 134 [] [zbx p,.ip [.fn 146 [] [zbx p,.ip [ti t]]]]]])
 ·obtain⟨d0,x,hx⟩:=zch Aj;have L8:=zfA p n x d0 hx;have o2:=zaZ (g:=Cell.ghost) hx;have hd:=hb.2 n;simp only[List.map_cons,List.map_nil,zbx,List.nil_append,List.cons_append]at hd⊢
  (refine zag Γ164 rfl ?_;dsimp only[f164])
  simp -dsimp only[go_sem,seval,L8];refine zac (fun h=> ?_) (fun h=> ?_)<;>(try rw[h])<;>(try simp only[zah]at h)<;>(try simp -dsimp only[go_sem,seval,hd])
  ·rw[o2,h];simp
  ·rw[o2,h];simp
theorem zlB (p:Prog) (t:Int) (s:Step) (hl:s.set.length<2^48) (hr:zjN p s):Den Γ G 149 [(.agg [.t (.sl ((p).cells.map (Cell.enc))),.t (.sl ((p).modules.map (Contract.enc))),.t (.sl ((p).locks.map (Lock.enc))),.t (.sl ((p).threads.map (Thread.enc)))]),vi t,(.agg [.t (ti (s).kind),.t (ti (s).fr),.t (ti (s).to),.t (ti ((s).guard).op),.t (ti ((s).guard).w),.t (ti ((s).guard).n),.t (.sl (((s).guard).kids.map Expr.enc)),.t (.sl ((s).set.map Assign.enc)),.t (tb (s).release),.t (ti (s).target),.t (ti (s).module)])]=some (vb (zeY p t s)):=by
 (refine zag Γ149 rfl ?_;dsimp only[f149])
 have h1:=zlp p t
 have hv:Den Γ G 161 [(zS s),.t (.fn 146 [] [zbx p,.ip [ti t]])]=some (vb (zbz p s false t)):=by
  rw[zgo s _ _ (zzJ p t) hl];simp only[zbz,zbE,zlv]
 by_cases he:s.set=[]
 ·simp -dsimp only[go_sem,seval,h1,he];simp[zeY,he]
 ·obtain⟨a,r,hs⟩: ∃a r,s.set=a::r:=by
   rcases h:s.set with _ | ⟨a,r⟩
   ·exact absurd h he
   ·exact⟨a,r,rfl⟩
  have BA:s.set.length=r.length+1:=by rw[hs];rfl
  have h0:s.set[0]? =some a:=by rw[hs];rfl
  have Kx:List.drop 1 (s.set.map Assign.enc)=r.map Assign.enc:=by rw[hs];rfl
  have Az: ¬(((r.length+1:Nat):Int)=0):=by omega
  have A5:(1:Int)<=((r.length+1:Nat):Int):=by omega
  have hK:zeY p t s=(zbz p s false t&&zar p (-1) a.cell&& !zby p a.cell Cell.ghost&&r.all fun b=>zby p b.cell Cell.ghost&&zjW p t b.cell):=by rw[zeY,hs]
  have Cp:a∈s.set:=by rw[hs];simp
  obtain⟨d0,x,hx⟩:=zch (hr.2 a Cp).1;have L8:=zfA p a.cell x d0 hx;have o2:=zaZ (g:=Cell.ghost) hx;have Bo:=zdY p a.cell;have IT:=zgn p t;have OU:=zgq r _ _ _ (zxS p t) (fun b hb=>(hr.2 b (by rw[hs];simp[hb])).1) (by omega);have t1:=zk3 s.set;have t2:=zpc r.length;have t3:=zoL Assign.enc r;simp -dsimp only[go_sem,seval,h1,BA,Az,hv,h0];refine zac (fun h=> ?_) (fun h=> ?_)<;>(try rw[h])<;>(try simp only[zah]at h)<;>(try simp -dsimp only[go_sem,seval,h0,Bo])
  ·rw[hK,h];simp
  ·have e0:zbz p s false t=true:=by assumption
   refine zac (fun h=> ?_) (fun h=> ?_)<;>(try rw[h])<;>(try simp only[zah]at h)<;>(try simp -dsimp only[go_sem,seval,L8])
   ·rw[hK,h];simp
   ·have e1:zar p (-1) a.cell=true:=by assumption
    refine zac (fun h=> ?_) (fun h=> ?_)<;>(try rw[h])<;>(try simp only[zah]at h)<;>(try simp -dsimp only[go_sem,seval,IT,BA,Kx,t1,t2,t3,A5,Int.le_refl,OU])
    ·rw[hK,o2,h];simp
    ·rw[o2,e0,e1,h]at hK;simp only[Bool.not_false,Bool.and_true,Bool.true_and]at hK;rw[hK];have Fg:T.ip [.sl (p.cells.map Cell.enc),.sl (p.modules.map Contract.enc),.sl (p.locks.map Lock.enc),.sl (p.threads.map Thread.enc)]=zbx p:=rfl;simp -dsimp only[go_sem,seval,Fg,OU]
theorem zsl:Den Γ G 135 []=some (.agg [.t .nilf,.t (.fn 147 [] []),.t (.fn 148 [] []),.t (.fn 149 [] []),.t (.fn 150 [] []),.t (.fn 151 [] []),.t (.fn 152 [] []),.t (.fn 153 [] [])]):=by
 (refine zag Γ135 rfl ?_;dsimp only[f135])
 simp -dsimp only[go_sem,seval]
set_option maxHeartbeats 4000000 in
theorem zrs (p:Prog) (t:Int) (x:Thread) (K7: -2^48<x.points/\x.points<2^48) (s:Step) (Ac:s.set.length<2^48):
 Den Γ G 105 [(zP p),vi t,(zT x),(zS s)]=some (vi (zaS p t x.points s)):=by
 (refine zag Γ105 rfl ?_;dsimp only[f105])
 have Cj:IntKind.i64.wrap (x.points-1)=x.points-1:=zaH (by omega);have B8:=zbR s.fr (x.points-1);have Cq:=zbR s.to x.points;have C8:=zbR s.module p.modules.length;have hv:=zfS s.guard p.cells false;simp -dsimp only[go_sem,seval]
 by_cases AU:zdW p x.points s=true
 ·rw[zaS,if_pos AU]
  repeat'(refine zac (fun h=> ?_) (fun h=> ?_)<;>(try rw[h])<;>(try simp only[zah]at h)<;>(try simp -dsimp only[go_sem,seval,Cj,B8,Cq,C8]))
  all_goals(exfalso;simp only[zdW,Bool.or_eq_true,zF,Bool.not_eq_true',decide_eq_true_eq]at AU;simp_all;try omega)
 ·have Dx:zaS p t x.points s=if !s.guard.valid p.cells false||decide (s.guard.w≠1)then 60 else if ¬(zco (zbC p s.set) 0 s.set).1=0 then(zco (zbC p s.set) 0 s.set).1 else if zbG p t s then 0 else 70:=by rw[zaS,if_neg AU]
  have Bf:zdW p x.points s=false:=by simpa using AU
  simp only[zdW,Bool.or_eq_false_iff,Bool.and_eq_false_iff,Bool.not_eq_false',decide_eq_false_iff_not]at Bf;obtain⟨⟨⟨⟨⟨⟨b1,b2⟩,b3⟩,b4⟩,b5⟩,b6⟩,b7⟩:=Bf;rw[b3]at B8;rw[b4]at Cq;rw[b5]at C8
  have AL: ∀Q:Prop,(∀(c3 c6 c7 r tz:Bool),decide (s.kind=6)=c6->decide (s.kind=7)=c7->decide (s.kind=3)=c3->s.release=r->decide (s.target=0)=tz->
   ((c6=true/\r=false)\/(c6=false/\c7=true/\r=false)\/(c6=false/\c7=false/\tz=true/\r=false)\/(c6=false/\c7=false/\tz=true/\r=true/\c3=true))->Q)->Q:=fun Q q=>by
   refine q _ _ _ _ _ rfl rfl rfl rfl rfl ?_;simp only[decide_eq_true_eq,decide_eq_false_iff_not]
   by_cases h6:s.kind=6<;>by_cases h7:s.kind=7<;>by_cases h3:s.kind=3<;>cases hr:s.release<;>by_cases hz:s.target=0<;>simp_all
  refine AL _ (fun c3 c6 c7 r tz e6 e7 e3 er ez hc=> ?_);have C3:s.guard.valid p.cells false=true->s.guard.w=1->zaS p t x.points s=if ¬(zco (zbC p s.set) 0 s.set).1=0 then(zco (zbC p s.set) 0 s.set).1 else if zbG p t s then 0 else 70:=fun g1 g2=>by rw[Dx,if_neg (by simp[g1,g2])]
  have EP:(s.guard.valid p.cells false=false\/ ¬s.guard.w=1)->zaS p t x.points s=60:=fun g=>by rw[Dx,if_pos (by rcases g with g | g<;>simp[g])]
  have b1':1<=s.kind/\s.kind<=7:=by omega
  have e3':(decide ¬s.kind=3)= !c3:=by rw[<- e3];simp
  have ez':(decide ¬s.target=0)= !tz:=by rw[<- ez];simp
  rcases hc with⟨rfl,rfl⟩ | ⟨rfl,rfl,rfl⟩ | ⟨rfl,rfl,rfl,rfl⟩ | ⟨rfl,rfl,rfl,rfl,rfl⟩
  all_goals(try cases tz)
  all_goals(try cases c3)
  all_goals(try(exfalso;simp only[decide_eq_true_eq]at e3 e6 e7;omega))
  all_goals(
   (try simp only[Bool.not_true,Bool.not_false]at e3' ez')
   simp -dsimp only[go_sem,seval,Cj,B8,Cq,C8,b1,b2,e6,e7,e3',ez',er,hv]
   repeat'(refine zac (fun h=> ?_) (fun h=> ?_)<;>(try rw[h])<;>(try simp only[zah]at h)<;>(try simp -dsimp only[go_sem,seval,hv])))
  all_goals(try(rw[EP (.inl ‹_›)];done))
  all_goals(try(rw[EP (.inr ‹_›)];done))
  all_goals(
   have M1:s.guard.valid p.cells false=true:=by assumption
   have QA:s.guard.w=1:=by assumption
   have C3:=C3 M1 QA;clear AL EP Dx hv B8 Cq C8 e3' ez' er e3 e6;refine zaq 2722258935367498036300439942420748071168 s.set.length (fun i f h y=>(f 83).v=vi i/\h 74=some (.map (ztX ((s.set.take i).map Assign.cell)))/\zco (zbC p s.set) 0 s.set=zco (zbC p s.set) i (s.set.drop i)) rfl ⟨by simp -dsimp only[go_sem,seval],by simp -dsimp only[go_sem,seval];rfl,rfl⟩ ?_;rintro i f u hh y bs hi ⟨II,Bk,hm⟩;have hw:=zan i (by omega);simp -dsimp only[go_sem,seval,II];refine zac (fun h=> ?_) (fun h=> ?_)<;>(try rw[h])<;>(try simp only[zah]at h)<;>(try simp -dsimp only[go_sem,seval,II])
   ·obtain⟨a,ha,Cp⟩:=zai ‹i<s.set.length›;have B8:=zbR a.cell p.cells.length
    have Ai: ∀k:Int,k≠0->zbC p s.set i a=k->zaS p t x.points s=k:=fun k hk h0=>by
     have h2:=hm.trans (zcC ha (by rw[h0];exact hk));rw[C3,h2,h0,if_pos hk]
    have A9:((s.set.take i).map Assign.cell).any (fun d=>decide (d=a.cell))=(s.set.take i).any (fun d=>decide (d.cell=a.cell)):=by rw[List.any_map];rfl
    have BJ:=zw1 a.cell ((s.set.take i).map Assign.cell);rw[A9]at BJ;cases hc:(s.set.take i).any (fun d=>decide (d.cell=a.cell))
    ·rw[hc]at BJ A9;have Jj:=zBs a.cell _ A9;simp -dsimp only[go_sem,seval,II,ha,Bk,BJ,Option.getD_none,Option.getD_some,Option.isSome_none,zG,if_true,if_false,B8];cases I6:inR a.cell p.cells.length
     ·simp -dsimp only[go_sem,seval,II];rw[Ai 70 (by decide) (by simp[zbC,I6])]
     ·obtain⟨d0,z,hz⟩:=zch I6;have DT:=zfS a.to p.cells false;have Id:=zaZ (g:=fun x=>decide (a.to.w=x.w)) hz
      have DW:zbC p s.set i a=if !a.to.valid p.cells false || !zby p a.cell (fun x=>decide (a.to.w=x.w))then 60 else 0:=by
       rw[zbC,if_neg (by rw[I6,hc];simp)]
      rw[Id]at DW;simp -dsimp only[go_sem,seval,II,Bk,Jj,d0,hz];refine zac (fun h=> ?_) (fun h=> ?_)<;>(try rw[h])<;>(try simp only[zah]at h)<;>(try simp -dsimp only[go_sem,seval,II,DT])
      ·rw[Ai 60 (by decide) (by rw[DW];simp[h])]
      ·have Ke:a.to.w=z.w:=by assumption
       refine zac (fun h=> ?_) (fun h=> ?_)<;>(try rw[h])<;>(try simp only[zah]at h)<;>(try simp -dsimp only[go_sem,seval,II])
       ·rw[Ai 60 (by decide) (by rw[DW];simp[h])]
       ·refine⟨by omega,by simp -dsimp only[go_sem,seval,hw],?_,?_⟩
        ·simp -dsimp only[go_sem,seval];rw[zaf ha];simp
        ·rw[hm,zc6 ha (by rw[DW];simp[h,Ke])]
    ·rw[hc]at BJ;simp -dsimp only[go_sem,seval,II,ha,Bk,BJ,Option.getD_none,Option.getD_some,Option.isSome_none,zG,if_true,if_false];rw[Ai 70 (by decide) (by rw[zbC,if_pos (by rw[hc];simp)])]
   ·have:i=s.set.length:=by omega
    subst this;rw[zel]at hm;rw[hm,if_neg (by simp)]at C3;have hr:zjN p s:=⟨M1,zed (i:=0) (set:=s.set) (by rw[hm])⟩
    have AB:=zsl;have f1:=zlD p t s Ac;have f2:=zm1 p t s Ac hr;have f3:=zlB p t s Ac hr;have f4:=zj4 p t s Ac;have f5:=zlE p t s;have f6:=zlC p t s;have f7:=zhX p t s;have Dn:s.kind=1\/s.kind=2\/s.kind=3\/s.kind=4\/s.kind=5\/s.kind=6\/s.kind=7:=by omega
    rw[C3];clear C3 hm Bk;rcases Dn with k | k | k | k | k | k | k
    all_goals(try(exfalso;simp only[decide_eq_false_iff_not]at e7;omega))
    all_goals(
     simp only[k]at f1 f2 f3 f4 f5 f6 f7;simp -dsimp only[go_sem,seval,AB,k,f1,f2,f3,f4,f5,f6,f7];refine zac (fun h=> ?_) (fun h=> ?_)<;>(try rw[h])<;>(try simp only[zah]at h)<;>(try simp -dsimp only[go_sem,seval])
     all_goals(simp[zbG,k,h])))
end Rg
end
section
namespace Rg
open Go
theorem zrk (p:Prog):IsF (.fn 103 [] [zbx p]) (fun m=>inR m p.modules.length):=by
 refine IsP.isF ⟨by simp[zbx,T.norm],fun n=> ?_⟩;simp only[List.map_cons,List.map_nil,zbx]
 (refine zag Γ103 rfl ?_;dsimp only[f103])
 have h1:=zbR n p.modules.length;simp -dsimp only[go_sem,seval,h1]
def zzB (x:Thread):T:=.ip [.str x.name,ti x.points,.sl (x.asserts.map Expr.enc),ints x.modules,.sl (x.steps.map Step.enc),.sl (x.loops.map Loop.enc),tb x.asleep]
def zuy (l:Loop):T:=.ip [ti l.head,ints l.body,ti l.variant.op,ti l.variant.w,ti l.variant.n,.sl (l.variant.kids.map Expr.enc)]
theorem zrj (x:Thread) (l:Loop):IsF (.fn 106 [] [zzB x,zuy l]) (fun q=>inR q x.points&&decide (q≠l.head)):=by
 refine IsP.isF ⟨by simp[zzB,zuy,T.norm],fun n=> ?_⟩;simp only[List.map_cons,List.map_nil,zzB,zuy]
 (refine zag Γ106 rfl ?_;dsimp only[f106])
 have h1:=zbR n x.points;simp -dsimp only[go_sem,seval,h1]
 repeat'(refine zac (fun h=> ?_) (fun h=> ?_)<;>(try rw[h])<;>(try simp only[zah]at h)<;>(try simp -dsimp only[go_sem,seval]))
 all_goals(simp[*])
theorem zxg (p:Prog) (t:Int) (e:Expr) (pair:Bool):Den Γ G 99 [(zP p),(.agg [.t (ti (e).op),.t (ti (e).w),.t (ti (e).n),.t (.sl ((e).kids.map (Expr.enc)))]),vb pair,.t (.fn 134 [] [zbx p,.ip [.fn 146 [] [zbx p,.ip [ti t]]]])]=some (vb (zaR p e pair t)):=by
 rw[zpS p e pair _ _ (ztY p t),zaR,zbE,zi4]
theorem zus (p:Prog) (t:Int) (e:Expr):Den Γ G 108 [(.agg [.t (ti (e).op),.t (ti (e).w),.t (ti (e).n),.t (.sl ((e).kids.map (Expr.enc)))]),.t (.fn 134 [] [zbx p,.ip [.fn 146 [] [zbx p,.ip [ti t]]]])]=some (vb (zbE p e true t)):=by
 rw[zft e _ _ (ztY p t),zbE,zi4]
def HT (p:Prog) (x:Thread) (n k:Nat) (es:List (T×V)) (h:Nat->Option O) (y:Nat):Prop:=
 h (n+0)=some (.rows 4 [[.t (.sl (p.cells.map Cell.enc)),.t (.sl (p.modules.map Contract.enc)),.t (.sl (p.locks.map Lock.enc)),.t (.sl (p.threads.map Thread.enc))]] false)/\
 h (n+1)=some (.rows 7 [[.t (.str x.name),.t (ti x.points),.t (.sl (x.asserts.map Expr.enc)),.t (ints x.modules),.t (.sl (x.steps.map Step.enc)),.t (.sl (x.loops.map Loop.enc)),.t (tb x.asleep)]] false)/\
 h k=some (.map es)/\n+2<=y
set_option maxHeartbeats 4000000 in
theorem znE (p:Prog) (hs:p.sane) (i:Nat) (x:Thread) (hx:p.threads[i]? =some x) (K7:x.points<2^48) (H:Nat->Option O) (n k:Nat) (EK:k<n) (Bk:H k=some (.map (zjR ((p.threads.take i).map Thread.name)))):
 ∃r h' n',DenR Γ G 83 [(zP p),vi i,(zT x),.mm k] H n=some (r,h',n')/\(n<=n'/\r= .tup [vi (zap p i x).1,vi (zap p i x).2])/\((zap p i x).1=0->h' k=some (.map (zjR ((p.threads.take (i+1)).map Thread.name)))):=by
 have C1:=zL hx;obtain⟨s1,s2,s3,s4,s5⟩:=hs.thr x C1;have hl:=zf2 x.name;have Qr: ¬k=n:=by omega
 have Js:=zsd EK;have Qq:=zn1 EK;have Ct:=fun H' n' Ri=>zkb k x.name ((p.threads.take i).map Thread.name) H' n' Ri
 have A9:((p.threads.take i).map Thread.name).any (fun d=>d.toList==x.name.toList)=(p.threads.take i).any (fun d=>d.name.toList==x.name.toList):=by rw[List.any_map];rfl
 (refine zay Γ83 rfl ?_;dsimp only[f83])
 simp -dsimp only[go_sem,seval,hl];refine zac (fun h=> ?_) (fun h=> ?_)<;>(try rw[h])<;>(try simp only[zah]at h)<;>(try simp -dsimp only[go_sem,seval])
 ·have:zap p i x=(1,-1):=by rw[zap,if_pos (by simp[h])]
  rw[this];exact⟨⟨by simp -dsimp only[go_sem,seval];omega,by simp -dsimp only[go_sem,seval]⟩,fun h0=>by simp at h0⟩
 ·have e1:zbA x.name=true:=by assumption
  refine zas (Ct _ _ (by simp -dsimp only[go_sem,seval,Js,Bk])) ?_;rintro r h' n' ⟨⟨Jt,rfl⟩,es,he,Ey⟩;rw[A9]at Ey;have q1: ¬n+1=k:=by omega
  have q2: ¬n+0=k:=by omega
  have q3: ¬n+0=n+1:=by omega
  have g4:h' (n+0)=some (.rows 4 [[.t (.sl (p.cells.map Cell.enc)),.t (.sl (p.modules.map Contract.enc)),.t (.sl (p.locks.map Lock.enc)),.t (.sl (p.threads.map Thread.enc))]] false):=by
   rw[he];simp -dsimp only[go_sem,seval,q2,q3]
  have g6:h' (n+1)=some (.rows 7 [[.t (.str x.name),.t (ti x.points),.t (.sl (x.asserts.map Expr.enc)),.t (ints x.modules),.t (.sl (x.steps.map Step.enc)),.t (.sl (x.loops.map Loop.enc)),.t (tb x.asleep)]] false):=by
   rw[he];simp -dsimp only[go_sem,seval,q1]
  have gk:h' k=some (.map es):=by rw[he];simp -dsimp only[go_sem,seval]
  clear he;simp -dsimp only[go_sem,seval,A9];refine zac (fun h=> ?_) (fun h=> ?_)<;>(try rw[h])<;>(try simp only[zah]at h)<;>(try simp -dsimp only[go_sem,seval,g6])
  ·have:zap p i x=(41,-1):=by rw[zap,if_neg (by simp[e1]),if_pos h]
   rw[this];exact⟨⟨by simp -dsimp only[go_sem,seval];omega,by simp -dsimp only[go_sem,seval]⟩,fun h0=>by simp at h0⟩
  ·have e2:(p.threads.take i).any (fun d=>d.name.toList==x.name.toList)=false:=by assumption
   rw[Ey e2,show(p.threads.take i).map Thread.name++[x.name]=(p.threads.take (i+1)).map Thread.name from by rw[zaf hx];simp]at gk;clear Ey Ct Bk
   by_cases Fg:x.points<1\/ ¬(x.asserts.length:Int)=x.points\/ ¬(x.modules.length:Int)=x.points
   ·have:zap p i x=(1,-1):=by rw[zap,if_neg (by simp[e1]),if_neg (by simp[e2]),if_pos Fg]
    rw[this]
    repeat'(refine zac (fun h=> ?_) (fun h=> ?_)<;>(try rw[h])<;>(try simp only[zah]at h)<;>(try simp -dsimp only[go_sem,seval,g6]))
    all_goals first
     | (exfalso;omega)
     | exact⟨⟨by simp -dsimp only[go_sem,seval];omega,by simp -dsimp only[go_sem,seval]⟩,fun h0=>by simp at h0⟩
   ·have f1: ¬x.points<1:=by omega
    have f2:(x.asserts.length:Int)=x.points:=by omega
    have f3:(x.modules.length:Int)=x.points:=by omega
    have BG:zap p i x=if !x.modules.all (fun m=>inR m p.modules.length)then(1,-1)
     else if !x.asserts.all (fun e=>zaR p e false i)then(60,-1)
     else if ¬(zco (fun _ s=>zaS p i x.points s) 0 x.steps).1=0 then zco (fun _ s=>zaS p i x.points s) 0 x.steps
     else((zco (fun _ l=>zbp p i x.points l) 0 x.loops).1,-1):=by
     rw[zap,if_neg (by simp[e1]),if_neg (by simp[e2]),if_neg Fg]
    have f2':decide (¬(x.asserts.length:Int)=x.points)=false:=by simp[f2]
    have f3':decide (¬(x.modules.length:Int)=x.points)=false:=by simp[f3]
    have BF:=zeC _ _ (zrk p) x.modules (by omega);simp only[zbx]at BF;simp -dsimp only[go_sem,seval,f1,f2',f3',g6,g4,BF];have IT:=zgn p i;refine zac (fun h=> ?_) (fun h=> ?_)<;>(try rw[h])<;>(try simp only[zah]at h)<;>(try simp -dsimp only[go_sem,seval,g4,IT,g6])
    ·have:zap p i x=(1,-1):=by rw[BG];simp[h]
     rw[this];exact⟨⟨by simp -dsimp only[go_sem,seval];omega,by simp -dsimp only[go_sem,seval]⟩,fun h0=>by simp at h0⟩
    ·rw[h]at BG;simp only[Bool.not_true,zG,if_false]at BG;clear BF h;refine zaq 147429837401600561920 x.asserts.length (fun j f h y=>(f 57).v=vi j/\HT p x n k (zjR ((p.threads.take (i+1)).map Thread.name)) h y/\x.asserts.all (fun e=>zaR p e false i)=(x.asserts.drop j).all (fun e=>zaR p e false i)) rfl ⟨by simp -dsimp only[go_sem,seval],⟨g4,g6,gk,by simp -dsimp only[go_sem,seval];omega⟩,rfl⟩ ?_;clear g4 g6 gk;rintro j f u hh y bs hj ⟨HE,⟨g4,g6,gk,gn⟩,Aa⟩;have hw:=zan j (by omega);simp -dsimp only[go_sem,seval,HE];refine zac (fun h=> ?_) (fun h=> ?_)<;>(try rw[h])<;>(try simp only[zah]at h)<;>(try simp -dsimp only[go_sem,seval,HE])
     ·obtain⟨e,he,_⟩:=zai ‹j<x.asserts.length›;have hb:=zxg p i e false;simp -dsimp only[go_sem,seval,HE,he,g4,hb];refine zac (fun h=> ?_) (fun h=> ?_)<;>(try rw[h])<;>(try simp only[zah]at h)<;>(try simp -dsimp only[go_sem,seval,HE])
      ·have:zap p i x=(60,-1):=by rw[BG,Aa,za6 he h];simp
       rw[this];exact⟨⟨by simp -dsimp only[go_sem,seval];omega,by simp -dsimp only[go_sem,seval]⟩,fun h0=>by simp at h0⟩
      ·refine⟨by omega,by simp -dsimp only[go_sem,seval,hw],⟨by simp -dsimp only[go_sem,seval,g4],by simp -dsimp only[go_sem,seval,g6],by simp -dsimp only[go_sem,seval,gk],by simp -dsimp only[go_sem,seval];omega⟩,?_⟩;rw[Aa,za7 he h]
     ·have:j=x.asserts.length:=by omega
      subst this;rw[zbB]at Aa;rw[Aa]at BG;simp only[Bool.not_true,zG,if_false]at BG;clear Aa HE hw;simp -dsimp only[go_sem,seval,g6];refine zaq 38684445636047416179352320 x.steps.length (fun j f h y=>(f 70).v=vi j/\HT p x n k (zjR ((p.threads.take (i+1)).map Thread.name)) h y/\zco (fun _ s=>zaS p i x.points s) 0 x.steps=zco (fun _ s=>zaS p i x.points s) j (x.steps.drop j)) rfl ⟨by simp -dsimp only[go_sem,seval],⟨by simp -dsimp only[go_sem,seval,g4],by simp -dsimp only[go_sem,seval,g6],by simp -dsimp only[go_sem,seval,gk],by simp -dsimp only[go_sem,seval];omega⟩,rfl⟩ ?_;clear g4 g6 gk;rintro j f u hh y bs hj ⟨Md,⟨g4,g6,gk,gn⟩,hm⟩;have hw:=zan j (by omega);simp -dsimp only[go_sem,seval,Md];refine zac (fun h=> ?_) (fun h=> ?_)<;>(try rw[h])<;>(try simp only[zah]at h)<;>(try simp -dsimp only[go_sem,seval,Md])
      ·obtain⟨s,DW,F3⟩:=zai ‹j<x.steps.length›;have AE:=zrs p i x ⟨by omega,K7⟩ s (hs.sets x C1 s F3);simp -dsimp only[go_sem,seval,Md,DW,g4,g6,AE];refine zac (fun h=> ?_) (fun h=> ?_)<;>(try rw[h])<;>(try simp only[zah]at h)<;>(try simp -dsimp only[go_sem,seval,Md])
       ·have h2:=hm.trans (zcC (f:=fun _ s=>zaS p i x.points s) DW (by simpa using h));have:zap p i x=(zaS p i x.points s,(j:Int)):=by rw[BG,h2,if_pos (by simpa using h)]
        rw[this];exact⟨⟨by simp -dsimp only[go_sem,seval];omega,by simp -dsimp only[go_sem,seval]⟩,fun h0=>absurd h0 h⟩
       ·refine⟨by omega,by simp -dsimp only[go_sem,seval,hw],⟨by simp -dsimp only[go_sem,seval,g4],by simp -dsimp only[go_sem,seval,g6],by simp -dsimp only[go_sem,seval,gk],by simp -dsimp only[go_sem,seval];omega⟩,?_⟩;rw[hm,zc6 DW (by simpa using h)]
      ·have:j=x.steps.length:=by omega
       subst this;rw[zel]at hm;rw[hm,if_neg (by simp)]at BG;clear hm Md hw;simp -dsimp only[go_sem,seval,g6];refine zaq 10633823965969841973409111413518369536 x.loops.length (fun j f h y=>(f 88).v=vi j/\HT p x n k (zjR ((p.threads.take (i+1)).map Thread.name)) h y/\zco (fun _ l=>zbp p i x.points l) 0 x.loops=zco (fun _ l=>zbp p i x.points l) j (x.loops.drop j)) rfl ⟨by simp -dsimp only[go_sem,seval],⟨by simp -dsimp only[go_sem,seval,g4],by simp -dsimp only[go_sem,seval,g6],by simp -dsimp only[go_sem,seval,gk],by simp -dsimp only[go_sem,seval];omega⟩,rfl⟩ ?_;clear g4 g6 gk;rintro j f u hh y bs hj ⟨IH,⟨g4,g6,gk,gn⟩,hm⟩;have hw:=zan j (by omega);simp -dsimp only[go_sem,seval,IH];refine zac (fun h=> ?_) (fun h=> ?_)<;>(try rw[h])<;>(try simp only[zah]at h)<;>(try simp -dsimp only[go_sem,seval,IH])
       ·obtain⟨l,Jy,Hy⟩:=zai ‹j<x.loops.length›;have D4:=hs.loops x C1 l Hy
        have Ai: ∀k':Int,k'≠0->zbp p i x.points l=k'->zap p i x=(k',-1):=fun k' Ah h0=>by
         have h2:=hm.trans (zcC (f:=fun _ l=>zbp p i x.points l) Jy (by rw[h0];exact Ah));rw[BG,h2,h0]
        have Aj:=zbR l.head x.points;have Et:=zgi l.body (by omega);have BF:=zeC _ _ (zrj x l) l.body (by omega);simp only[zzB,zuy]at BF;have hv:=zfS l.variant p.cells false;have De:=zus p i l.variant;have r1: ¬n=y+2:=by omega
        have r2: ∀a b:Nat,¬n+0=y+a+b:=by intros;omega
        have r3: ∀a b:Nat,¬k=y+a+b:=by intros;omega
        simp -dsimp only[go_sem,seval,IH,Jy,g4,g6,r1,r2,Aj];refine zac (fun h=> ?_) (fun h=> ?_)<;>(try rw[h])<;>(try simp only[zah]at h)<;>(try simp -dsimp only[go_sem,seval,IH,r1,r2,g4,g6,Et])
        ·rw[Ai 1 (by decide) (by simp[zbp,h])];exact⟨⟨by simp -dsimp only[go_sem,seval];omega,by simp -dsimp only[go_sem,seval]⟩,fun h0=>by simp at h0⟩
        ·have u1:inR l.head x.points=true:=by assumption
         refine zac (fun h=> ?_) (fun h=> ?_)<;>(try rw[h])<;>(try simp only[zah]at h)<;>(try simp -dsimp only[go_sem,seval,IH,r1,r2,g4,g6,BF])
         ·rw[Ai 1 (by decide) (by simp[zbp,h])];exact⟨⟨by simp -dsimp only[go_sem,seval];omega,by simp -dsimp only[go_sem,seval]⟩,fun h0=>by simp at h0⟩
         ·have u2:zc0 l.body=true:=by assumption
          refine zac (fun h=> ?_) (fun h=> ?_)<;>(try rw[h])<;>(try simp only[zah]at h)<;>(try simp -dsimp only[go_sem,seval,IH,r1,r2,g4,g6,hv])
          ·rw[Ai 1 (by decide) (by rw[zbp,if_pos (by rw[h];simp)])];exact⟨⟨by simp -dsimp only[go_sem,seval];omega,by simp -dsimp only[go_sem,seval]⟩,fun h0=>by simp at h0⟩
          ·have u3:(l.body.all fun q=>inR q x.points&&decide (q≠l.head))=true:=by assumption
           have A5:zbp p i x.points l=if !l.variant.valid p.cells false || !zbE p l.variant true i then 60 else 0:=by
            rw[zbp,if_neg (by rw[u1,u2,u3];simp)]
           refine zac (fun h=> ?_) (fun h=> ?_)<;>(try rw[h])<;>(try simp only[zah]at h)<;>(try simp -dsimp only[go_sem,seval,IH,r1,r2,g4,g6,De])
           ·rw[Ai 60 (by decide) (by rw[A5];simp[h])];exact⟨⟨by simp -dsimp only[go_sem,seval];omega,by simp -dsimp only[go_sem,seval]⟩,fun h0=>by simp at h0⟩
           ·have u4:l.variant.valid p.cells false=true:=by assumption
            refine zac (fun h=> ?_) (fun h=> ?_)<;>(try rw[h])<;>(try simp only[zah]at h)<;>(try simp -dsimp only[go_sem,seval,IH])
            ·rw[Ai 60 (by decide) (by rw[A5];simp[h])];exact⟨⟨by simp -dsimp only[go_sem,seval];omega,by simp -dsimp only[go_sem,seval]⟩,fun h0=>by simp at h0⟩
            ·refine⟨by omega,by simp -dsimp only[go_sem,seval,hw],⟨by simp -dsimp only[go_sem,seval,g4,r2],by simp -dsimp only[go_sem,seval,g6,r1],by simp -dsimp only[go_sem,seval,gk,r3],by simp -dsimp only[go_sem,seval];omega⟩,?_⟩;rw[hm,zc6 Jy (by rw[A5];simp[h,u4])]
       ·have:j=x.loops.length:=by omega
        subst this;rw[zel]at hm;rw[BG,hm];exact⟨⟨by simp -dsimp only[go_sem,seval];omega,by simp -dsimp only[go_sem,seval]⟩,fun _=>by simp -dsimp only[go_sem,seval,gk]⟩
end Rg
end
section
namespace Rg
open Go
@[go_sem]theorem zCG (g:Nat) (c:List T) (K:Nat->List V->List V->Prop) (w:WK K):fnK (some (.t (.fa g c))) K w=K g [.agg (c.map V.t)] []:=rfl
theorem zeV (p:Prog) (hs:p.sane):Den Γ G 64 [(zP p)]=some (.tup [vi (zbM p).1,vi (zbM p).2.1,vi (zbM p).2.2]):=by
 (refine zag Γ64 rfl ?_;dsimp only[f64])
 have h1:=zn4 p hs;simp -dsimp only[go_sem,seval,h1];refine zac (fun h=> ?_) (fun h=> ?_)<;>(try rw[h])<;>(try simp only[zah]at h)<;>(try simp -dsimp only[go_sem,seval])
 ·have h0: ¬(zaV p).1=0:=by simpa using h
  have:zbM p=((zaV p).1,(zaV p).2,-1):=by rw[zbM,if_pos h0]
  rw[this];simp
 ·have h0:(zaV p).1=0:=by simpa using h
  obtain⟨⟨l1,l2,l3,l4⟩,l5⟩:=zal h0
  have AX:zbM p=if ¬zce p=0 then(zce p,-1,-1)else if ¬zbm p=0 then(zbm p,-1,-1)else if ¬zcT p=0 then(zcT p,-1,-1)else zep p 0 p.threads:=by
   rw[zbM,if_neg (by simpa using h0)]
  have c1:=zqT p hs;have c2:=zmQ p hs;have c3:=zqt p hs;refine zaD ?_;simp -dsimp only[go_sem,seval,c1];refine zac (fun h=> ?_) (fun h=> ?_)<;>(try rw[h])<;>(try simp only[zah]at h)<;>(try simp -dsimp only[go_sem,seval])
  ·have:zbM p=(zce p,-1,-1):=by rw[AX,if_pos (by simpa using h)]
   rw[this];simp
  ·have h2:zce p=0:=by simpa using h
   rw[if_neg (by simpa using h2)]at AX;refine zaD ?_;simp -dsimp only[go_sem,seval,c2];refine zac (fun h=> ?_) (fun h=> ?_)<;>(try rw[h])<;>(try simp only[zah]at h)<;>(try simp -dsimp only[go_sem,seval])
   ·have:zbM p=(zbm p,-1,-1):=by rw[AX,if_pos (by simpa using h)]
    rw[this];simp
   ·have h3:zbm p=0:=by simpa using h
    rw[if_neg (by simpa using h3)]at AX;refine zaD ?_;simp -dsimp only[go_sem,seval,c3];refine zac (fun h=> ?_) (fun h=> ?_)<;>(try rw[h])<;>(try simp only[zah]at h)<;>(try simp -dsimp only[go_sem,seval])
    ·have:zbM p=(zcT p,-1,-1):=by rw[AX,if_pos (by simpa using h)]
     rw[this];simp
    ·have h4:zcT p=0:=by simpa using h
     rw[if_neg (by simpa using h4)]at AX;refine zaD ?_;simp -dsimp only[go_sem,seval];refine zaq 73786835557349912604 p.threads.length (fun i f h y=>(f 47).v=vi i/\56<y/\h 56=some (.map (zjR ((p.threads.take i).map Thread.name)))/\zbM p=zep p i (p.threads.drop i)) rfl ⟨by simp -dsimp only[go_sem,seval],by simp -dsimp only[go_sem,seval],by simp -dsimp only[go_sem,seval];rfl,AX⟩ ?_;rintro i f u hh y bs hi ⟨Me,hy,Bk,hm⟩;have hw:=zan i (by omega);simp -dsimp only[go_sem,seval,Me];refine zac (fun h=> ?_) (fun h=> ?_)<;>(try rw[h])<;>(try simp only[zah]at h)<;>(try simp -dsimp only[go_sem,seval,Me])
     ·obtain⟨x,hx,C1⟩:=zai ‹i<p.threads.length›;simp -dsimp only[go_sem,seval,Me,hx];refine zas (znE p hs i x hx (by have:=(l5 x C1).1;omega) hh _ 56 (by omega) Bk) ?_;rintro r h' n' ⟨⟨hn,rfl⟩,hk⟩;simp -dsimp only[go_sem,seval,Me];refine zac (fun h=> ?_) (fun h=> ?_)<;>(try rw[h])<;>(try simp only[zah]at h)<;>(try simp -dsimp only[go_sem,seval,Me])
      ·rw[hm,zoJ hx (by simpa using h)];simp
      ·have Ah:=hk (by simpa using h);refine⟨by omega,by simp -dsimp only[go_sem,seval,hw],by simp -dsimp only[go_sem,seval];omega,by simp -dsimp only[go_sem,seval,Ah],?_⟩;rw[hm,zoK hx (by simpa using h)]
     ·have:i=p.threads.length:=by omega
      subst this;rw[hm,zrl];simp
end Rg
end
section
namespace Rg
open Go
def zak (p:Prog):Bool:=decide ((zbM p).1=0)
theorem zdC (p:Prog) (hs:p.sane):Den Γ G 38 [(zP p)]=some (vb (zak p)):=by
 (refine zag Γ38 rfl ?_;dsimp only[f38])
 have h1:=zeV p hs;simp -dsimp only[go_sem,seval,h1];rfl
theorem zhh {α β:Type} {l:List α} {m:List β} {i:Nat} {a:α} {b:β} (h1:l[i]? =some a) (h2:m[i]? =some b):(l.zip m)[i]? =some (a,b):=by
 rw[List.getElem?_zip_eq_some];exact⟨h1,h2⟩
def zc9 (q:Int×Cell):Bool:=decide (0<=q.1)&&decide (q.1<2^q.2.w.toNat)
def zgI (q:Int×Thread):Bool:=decide (-1<=q.1)&&decide (q.1<q.2.points)&& !(decide (q.1= -1)&& !q.2.asleep)
def zhA (p:Prog) (mem at_:List Int):Bool:=
 decide (mem.length=p.cells.length)&&decide (at_.length=p.threads.length)&&(mem.zip p.cells).all zc9&&(at_.zip p.threads).all zgI
def isM (p:Prog) (c:Config):Bool:=zhA p c.mem c.at_&&decide (c.buf.length=p.threads.length)&&c.buf.all List.isEmpty
theorem zam {p:Prog} (h:zak p=true):(zaV p).1=0/\zce p=0/\zbm p=0/\zcT p=0/\zep p 0 p.threads=(0,-1,-1):=by
 rw[zak,decide_eq_true_eq,zbM]at h
 have key: ∀(l:List Thread) (i:Nat),(zep p i l).1=0->zep p i l=(0,-1,-1):=by
  intro l
  induction l with
  | nil=>intro i _;rfl
  | cons x r ih=>
    intro i h;rw[zep]at h⊢;split at h
    ·rename_i h0;rw[if_pos h0];exact ih _ h
    ·rename_i h0;exact absurd h h0
 split at h
 ·rename_i h0;exact absurd h h0
 ·rename_i h0;split at h
  ·rename_i h1;exact absurd h h1
  ·rename_i h1;split at h
   ·rename_i h2;exact absurd h h2
   ·rename_i h2;split at h
    ·rename_i h3;exact absurd h h3
    ·rename_i h3;exact⟨by simpa using h0,by simpa using h1,by simpa using h2,by simpa using h3,key _ _ h⟩
theorem zdm {p:Prog} (h:zak p=true) {x:Cell} (hx:x∈p.cells):1<=x.w/\x.w<=8/\0<=x.init/\x.init<2^x.w.toNat:=by
 have:=zfc (zha (zam h).2.1 x hx);exact⟨this.2.1,this.2.2.1,this.2.2.2.1,this.2.2.2.2.1⟩
end Rg
end
section
namespace Rg
open Go
structure Config.sane (c:Config):Prop where
 mem:c.mem.length<2^48
 at_:c.at_.length<2^48
 buf:c.buf.length<2^48
theorem zm0 (p:Prog) (hf:zak p=true) (c:Config) (hc:c.sane):Den Γ G 43 [(.agg [.t (.sl ((p).cells.map (Cell.enc))),.t (.sl ((p).modules.map (Contract.enc))),.t (.sl ((p).locks.map (Lock.enc))),.t (.sl ((p).threads.map (Thread.enc)))]),(.agg [.t (ints (c).mem),.t (ints (c).at_),.t (.sl ((c).buf.map (fun b=>[.sl (b.map Entry.enc)])))])]=some (vb (isM p c)):=by
 (refine zag Γ43 rfl ?_;dsimp only[f43])
 obtain⟨Dr,CG,Oi⟩:=hc;simp -dsimp only[go_sem,seval]
 by_cases hl:(c.mem.length:Int)=p.cells.length/\(c.at_.length:Int)=p.threads.length/\(c.buf.length:Int)=p.threads.length
 ·obtain⟨l1,l2,l3⟩:=hl;have l1':decide (¬(c.mem.length:Int)=p.cells.length)=false:=by simp[l1]
  have l2':decide (¬(c.at_.length:Int)=p.threads.length)=false:=by simp[l2]
  have l3':decide (¬(c.buf.length:Int)=p.threads.length)=false:=by simp[l3]
  have hF:isM p c=((c.mem.zip p.cells).all zc9&&((c.at_.zip p.threads).all zgI&&c.buf.all List.isEmpty)):=by
   have e1:c.mem.length=p.cells.length:=by omega
   have e2:c.at_.length=p.threads.length:=by omega
   have e3:c.buf.length=p.threads.length:=by omega
   simp[isM,zhA,e1,e2,e3,Bool.and_assoc]
  have z1:(c.mem.zip p.cells).length=c.mem.length:=by rw[List.length_zip];omega
  have z2:(c.at_.zip p.threads).length=c.at_.length:=by rw[List.length_zip];omega
  simp -dsimp only[go_sem,seval,l1',l2',l3'];refine zaT 144114913197949040 c.mem.length (fun i f=>(f 38).v=vi i/\(c.mem.zip p.cells).all zc9=((c.mem.zip p.cells).drop i).all zc9) rfl rfl ⟨by simp -dsimp only[go_sem,seval],rfl⟩ ?_;rintro i f u kk bb hi ⟨Mg,Aa⟩;have hw:=zan i (by omega);simp -dsimp only[go_sem,seval,Mg];refine zac (fun h=> ?_) (fun h=> ?_)<;>(try rw[h])<;>(try simp only[zah]at h)<;>(try simp -dsimp only[go_sem,seval,Mg])
  ·obtain⟨v,hv,_⟩:=zai ‹i<c.mem.length›;obtain⟨x,hx,C1⟩:=zai (show i<p.cells.length by omega);obtain⟨w1,w2,_⟩:=zdm hf C1;have Bo:=ziH (w:=x.w) (by omega);have FT: ¬x.w<0:=by omega
   have hz:=zhh hv hx;simp -dsimp only[go_sem,seval,Mg,hv,hx]
   repeat'(refine zac (fun h=> ?_) (fun h=> ?_)<;>(try rw[h])<;>(try simp only[zah]at h)<;>(try simp -dsimp only[go_sem,seval,Mg,hv,hx,Bo,FT]))
   all_goals first
    | (rw[hF,Aa,za6 hz (by simp only[zc9,Bool.and_eq_false_iff,decide_eq_false_iff_not];omega)];simp;done)
    | (refine⟨by omega,by simp -dsimp only[go_sem,seval,hw],?_⟩
       rw[Aa,za7 hz (by simp only[zc9,zF,decide_eq_true_eq];omega)])
  ·have:i=c.mem.length:=by omega
   subst this;have hz:=zbB zc9 (c.mem.zip p.cells);rw[z1]at hz;rw[hz]at Aa;rw[Aa,Bool.true_and]at hF;clear Aa Mg hw;refine zaT 158456325027375753682481054608 c.at_.length (fun i f=>(f 60).v=vi i/\((c.at_.zip p.threads).all zgI&&c.buf.all List.isEmpty)=(((c.at_.zip p.threads).drop i).all zgI&&(c.buf.drop i).all List.isEmpty)) rfl rfl ⟨by simp -dsimp only[go_sem,seval],rfl⟩ ?_;rintro i f u kk bb hi ⟨IK,Aa⟩;have hw:=zan i (by omega);simp -dsimp only[go_sem,seval,IK];refine zac (fun h=> ?_) (fun h=> ?_)<;>(try rw[h])<;>(try simp only[zah]at h)<;>(try simp -dsimp only[go_sem,seval,IK])
   ·obtain⟨v,hv,_⟩:=zai ‹i<c.at_.length›;obtain⟨x,hx,C1⟩:=zai (show i<p.threads.length by omega);obtain⟨b,Ds,_⟩:=zai (show i<c.buf.length by omega);have hz:=zhh hv hx;cases Bj:zgI (v,x)
    ·rw[hF,Aa,za6 hz Bj,Bool.false_and];simp -dsimp only[go_sem,seval,IK,hv,hx]
     repeat'(refine zac (fun h=> ?_) (fun h=> ?_)<;>(try rw[h])<;>(try simp only[zah]at h)<;>(try simp -dsimp only[go_sem,seval,IK,hv,hx,Ds]))
     all_goals(exfalso;simp only[zgI,Bool.and_eq_false_iff,decide_eq_false_iff_not,Bool.not_eq_false',zF,decide_eq_true_eq,Bool.not_eq_true']at Bj;simp_all;try omega)
    ·have If:=Bj;simp only[zgI,zF,decide_eq_true_eq,Bool.not_eq_true',Bool.and_eq_false_iff,decide_eq_false_iff_not,Bool.not_eq_false']at If;obtain⟨⟨a1,a2⟩,a3⟩:=If;have b1: ¬v< -1:=by omega
     have b2: ¬v>=x.points:=by omega
     cases b with
     | nil=>
       simp -dsimp only[go_sem,seval,IK,hv,hx,b1,b2,Ds]
       repeat'(refine zac (fun h=> ?_) (fun h=> ?_)<;>(try rw[h])<;>(try simp only[zah]at h)<;>(try simp -dsimp only[go_sem,seval,IK,hv,hx,Ds]))
       all_goals first
        | (exfalso;simp_all;done)
        | (refine⟨by omega,by simp -dsimp only[go_sem,seval,hw],?_⟩
           rw[Aa,za7 hz Bj,za7 Ds rfl])
     | cons e r=>
       have D4:(((e::r).length:Nat):Int)>0:=by show((r.length+1:Nat):Int)>0;omega
       rw[hF,Aa,za6 Ds rfl,Bool.and_false];simp -dsimp only[go_sem,seval,IK,hv,hx,b1,b2,Ds,D4]
       repeat'(refine zac (fun h=> ?_) (fun h=> ?_)<;>(try rw[h])<;>(try simp only[zah]at h)<;>(try simp -dsimp only[go_sem,seval,IK,hv,hx,Ds,D4]))
       all_goals(exfalso;simp_all;try omega)
   ·have:i=c.at_.length:=by omega
    subst this;have hz:=zbB zgI (c.at_.zip p.threads);rw[z2]at hz;have Fb:=zbB List.isEmpty c.buf;rw[show c.buf.length=c.at_.length by omega]at Fb;rw[hF,Aa,hz,Fb];rfl
 ·have hF:isM p c=false:=by
   by_cases e1:c.mem.length=p.cells.length
   ·by_cases e2:c.at_.length=p.threads.length
    ·have e3: ¬c.buf.length=p.threads.length:=by omega
     simp[isM,e3]
    ·simp[isM,zhA,e2]
   ·simp[isM,zhA,e1]
  rw[hF]
  repeat'(refine zac (fun h=> ?_) (fun h=> ?_)<;>(try rw[h])<;>(try simp only[zah]at h)<;>(try simp -dsimp only[go_sem,seval]))
  all_goals(exfalso;omega)
end Rg
end
section
namespace Rg
open Go
theorem zaF.cells {h:Nat->Option O} {x:Nat} {v:V} {sz:Nat} {rows:List (List V)} (o:zaF h x v sz rows):v.cells=some [v]:=by
 rcases o with⟨rfl,_⟩ | ⟨k,rfl,_,_⟩<;>rfl
def zcm (p:Prog):Config:=
 if zak p then⟨p.cells.map Cell.init,p.threads.map fun x=>if x.asleep then -1 else 0,p.threads.map fun _=>[]⟩else⟨[],[],[]⟩
theorem zg0 (h:Nat->Option O): ∀n:Nat,(List.replicate n [V.t .nils]).mapM (fun row=>row.mapM (toT h 999))=some (List.replicate n [T.sl []])
 | 0=>rfl
 | n+1=>by rw[List.replicate_succ,List.replicate_succ,List.mapM_cons,zg0 h n];rfl
theorem zdK {α β:Type} (l:List α) (b:β):List.replicate l.length b=l.map fun _=>b:=by
 induction l with
 | nil=>rfl
 | cons x r ih=>simp[List.replicate_succ,ih]
def zde (l:List Int) (i:Nat):List Int:=l.take i++List.replicate (l.length-i) 0
theorem zpB (l:List Int):zde l 0=List.replicate l.length 0:=by simp[zde]
theorem zkS (l:List Int):zde l l.length=l:=by simp[zde]
theorem zkR (l:List Int) {i:Nat} (h:i<=l.length):(zde l i).length=l.length:=by simp[zde];omega
theorem zkQ {l:List Int} {i:Nat} {x:Int} (h:l[i]? =some x):(zde l i).set i x=zde l (i+1):=by
 have hi:i<l.length:=(zH.1 h).1;apply List.ext_getElem?;intro j;simp only[zde];rw[List.getElem?_set];have Ad:(l.take i).length=i:=by simp;omega
 have Af:(l.take (i+1)).length=i+1:=by simp;omega
 by_cases hj:i=j
 ·subst hj;have Ac:i<(l.take i++List.replicate (l.length-i) 0).length:=by simp;omega
  rw[if_pos rfl,if_pos Ac,List.getElem?_append_left (by omega),zO,if_pos (by omega),h]
 ·rw[if_neg hj]
  by_cases H1:j<i
  ·rw[List.getElem?_append_left (by omega),List.getElem?_append_left (by omega),zO,zO,if_pos H1,if_pos (by omega)]
  ·rw[List.getElem?_append_right (by omega),List.getElem?_append_right (by omega),Ad,Af,List.getElem?_replicate,List.getElem?_replicate]
   by_cases Pi:j<l.length
   ·rw[if_pos (by omega),if_pos (by omega)]
   ·rw[if_neg (by omega),if_neg (by omega)]
theorem zoj {l:List Int} {i:Nat} (h:l[i]? =some 0):zde l i=zde l (i+1):=by
 have hi:i<l.length:=(zH.1 h).1;simp only[zde,zaf h];rw[zQ,show l.length-i=(l.length-(i+1))+1 by omega,List.replicate_succ];rfl
theorem zaI (l:List Int) (i:Nat) (x:Int):(zae l).set i [vi x]=zae (l.set i x):=by simp[zae,List.map_set]
theorem zgR (n:Nat):zae (List.replicate n 0)=List.replicate n [vi 0]:=by simp[zae]
theorem zbn {l:List Int} {i:Nat} (h:i<l.length):(zae l)[i]? =some [vi l[i]]:=by simp[zae,h]
theorem zbw (h:Nat->Option O) (d:Nat) (l:List Int):(zae l).mapM (fun row=>row.mapM (toT h d))=some (l.map fun n=>[ti n]):=zdJ h d (l.map fun n=>[ti n]) (zbP _)
theorem zki (p:Prog) (hs:p.sane):Den Γ G 12 [(zP p)]=some (.agg [.t (ints (zcm p).mem),.t (ints (zcm p).at_),.t (.sl ((zcm p).buf.map (fun b=>[.sl (b.map Entry.enc)])))]):=by
 (refine zag Γ12 rfl ?_;dsimp only[f12])
 have h1:=zdC p hs;simp -dsimp only[go_sem,seval,h1];refine zac (fun h=> ?_) (fun h=> ?_)<;>(try rw[h])<;>(try simp only[zah]at h)<;>(try simp -dsimp only[go_sem,seval])
 ·simp[zcm,h]
 ·have hf:zak p=true:=by assumption
  obtain⟨⟨l1,l2,l3,l4⟩,l5⟩:=zal (zam hf).1;have A5:(p.threads.length:Int)<=4294967296:=by omega
  have HV:(p.cells.length:Int)<=4294967296:=by omega
  generalize Fk:p.cells.map Cell.init=mems
  have Jw:mems.length=p.cells.length:=by rw[<- Fk];simp
  generalize Bj:(p.threads.map fun x=>if x.asleep then(-1:Int)else 0)=ats
  have FH:ats.length=p.threads.length:=by rw[<- Bj];simp
  simp -dsimp only[go_sem,seval,A5,HV,Int.le_refl];have r1:=zgR p.cells.length;have r2:=zgR p.threads.length
  refine zaq 1099444518928 p.cells.length (fun i f h x=>(f 26).v=vi i/\h 8=some (.rows 1 (zae (zde mems i)) false)/\h 12=some (.rows 1 (zae (List.replicate p.threads.length 0)) false)/\h 16=some (.rows 1 (List.replicate p.threads.length [.t .nils]) false))
   rfl ⟨by simp -dsimp only[go_sem,seval],by simp -dsimp only[go_sem,seval];rw[zpB,Jw,r1],by simp -dsimp only[go_sem,seval];rw[r2],by simp -dsimp only[go_sem,seval]⟩ ?_
  rintro i f u H x bs hi ⟨Fx,g8,g12,g16⟩;have hw:=zan i (by omega);simp -dsimp only[go_sem,seval,Fx];refine zac (fun h=> ?_) (fun h=> ?_)<;>(try rw[h])<;>(try simp only[zah]at h)<;>(try simp -dsimp only[go_sem,seval,Fx])
  ·obtain⟨c,hc,_⟩:=zai ‹i<p.cells.length›;have Bz:mems[i]? =some c.init:=by rw[<- Fk];simp[hc]
   have H5:=zkR mems (i:=i) (by omega);have B5:=zbn (l:=zde mems i) (i:=i) (by omega);have AE:=zaI (zde mems i) i c.init;rw[zkQ Bz]at AE;have AV:i<p.cells.length:=by assumption
   simp -dsimp only[go_sem,seval,Fx,hc,g8,B5,AV];refine⟨by omega,by simp -dsimp only[go_sem,seval,hw],?_,?_,?_⟩
   ·simp -dsimp only[go_sem,seval,AE]
   ·simp -dsimp only[go_sem,seval,g12]
   ·simp -dsimp only[go_sem,seval,g16]
  ·have:i=p.cells.length:=by omega
   subst this;rw[<- Jw,zkS]at g8
   refine zaq 144106391982833696 p.threads.length (fun i f h x=>(f 43).v=vi i/\h 8=some (.rows 1 (zae mems) false)/\h 12=some (.rows 1 (zae (zde ats i)) false)/\h 16=some (.rows 1 (List.replicate p.threads.length [.t .nils]) false))
    rfl ⟨by simp -dsimp only[go_sem,seval],by simp -dsimp only[go_sem,seval,g8],by simp -dsimp only[go_sem,seval,g12,zpB,FH],by simp -dsimp only[go_sem,seval,g16]⟩ ?_
   clear Fx g8 g12 g16 hw;rintro i f u H x bs hi ⟨Mf,g8,g12,g16⟩;have hw:=zan i (by omega);simp -dsimp only[go_sem,seval,Mf];refine zac (fun h=> ?_) (fun h=> ?_)<;>(try rw[h])<;>(try simp only[zah]at h)<;>(try simp -dsimp only[go_sem,seval,Mf])
   ·obtain⟨c,hc,_⟩:=zai ‹i<p.threads.length›;have Bz:ats[i]? =some (if c.asleep then(-1:Int)else 0):=by rw[<- Bj];simp[hc]
    have H5:=zkR ats (i:=i) (by omega);have B5:=zbn (l:=zde ats i) (i:=i) (by omega);have AV:i<p.threads.length:=by assumption
    simp -dsimp only[go_sem,seval,Mf,hc];cases Eo:c.asleep
    ·rw[Eo]at Bz;have hz:=zoj (l:=ats) (i:=i) (by simpa using Bz);simp -dsimp only[go_sem,seval,Mf];refine⟨by omega,by simp -dsimp only[go_sem,seval,hw],by simp -dsimp only[go_sem,seval,g8],by simp -dsimp only[go_sem,seval,g12,hz],by simp -dsimp only[go_sem,seval,g16]⟩
    ·rw[Eo]at Bz;have AE:=zaI (zde ats i) i (-1);rw[zkQ (by simpa using Bz)]at AE;simp -dsimp only[go_sem,seval,Mf,g12,B5,AV];refine⟨by omega,by simp -dsimp only[go_sem,seval,hw],by simp -dsimp only[go_sem,seval,g8],by simp -dsimp only[go_sem,seval,AE],by simp -dsimp only[go_sem,seval,g16]⟩
   ·have:i=p.threads.length:=by omega
    subst this;rw[<- FH,zkS]at g12;have t2:List.take p.threads.length (List.replicate p.threads.length [V.t .nils])=List.replicate p.threads.length [V.t .nils]:=List.take_of_length_le (by simp);have t3:=zg0 H p.threads.length;have t4:List.take p.cells.length (zae mems)=zae mems:=List.take_of_length_le (by rw[zab];omega);have t5:List.take p.threads.length (zae ats)=zae ats:=List.take_of_length_le (by rw[zab];omega);have t6:=zbw H 999 mems;have t7:=zbw H 999 ats;simp -dsimp only[go_sem,seval,t2,t3,t4,t5,t6,t7,g8,g12,g16,List.length_replicate,Nat.le_refl,zab,Jw,FH];simp[zcm,hf,Bj,Fk,zdK]
end Rg
end
section
-- FULL
namespace Rg
open Go
def zc1 (p:Prog) (t:Int):Int:=match p.threads[t.toNat]? with
 | some x=>x.points
 | none=>0
def zb8 (p:Prog) (c:Config) (t:Int) (s:Step):Bool:=
 decide (atI c.at_ t=s.fr)&&decide (s.guard.eval c.mem c.mem=1)&&
  (if s.kind=6 then decide (atI c.at_ s.target= -1)else if s.kind=7 then decide (atI c.at_ s.target=zc1 p s.target-1)else true)
structure StepOk (p:Prog) (t:Int) (x:Thread) (s:Step):Prop where
 kind:1<=s.kind/\s.kind<=7
 fr:0<=s.fr/\s.fr<x.points-1
 to:0<=s.to/\s.to<x.points
 rng:zjN p s
 row:zbG p t s=true
 tgt:s.kind=6\/s.kind=7->inR s.target p.threads.length=true/\s.target≠t
 wid: ∀a∈s.set,∃y,p.cells[a.cell.toNat]? =some y/\a.to.w=y.w
 dif: ∀(i j:Nat) (a b:Assign),s.set[i]? =some a->s.set[j]? =some b->a.cell=b.cell->i=j
theorem zkl {p:Prog} {set:List Assign}: ∀{l:List Assign} {i:Nat},(zco (zbC p set) i l).1=0-> ∀a∈l,∃y,p.cells[a.cell.toNat]? =some y/\a.to.w=y.w
 | [],_,_,a,ha=>by simp at ha
 | x::r,i,h,a,ha=>by
   rw[zco]at h;split at h
   ·rename_i h0;rcases List.mem_cons.1 ha with rfl | ha
    ·unfold zbC at h0;split at h0
     ·simp at h0
     ·split at h0
      ·simp at h0
      ·rename_i h2;simp only[Bool.or_eq_true,not_or,Bool.not_eq_true',Bool.not_eq_false]at h2;have:=h2.2;unfold zby at this;rcases hy:p.cells[a.cell.toNat]? with _ | y
       ·rw[hy]at this;simp at this
       ·rw[hy]at this;exact⟨y,rfl,by simpa using this⟩
    ·exact zkl h a ha
   ·rename_i h0;exact absurd h h0
theorem zkm {p:Prog} {set:List Assign}: ∀{l:List Assign} {i:Nat},set.drop i=l->(zco (zbC p set) i l).1=0-> ∀(j:Nat) (a:Assign),i<=j->set[j]? =some a->(set.take j).any (fun b=>decide (b.cell=a.cell))=false
 | [],i,hd,_,j,a,Av,ha=>by
   have:set.length<=i:=by simpa using hd
   have:=(zH.1 ha).1
   omega
 | x::r,i,hd,h,j,a,Av,ha=>by
   rw[zco]at h
   have OQ:set[i]? =some x:=by
    have:=congrArg (·[0]?) hd;simpa using this
   have GW:set.drop (i+1)=r:=by
    have:=zdo OQ;rw[hd]at this;exact(List.cons.inj this).2.symm
   split at h
   ·rename_i h0
    by_cases hj:j=i
    ·subst hj;rw[OQ]at ha;cases ha;unfold zbC at h0;split at h0
     ·simp at h0
     ·rename_i h1;simp only[Bool.or_eq_true,not_or,Bool.not_eq_true]at h1;exact h1.2
    ·exact zkm GW h j a (by omega) ha
   ·rename_i h0;exact absurd h h0
theorem zrt {p:Prog} {t:Int} {x:Thread} {s:Step} (h:zaS p t x.points s=0):StepOk p t x s:=by
 unfold zaS at h;split at h
 ·simp at h
 ·rename_i hb;split at h
  ·simp at h
  ·rename_i hg;split at h
   ·rename_i h0;exact absurd h h0
   ·rename_i hs;split at h
    ·rename_i hk;have hs:(zco (zbC p s.set) 0 s.set).1=0:=by simpa using hs
     have Bf:zdW p x.points s=false:=by simpa using hb
     simp only[zdW,Bool.or_eq_false_iff,Bool.and_eq_false_iff,Bool.not_eq_false',decide_eq_false_iff_not]at Bf;obtain⟨⟨⟨⟨⟨⟨b1,b2⟩,b3⟩,b4⟩,b5⟩,b6⟩,b7⟩:=Bf;simp only[inR,decide_eq_true_eq]at b3 b4;simp only[Bool.or_eq_true,not_or,Bool.not_eq_true',Bool.not_eq_false,decide_eq_true_eq]at hg;refine⟨by omega,b3,b4,⟨hg.1,zed (set:=s.set) hs⟩,hk,fun Q3=> ?_,zkl hs,fun i j a b ha hb Ca=> ?_⟩
     ·rw[zbG,if_neg (by omega),if_neg (by omega),if_neg (by omega),if_neg (by omega),if_neg (by omega)]at hk
      have hj:zdd p t s=true:=by
       split at hk
       ·simp only[zF]at hk;exact hk.1
       ·exact hk
      simp only[zdd,zF,decide_eq_true_eq]at hj;exact⟨hj.2,hj.1.2⟩
     ·have key: ∀(i j:Nat) (a b:Assign),s.set[i]? =some a->s.set[j]? =some b->a.cell=b.cell-> ¬i<j:=fun i j a b ha hb Ca Ad=>by
       have:=zkm (i:=0) rfl hs j b (by omega) hb;rw[zcx ha Ad (by simpa using Ca)]at this;simp at this
      have h1:=key i j a b ha hb Ca;have h2:=key j i b a hb ha Ca.symm;omega
    ·simp at h
theorem zmf {p:Prog}: ∀{l:List Thread} {i:Nat},zep p i l=(0,-1,-1)-> ∀(j:Nat) (x:Thread),l[j]? =some x->(zap p (i+j) x).1=0
 | [],_,_,j,x,hx=>by simp at hx
 | y::r,i,h,j,x,hx=>by
   rw[zep]at h;split at h
   ·rename_i h0
    cases j with
    | zero=>simp at hx;subst hx;exact h0
    | succ j=>
      have:=zmf h j x (by simpa using hx);rw[show i+(j+1)=i+1+j by omega];exact this
   ·rename_i h0;exact absurd (congrArg Prod.fst h) h0
theorem zg4 {p:Prog} (hf:zak p=true) {t:Nat} {x:Thread} (hx:p.threads[t]? =some x):(zap p t x).1=0:=by
 have:=zmf (zam hf).2.2.2.2 t x hx;simpa using this
theorem zsL {α:Type} {f:Nat->α->Int}: ∀{l:List α} {i:Nat},(zco f i l).1=0-> ∀(j:Nat) (x:α),l[j]? =some x->f (i+j) x=0
 | [],_,_,j,x,hx=>by simp at hx
 | y::r,i,h,j,x,hx=>by
   rw[zco]at h;split at h
   ·rename_i h0
    cases j with
    | zero=>simp at hx;subst hx;exact h0
    | succ j=>
      have:=zsL h j x (by simpa using hx);rw[show i+(j+1)=i+1+j by omega];exact this
   ·rename_i h0;exact absurd h h0
theorem zhJ {p:Prog} {t:Nat} {x:Thread} (h:(zap p t x).1=0):1<=x.points/\(x.asserts.length:Int)=x.points/\(x.modules.length:Int)=x.points/\(zco (fun _ s=>zaS p t x.points s) 0 x.steps).1=0:=by
 unfold zap at h;split at h
 ·simp at h
 ·split at h
  ·simp at h
  ·split at h
   ·simp at h
   ·rename_i h1;split at h
    ·simp at h
    ·split at h
     ·simp at h
     ·split at h
      ·rename_i h0;exact absurd h h0
      ·rename_i h0;exact⟨by omega,by omega,by omega,by simpa using h0⟩
theorem zb7 {p:Prog} (hf:zak p=true) {t i:Nat} {x:Thread} {s:Step} (hx:p.threads[t]? =some x) (hs:x.steps[i]? =some s):StepOk p t x s:=by
 have h1:=(zhJ (zg4 hf hx)).2.2.2;exact zrt (zsL h1 i s hs)
end Rg
end
section
-- FULL
namespace Rg
open Go
theorem zvS {p:Prog} {c:Config} (h:isM p c=true):c.mem.length=p.cells.length/\c.at_.length=p.threads.length/\c.buf.length=p.threads.length:=by
 simp only[isM,zhA,zF,decide_eq_true_eq]at h;exact⟨h.1.1.1.1.1,h.1.1.1.1.2,h.1.2⟩
theorem zdF {l:List Int} {n:Int} {a:Int} (h:l[n.toNat]? =some a):atI l n=a:=by simp[atI,List.getD,h]
theorem zcQ {p:Prog} (hf:zak p=true) {t:Nat} {x:Thread} (hx:p.threads[t]? =some x):1<=x.points/\x.points<=48:=
 ⟨(zhJ (zg4 hf hx)).1,((zal (zam hf).1).2 x (zL hx)).1⟩
theorem znb (p:Prog) (hf:zak p=true) (c:Config) (hc:isM p c=true) (t:Nat) (x:Thread) (hx:p.threads[t]? =some x) (i:Nat) (s:Step) (hs:x.steps[i]? =some s):
 Den Γ G 67 [(zP p),(.agg [.t (ints (c).mem),.t (ints (c).at_),.t (.sl ((c).buf.map (fun b=>[.sl (b.map Entry.enc)])))]),vi t,vi i]=some (vb (zb8 p c t s)):=by
 obtain⟨l1,l2,l3⟩:=zvS hc;have Bm:=zb7 hf hx hs;have Dd:t<p.threads.length:=(zH.1 hx).1;obtain⟨a,ha,_⟩:=zai (show t<c.at_.length by omega);have Gd:atI c.at_ t=a:=zdF (by simpa using ha);have Ak:=zd4 s.guard c.mem c.mem
 (refine zag Γ67 rfl ?_;dsimp only[f67])
 by_cases h1:a=s.fr
 ·by_cases h2:s.guard.eval c.mem c.mem=1
  ·have hE:zb8 p c t s=(if s.kind=6 then decide (atI c.at_ s.target= -1)else if s.kind=7 then decide (atI c.at_ s.target=zc1 p s.target-1)else true):=by
    simp[zb8,Gd,h1,h2]
   rw[h2]at Ak;rw[hE]
   by_cases hk:s.kind=6\/s.kind=7
   ·obtain⟨hr,_⟩:=Bm.tgt hk;simp only[inR,decide_eq_true_eq]at hr;obtain⟨b,hb,_⟩:=zai (show s.target.toNat<c.at_.length by omega);obtain⟨y,hy,_⟩:=zai (show s.target.toNat<p.threads.length by omega);have Ml:=zcQ hf hy;have hw:IntKind.i64.wrap (y.points-1)=y.points-1:=zaH (by omega);have Bf:=zdF hb;have G6:zc1 p s.target=y.points:=by simp[zc1,hy]
    rcases hk with hk | hk
    ·simp -dsimp [go_sem,hx,hs,ha,h1,Ak,hk,hr.1,hb,Bf]
    ·simp -dsimp [go_sem,hx,hs,ha,h1,Ak,hk,hr.1,hb,hy,hw,Bf,G6]
   ·have k6: ¬s.kind=6:=by omega
    have k7: ¬s.kind=7:=by omega
    simp -dsimp [go_sem,hx,hs,ha,h1,Ak,k6,k7]
  ·have hE:zb8 p c t s=false:=by simp[zb8,h2]
   rw[hE];simp -dsimp [go_sem,hx,hs,ha,h1,Ak,h2]
 ·have hE:zb8 p c t s=false:=by simp[zb8,Gd,h1]
  rw[hE];simp -dsimp [go_sem,hx,hs,ha,h1]
def zcK (p:Prog) (c:Config) (t:Nat) (x:Thread) (i:Nat):List Choice:=
 (x.steps.take i).zipIdx.filterMap fun q=>if zb8 p c t q.1 then some ⟨t,q.2,0⟩else none
def zcu (p:Prog) (c:Config) (i:Nat):List Choice:=(p.threads.take i).zipIdx.flatMap fun q=>zcK p c q.2 q.1 q.1.steps.length
def zbt (p:Prog) (c:Config):List Choice:=zcu p c p.threads.length
theorem zdV {α:Type} {l:List α} {i:Nat} {x:α} (h:l[i]? =some x):(l.take (i+1)).zipIdx=(l.take i).zipIdx++[(x,i)]:=by
 have hi:i<l.length:=(zH.1 h).1;rw[zaf h,List.zipIdx_append];simp;omega
theorem zlR {p:Prog} {c:Config} {t:Nat} {x:Thread} {i:Nat} {s:Step} (h:x.steps[i]? =some s):
 zcK p c t x (i+1)=zcK p c t x i++(if zb8 p c t s then [⟨t,i,0⟩]else []):=by
 unfold zcK;rw[zdV h,List.filterMap_append]
 congr 1
 cases hh:zb8 p c t s<;>simp[hh]
theorem zg8 {p:Prog} {c:Config} {i:Nat} {x:Thread} (h:p.threads[i]? =some x):zcu p c (i+1)=zcu p c i++zcK p c i x x.steps.length:=by
 unfold zcu;rw[zdV h,List.flatMap_append];simp
theorem zh4 (p:Prog) (c:Config) (t:Nat) (x:Thread) (i:Nat):(zcK p c t x i).length<=i:=by
 unfold zcK;refine Nat.le_trans (List.length_filterMap_le _ _) ?_;simp;omega
theorem zem {p:Prog} (hf:zak p=true) (c:Config): ∀i:Nat,(zcu p c i).length<=64*i
 | 0=>by simp[zcu]
 | i+1=>by
   have ih:=zem hf c i;rcases hx:p.threads[i]? with _ | x
   ·have:p.threads.length<=i:=by simpa using hx
    have e:zcu p c (i+1)=zcu p c i:=by
     unfold zcu;rw[List.take_of_length_le (by omega),List.take_of_length_le (by omega)]
    rw[e];omega
   ·have h1:=((zal (zam hf).1).2 x (zL hx)).2.1;have h2:=zh4 p c i x x.steps.length;rw[zg8 hx,zM];omega
def zbe (l:List Choice):List (List V):=(l.map Choice.enc).map (·.map V.t)
theorem zbX (l:List Choice):(zbe l).length=l.length:=by simp[zbe]
theorem zcY (l:List Choice) (c:Choice):zbe (l++[c])=zbe l++[[vi c.thread,vi c.step,vi c.cell]]:=by simp[zbe,Choice.enc]
theorem zd0 (l:List Choice):((zbe l).all fun r=>decide (r.length=3))=true:=by simp[zbe,Choice.enc]
theorem zcN (l:List Choice): ∀e∈l.map Choice.enc,∀t∈e,T.norm t=t:=by
 intro e he t ht;obtain⟨n,_,rfl⟩:=List.mem_map.1 he;simp[Choice.enc]at ht;rcases ht with rfl | rfl | rfl<;>rfl
theorem zh5 (p:Prog) (hf:zak p=true) (c:Config) (hc:isM p c=true):Den Γ G 44 [(zP p),(.agg [.t (ints (c).mem),.t (ints (c).at_),.t (.sl ((c).buf.map (fun b=>[.sl (b.map Entry.enc)])))])]=some (.t (.sl ((zbt p c).map Choice.enc))):=by
 (refine zag Γ44 rfl ?_;dsimp only[f44])
 obtain⟨⟨l1,l2,l3,l4⟩,l5⟩:=zal (zam hf).1;simp -dsimp only[go_sem,seval];refine zaq 137438951648 p.threads.length (fun i f h x=>(f 11).v=vi i/\zaF h x (f 5).v 3 (zbe (zcu p c i))) rfl ⟨by simp -dsimp only[go_sem,seval],.inl ⟨by simp -dsimp only[go_sem,seval],rfl⟩⟩ ?_;rintro i f u H x bs hi ⟨h11,Ab⟩;have hw:=zan i (by omega);simp -dsimp only[go_sem,seval,h11];refine zac (fun h=> ?_) (fun h=> ?_)<;>(try rw[h])<;>(try simp only[zah]at h)<;>(try simp -dsimp only[go_sem,seval,h11])
 ·obtain⟨t,ht,IW⟩:=zai ‹i<p.threads.length›;obtain⟨_,AE,_⟩:=l5 t IW;simp -dsimp only[go_sem,seval,h11,ht];refine zaq 68717379744 t.steps.length (fun j f' h x=>(f' 21).v=vi j/\zaF h x (f' 5).v 3 (zbe (zcu p c i++zcK p c i t j))) rfl ⟨by simp -dsimp only[go_sem,seval],by simp -dsimp only[go_sem,seval,zcK,List.take_zero,List.zipIdx_nil,List.filterMap_nil,List.append_nil];exact Ab.le (by omega)⟩ ?_;clear Ab;rintro j f' u' H' x' bs' hj ⟨Hp,Ab⟩;have Aw:=zan j (by omega);simp -dsimp only[go_sem,seval,Hp];refine zac (fun h=> ?_) (fun h=> ?_)<;>(try rw[h])<;>(try simp only[zah]at h)<;>(try simp -dsimp only[go_sem,seval,Hp,h11])
  ·obtain⟨s,hs,F3⟩:=zai ‹j<t.steps.length›;have Ch:=znb p hf c hc i t ht j s hs;have A7:=zlR (p:=p) (c:=c) (t:=i) hs;have AO:=zem hf c i;have C7:=zh4 p c i t j;simp -dsimp only[go_sem,seval,Hp,h11,Ch];refine zac (fun h=> ?_) (fun h=> ?_)<;>(try rw[h])<;>(try simp only[zah]at h)<;>(try simp -dsimp only[go_sem,seval,Hp,h11])
   ·rw[h]at A7;have v1:=Ab.valOf;have v2:=Ab.r2;have v3:=Ab.r3;have v4:=Ab.r4;have v5:=Ab.r5;simp -dsimp only[go_sem,seval,Hp,h11,v1,v2,v3,v4,v5];refine zav (Ab.upd (by omega) _) (by omega) (by rw[zbX,zM];omega) (by decide) rfl (zd0 _) ?_;intro v hp hO Bp Aq;have w1:=hO.valOf;simp -dsimp only[go_sem,seval,w1,Hp];refine⟨by omega,by simp -dsimp only[go_sem,seval,Aw],?_⟩;simp -dsimp only[go_sem,seval,A7,if_true];rw[<- zQ,zcY];exact hO.le (by omega)
   ·rw[h]at A7;refine⟨by omega,by simp -dsimp only[go_sem,seval,Aw],?_⟩;simp -dsimp only[go_sem,seval,A7,List.append_nil,zG,if_false];exact Ab.le (by omega)
  ·have:j=t.steps.length:=by omega
   subst this;refine⟨by omega,by simp -dsimp only[go_sem,seval,hw],?_⟩;simp -dsimp only[go_sem,seval];rw[zg8 ht];exact Ab.le (by omega)
 ·have:i=p.threads.length:=by omega
  subst this;have v1:=Ab.valOf;have Bh:=Ab.reify (zcN _);have v5:=Ab.resVal;simp only[Rg.resVal]at v5;simp -dsimp only[go_sem,seval,v1,v5];exact Bh
def zwZ (l:List Choice) (x:Choice):Bool:=l.any fun y=>decide (y=x)
theorem zjC (a b:Choice):(decide (a.thread=b.thread)&&(decide (a.step=b.step)&&decide (a.cell=b.cell)))=decide (a=b):=by
 cases a;cases b;simp only[Choice.mk.injEq];simp
def zaG (mem view:List Int) (set:List Assign):List Int:=set.foldl (fun m a=>m.set a.cell.toNat (a.to.eval view view)) mem
theorem zbL (view:List Int): ∀(set:List Assign) (mem:List Int),(zaG mem view set).length=mem.length
 | [],mem=>rfl
 | a::r,mem=>by
   have:=zbL view r (mem.set a.cell.toNat (a.to.eval view view));simpa[zaG]using this
theorem zhi {mem view:List Int} {set:List Assign} {i:Nat} {a:Assign} (h:set[i]? =some a):zaG mem view (set.take (i+1))=(zaG mem view (set.take i)).set a.cell.toNat (a.to.eval view view):=by
 unfold zaG;rw[zaf h,List.foldl_append];rfl
end Rg
end
