/- Part of the proof of laws of relyguardlaw31. No condition. -/
import Derived.Test.YtcmeofagpechdaaGreatDoorPartBE
set_option linter.unusedSimpArgs false
set_option linter.unusedVariables false
section
namespace Rg
open Go
theorem zxp.cells {h:Nat->Option O} {x:Nat} {v:V} {sz:Nat} {rows:List (List V)} (o:zxp h x v sz rows):v.cells=some [v]:=by
 rcases o with⟨rfl,_⟩ | ⟨k,rfl,_,_⟩<;>rfl
def startM (p:Prog):Config:=
 if formedM p then⟨p.cells.map Cell.init,p.threads.map fun x=>if x.asleep then -1 else 0,p.threads.map fun _=>[]⟩else⟨[],[],[]⟩
theorem zyd (h:Nat->Option O): ∀n:Nat,(List.replicate n [V.t .nils]).mapM (fun row=>row.mapM (toT h 999))=some (List.replicate n [T.sl []])
 | 0=>rfl
 | n+1=>by rw[List.replicate_succ,List.replicate_succ,List.mapM_cons,zyd h n];rfl
theorem zxu {α β:Type} (l:List α) (b:β):List.replicate l.length b=l.map fun _=>b:=by
 induction l with
 | nil=>rfl
 | cons x r ih=>simp[List.replicate_succ,ih]
end Rg
end
section
namespace Rg
open Go
def filled (l:List Int) (i:Nat):List Int:=l.take i++List.replicate (l.length-i) 0
theorem zzO (l:List Int):filled l 0=List.replicate l.length 0:=by simp[filled]
theorem zyU (l:List Int):filled l l.length=l:=by simp[filled]
theorem zyT (l:List Int) {i:Nat} (h:i<=l.length):(filled l i).length=l.length:=by simp[filled];omega
theorem zyS {l:List Int} {i:Nat} {x:Int} (h:l[i]? =some x):(filled l i).set i x=filled l (i+1):=by
 have hi:i<l.length:=(zH.1 h).1;apply List.ext_getElem?;intro j;simp only[filled];rw[List.getElem?_set];have hlt:(l.take i).length=i:=by simp;omega
 have hlt1:(l.take (i+1)).length=i+1:=by simp;omega
 by_cases hj:i=j
 ·subst hj;have hlen:i<(l.take i++List.replicate (l.length-i) 0).length:=by simp;omega
  rw[if_pos rfl,if_pos hlen,List.getElem?_append_left (by omega),List.getElem?_take,if_pos (by omega),h]
 ·rw[if_neg hj]
  by_cases hj2:j<i
  ·rw[List.getElem?_append_left (by omega),List.getElem?_append_left (by omega),List.getElem?_take,List.getElem?_take,if_pos hj2,if_pos (by omega)]
  ·rw[List.getElem?_append_right (by omega),List.getElem?_append_right (by omega),hlt,hlt1,List.getElem?_replicate,List.getElem?_replicate]
   by_cases hj3:j<l.length
   ·rw[if_pos (by omega),if_pos (by omega)]
   ·rw[if_neg (by omega),if_neg (by omega)]
theorem zzw {l:List Int} {i:Nat} (h:l[i]? =some 0):filled l i=filled l (i+1):=by
 have hi:i<l.length:=(zH.1 h).1;simp only[filled,zae h];rw[List.append_assoc,show l.length-i=(l.length-(i+1))+1 by omega,List.replicate_succ];rfl
theorem zxn (l:List Int) (i:Nat) (x:Int):(rowsI l).set i [vi x]=rowsI (l.set i x):=by simp[rowsI,List.map_set]
theorem zza (n:Nat):rowsI (List.replicate n 0)=List.replicate n [vi 0]:=by simp[rowsI]
theorem zxo {l:List Int} {i:Nat} (h:i<l.length):(rowsI l)[i]? =some [vi l[i]]:=by simp[rowsI,h]
theorem zxr (h:Nat->Option O) (d:Nat) (l:List Int):(rowsI l).mapM (fun row=>row.mapM (toT h d))=some (l.map fun n=>[ti n]):=zef h d (l.map fun n=>[ti n]) (ints_norm _)
theorem zx0 (p:Prog) (hs:p.sane):Den Γ G 12 [(.agg [.t (.sl ((p).cells.map (Cell.enc))),.t (.sl ((p).modules.map (Contract.enc))),.t (.sl ((p).locks.map (Lock.enc))),.t (.sl ((p).threads.map (Thread.enc)))])]=some (.agg [.t (ints (startM p).mem),.t (ints (startM p).at_),.t (.sl ((startM p).buf.map (fun b=>[.sl (b.map Entry.enc)])))]):=by
 (refine den_ofY Γ12 rfl ?_;dsimp only[f12])
 have h1:=zxD p hs;simp -dsimp only[go_sem,seval,h1];refine csplit (fun h=> ?_) (fun h=> ?_)<;>(try rw[h])<;>(try simp only[zab]at h)<;>(try simp -dsimp only[go_sem,seval])
 ·simp[startM,h]
 ·have hf:formedM p=true:=by assumption
  obtain⟨⟨l1,l2,l3,l4⟩,l5⟩:=limits_points (formed_limits hf).1;have hle:(p.threads.length:Int)<=4294967296:=by omega
  have hle2:(p.cells.length:Int)<=4294967296:=by omega
  generalize hme:p.cells.map Cell.init=mems
  have hmel:mems.length=p.cells.length:=by rw[<- hme];simp
  generalize hat:(p.threads.map fun x=>if x.asleep then(-1:Int)else 0)=ats
  have hatl:ats.length=p.threads.length:=by rw[<- hat];simp
  simp -dsimp only[go_sem,seval,hle,hle2,Int.le_refl];have r1:=zza p.cells.length;have r2:=zza p.threads.length
  refine zaj 1099444518928 p.cells.length (fun i f h x=>(f 26).v=vi i/\h 8=some (.rows 1 (rowsI (filled mems i)) false)/\h 12=some (.rows 1 (rowsI (List.replicate p.threads.length 0)) false)/\h 16=some (.rows 1 (List.replicate p.threads.length [.t .nils]) false))
   rfl ⟨by simp -dsimp only[go_sem,seval],by simp -dsimp only[go_sem,seval];rw[zzO,hmel,r1],by simp -dsimp only[go_sem,seval];rw[r2],by simp -dsimp only[go_sem,seval]⟩ ?_
  rintro i f u H x bs hi ⟨h26,g8,g12,g16⟩;have hw:=zah i (by omega);simp -dsimp only[go_sem,seval,h26];refine csplit (fun h=> ?_) (fun h=> ?_)<;>(try rw[h])<;>(try simp only[zab]at h)<;>(try simp -dsimp only[go_sem,seval,h26])
  ·obtain⟨c,hc,_⟩:=zaf ‹i<p.cells.length›;have hc':mems[i]? =some c.init:=by rw[<- hme];simp[hc]
   have hfl:=zyT mems (i:=i) (by omega);have hgt:=zxo (l:=filled mems i) (i:=i) (by omega);have hst:=zxn (filled mems i) i c.init;rw[zyS hc']at hst;have hil:i<p.cells.length:=by assumption
   simp -dsimp only[go_sem,seval,h26,hc,g8,hgt,hil];refine⟨by omega,by simp -dsimp only[go_sem,seval,hw],?_,?_,?_⟩
   ·simp -dsimp only[go_sem,seval,hst]
   ·simp -dsimp only[go_sem,seval,g12]
   ·simp -dsimp only[go_sem,seval,g16]
  ·have:i=p.cells.length:=by omega
   subst this;rw[<- hmel,zyU]at g8
   refine zaj 144106391982833696 p.threads.length (fun i f h x=>(f 43).v=vi i/\h 8=some (.rows 1 (rowsI mems) false)/\h 12=some (.rows 1 (rowsI (filled ats i)) false)/\h 16=some (.rows 1 (List.replicate p.threads.length [.t .nils]) false))
    rfl ⟨by simp -dsimp only[go_sem,seval],by simp -dsimp only[go_sem,seval,g8],by simp -dsimp only[go_sem,seval,g12,zzO,hatl],by simp -dsimp only[go_sem,seval,g16]⟩ ?_
   clear h26 g8 g12 g16 hw;rintro i f u H x bs hi ⟨h43,g8,g12,g16⟩;have hw:=zah i (by omega);simp -dsimp only[go_sem,seval,h43];refine csplit (fun h=> ?_) (fun h=> ?_)<;>(try rw[h])<;>(try simp only[zab]at h)<;>(try simp -dsimp only[go_sem,seval,h43])
   ·obtain⟨c,hc,_⟩:=zaf ‹i<p.threads.length›;have hc':ats[i]? =some (if c.asleep then(-1:Int)else 0):=by rw[<- hat];simp[hc]
    have hfl:=zyT ats (i:=i) (by omega);have hgt:=zxo (l:=filled ats i) (i:=i) (by omega);have hil:i<p.threads.length:=by assumption
    simp -dsimp only[go_sem,seval,h43,hc];cases hasl:c.asleep
    ·rw[hasl]at hc';have hz:=zzw (l:=ats) (i:=i) (by simpa using hc');simp -dsimp only[go_sem,seval,h43];refine⟨by omega,by simp -dsimp only[go_sem,seval,hw],by simp -dsimp only[go_sem,seval,g8],by simp -dsimp only[go_sem,seval,g12,hz],by simp -dsimp only[go_sem,seval,g16]⟩
    ·rw[hasl]at hc';have hst:=zxn (filled ats i) i (-1);rw[zyS (by simpa using hc')]at hst;simp -dsimp only[go_sem,seval,h43,g12,hgt,hil];refine⟨by omega,by simp -dsimp only[go_sem,seval,hw],by simp -dsimp only[go_sem,seval,g8],by simp -dsimp only[go_sem,seval,hst],by simp -dsimp only[go_sem,seval,g16]⟩
   ·have:i=p.threads.length:=by omega
    subst this;rw[<- hatl,zyU]at g12;have t2:List.take p.threads.length (List.replicate p.threads.length [V.t .nils])=List.replicate p.threads.length [V.t .nils]:=List.take_of_length_le (by simp);have t3:=zyd H p.threads.length;have t4:List.take p.cells.length (rowsI mems)=rowsI mems:=List.take_of_length_le (by rw[rowsI_len];omega);have t5:List.take p.threads.length (rowsI ats)=rowsI ats:=List.take_of_length_le (by rw[rowsI_len];omega);have t6:=zxr H 999 mems;have t7:=zxr H 999 ats;simp -dsimp only[go_sem,seval,t2,t3,t4,t5,t6,t7,g8,g12,g16,List.length_replicate,Nat.le_refl,rowsI_len,hmel,hatl];simp[startM,hf,hat,hme,zxu]
end Rg
end
section
-- FULL
namespace Rg
open Go
def zxl (p:Prog) (t:Int):Int:=match p.threads[t.toNat]? with
 | some x=>x.points
 | none=>0
def enabledM (p:Prog) (c:Config) (t:Int) (s:Step):Bool:=
 decide (atI c.at_ t=s.fr)&&decide (s.guard.eval c.mem c.mem=1)&&
  (if s.kind=6 then decide (atI c.at_ s.target= -1)else if s.kind=7 then decide (atI c.at_ s.target=zxl p s.target-1)else true)
structure StepOk (p:Prog) (t:Int) (x:Thread) (s:Step):Prop where
 kind:1<=s.kind/\s.kind<=7
 fr:0<=s.fr/\s.fr<x.points-1
 to:0<=s.to/\s.to<x.points
 rng:zgw p s
 row:kindOk p t s=true
 tgt:s.kind=6\/s.kind=7->inR s.target p.threads.length=true/\s.target≠t
 wid: ∀a∈s.set,∃y,p.cells[a.cell.toNat]? =some y/\a.to.w=y.w
 dif: ∀(i j:Nat) (a b:Assign),s.set[i]? =some a->s.set[j]? =some b->a.cell=b.cell->i=j
theorem zyO {p:Prog} {set:List Assign}: ∀{l:List Assign} {i:Nat},(feGo (setErr p set) i l).1=0-> ∀a∈l,∃y,p.cells[a.cell.toNat]? =some y/\a.to.w=y.w
 | [],_,_,a,ha=>by simp at ha
 | x::r,i,h,a,ha=>by
   rw[feGo]at h;split at h
   ·rename_i h0;rcases List.mem_cons.1 ha with rfl | ha
    ·unfold setErr at h0;split at h0
     ·simp at h0
     ·split at h0
      ·simp at h0
      ·rename_i h2;simp only[Bool.or_eq_true,not_or,Bool.not_eq_true',Bool.not_eq_false]at h2;have:=h2.2;unfold zaJ at this;rcases hy:p.cells[a.cell.toNat]? with _ | y
       ·rw[hy]at this;simp at this
       ·rw[hy]at this;exact⟨y,rfl,by simpa using this⟩
    ·exact zyO h a ha
   ·rename_i h0;exact absurd h h0
theorem zyP {p:Prog} {set:List Assign}: ∀{l:List Assign} {i:Nat},set.drop i=l->(feGo (setErr p set) i l).1=0-> ∀(j:Nat) (a:Assign),i<=j->set[j]? =some a->(set.take j).any (fun b=>decide (b.cell=a.cell))=false
 | [],i,hd,_,j,a,hij,ha=>by
   have:set.length<=i:=by simpa using hd
   have:=(zH.1 ha).1
   omega
 | x::r,i,hd,h,j,a,hij,ha=>by
   rw[feGo]at h
   have hxi:set[i]? =some x:=by
    have:=congrArg (·[0]?) hd;simpa using this
   have hdr:set.drop (i+1)=r:=by
    have:=zba hxi;rw[hd]at this;exact(List.cons.inj this).2.symm
   split at h
   ·rename_i h0
    by_cases hj:j=i
    ·subst hj;rw[hxi]at ha;cases ha;unfold setErr at h0;split at h0
     ·simp at h0
     ·rename_i h1;simp only[Bool.or_eq_true,not_or,Bool.not_eq_true]at h1;exact h1.2
    ·exact zyP hdr h j a (by omega) ha
   ·rename_i h0;exact absurd h h0
theorem zAc {p:Prog} {t:Int} {x:Thread} {s:Step} (h:stepErr p t x.points s=0):StepOk p t x s:=by
 unfold stepErr at h;split at h
 ·simp at h
 ·rename_i hb;split at h
  ·simp at h
  ·rename_i hg;split at h
   ·rename_i h0;exact absurd h h0
   ·rename_i hs;split at h
    ·rename_i hk;have hs:(feGo (setErr p s.set) 0 s.set).1=0:=by simpa using hs
     have hb':zbl p x.points s=false:=by simpa using hb
     simp only[zbl,Bool.or_eq_false_iff,Bool.and_eq_false_iff,Bool.not_eq_false',decide_eq_false_iff_not]at hb';obtain⟨⟨⟨⟨⟨⟨b1,b2⟩,b3⟩,b4⟩,b5⟩,b6⟩,b7⟩:=hb';simp only[inR,decide_eq_true_eq]at b3 b4;simp only[Bool.or_eq_true,not_or,Bool.not_eq_true',Bool.not_eq_false,decide_eq_true_eq]at hg;refine⟨by omega,b3,b4,⟨hg.1,zcw (set:=s.set) hs⟩,hk,fun hk67=> ?_,zyO hs,fun i j a b ha hb hab=> ?_⟩
     ·rw[kindOk,if_neg (by omega),if_neg (by omega),if_neg (by omega),if_neg (by omega),if_neg (by omega)]at hk
      have hj:joinOk p t s=true:=by
       split at hk
       ·simp only[zF]at hk;exact hk.1
       ·exact hk
      simp only[joinOk,zF,decide_eq_true_eq]at hj;exact⟨hj.2,hj.1.2⟩
     ·have key: ∀(i j:Nat) (a b:Assign),s.set[i]? =some a->s.set[j]? =some b->a.cell=b.cell-> ¬i<j:=fun i j a b ha hb hab hlt=>by
       have:=zyP (i:=0) rfl hs j b (by omega) hb;rw[any_take_stop ha hlt (by simpa using hab)]at this;simp at this
      have h1:=key i j a b ha hb hab;have h2:=key j i b a hb ha hab.symm;omega
    ·simp at h
theorem zy7 {p:Prog}: ∀{l:List Thread} {i:Nat},thrGo p i l=(0,-1,-1)-> ∀(j:Nat) (x:Thread),l[j]? =some x->(threadErr p (i+j) x).1=0
 | [],_,_,j,x,hx=>by simp at hx
 | y::r,i,h,j,x,hx=>by
   rw[thrGo]at h;split at h
   ·rename_i h0
    cases j with
    | zero=>simp at hx;subst hx;exact h0
    | succ j=>
      have:=zy7 h j x (by simpa using hx);rw[show i+(j+1)=i+1+j by omega];exact this
   ·rename_i h0;exact absurd (congrArg Prod.fst h) h0
theorem formed_thread {p:Prog} (hf:formedM p=true) {t:Nat} {x:Thread} (hx:p.threads[t]? =some x):(threadErr p t x).1=0:=by
 have:=zy7 (formed_limits hf).2.2.2.2 t x hx;simpa using this
theorem fe_each {α:Type} {f:Nat->α->Int}: ∀{l:List α} {i:Nat},(feGo f i l).1=0-> ∀(j:Nat) (x:α),l[j]? =some x->f (i+j) x=0
 | [],_,_,j,x,hx=>by simp at hx
 | y::r,i,h,j,x,hx=>by
   rw[feGo]at h;split at h
   ·rename_i h0
    cases j with
    | zero=>simp at hx;subst hx;exact h0
    | succ j=>
      have:=fe_each h j x (by simpa using hx);rw[show i+(j+1)=i+1+j by omega];exact this
   ·rename_i h0;exact absurd h h0
theorem thread_parts {p:Prog} {t:Nat} {x:Thread} (h:(threadErr p t x).1=0):1<=x.points/\(x.asserts.length:Int)=x.points/\(x.modules.length:Int)=x.points/\(feGo (fun _ s=>stepErr p t x.points s) 0 x.steps).1=0:=by
 unfold threadErr at h;split at h
 ·simp at h
 ·split at h
  ·simp at h
  ·split at h
   ·simp at h
   ·rename_i h1;split at h
    ·simp at h
    ·split at h
     ·simp at h
     ·split at h
      ·rename_i h0;exact absurd h h0
      ·rename_i h0;exact⟨by omega,by omega,by omega,by simpa using h0⟩
theorem zCo {p:Prog} (hf:formedM p=true) {t i:Nat} {x:Thread} {s:Step} (hx:p.threads[t]? =some x) (hs:x.steps[i]? =some s):StepOk p t x s:=by
 have h1:=(thread_parts (formed_thread hf hx)).2.2.2;exact zAc (fe_each h1 i s hs)
end Rg
end
section
-- FULL
namespace Rg
open Go
theorem zzM {p:Prog} {c:Config} (h:isM p c=true):c.mem.length=p.cells.length/\c.at_.length=p.threads.length/\c.buf.length=p.threads.length:=by
 simp only[isM,fitsM,zF,decide_eq_true_eq]at h;exact⟨h.1.1.1.1.1,h.1.1.1.1.2,h.1.2⟩
theorem zAu (p:Prog) (c:Config) (t:Int) (y:Thread) (a:Int) (h0:0<=t) (ha:c.at_[t.toNat]? =some a) (hy:p.threads[t.toNat]? =some y) (hyp: -2^40<y.points/\y.points<2^40):Den Γ G 21 [(.agg [.t (.sl ((p).cells.map (Cell.enc))),.t (.sl ((p).modules.map (Contract.enc))),.t (.sl ((p).locks.map (Lock.enc))),.t (.sl ((p).threads.map (Thread.enc)))]),(.agg [.t (ints (c).mem),.t (ints (c).at_),.t (.sl ((c).buf.map (fun b=>[.sl (b.map Entry.enc)])))]),vi t]=some (vb (decide (a=y.points-1))):=by
 (refine den_ofY Γ21 rfl ?_;dsimp only[f21])
 have hw:IntKind.i64.wrap (y.points-1)=y.points-1:=zan (by omega);simp -dsimp [go_sem,h0,ha,hy,hw]
theorem zya {l:List Int} {n:Int} {a:Int} (h:l[n.toNat]? =some a):atI l n=a:=by simp[atI,List.getD,h]
theorem zCn {p:Prog} (hf:formedM p=true) {t:Nat} {x:Thread} (hx:p.threads[t]? =some x):1<=x.points/\x.points<=48:=
 ⟨(thread_parts (formed_thread hf hx)).1,((limits_points (formed_limits hf).1).2 x (List.mem_of_getElem? hx)).1⟩
theorem zzm (p:Prog) (hf:formedM p=true) (c:Config) (hc:isM p c=true) (t:Nat) (x:Thread) (hx:p.threads[t]? =some x) (i:Nat) (s:Step) (hs:x.steps[i]? =some s):
 Den Γ G 50 [(.agg [.t (.sl ((p).cells.map (Cell.enc))),.t (.sl ((p).modules.map (Contract.enc))),.t (.sl ((p).locks.map (Lock.enc))),.t (.sl ((p).threads.map (Thread.enc)))]),(.agg [.t (ints (c).mem),.t (ints (c).at_),.t (.sl ((c).buf.map (fun b=>[.sl (b.map Entry.enc)])))]),vi t,(.agg [.t (ti (s).kind),.t (ti (s).fr),.t (ti (s).to),.t (ti ((s).guard).op),.t (ti ((s).guard).w),.t (ti ((s).guard).n),.t (.sl (((s).guard).kids.map Expr.enc)),.t (.sl ((s).set.map Assign.enc)),.t (tb (s).release),.t (ti (s).target),.t (ti (s).module)])]=some (vb (enabledM p c t s)):=by
 obtain⟨l1,l2,l3⟩:=zzM hc;have hok:=zCo hf hx hs;have htl:t<p.threads.length:=(zH.1 hx).1;obtain⟨a,ha,_⟩:=zaf (show t<c.at_.length by omega);have ha':atI c.at_ t=a:=zya (by simpa using ha);have hev:=zzk s.guard c.mem c.mem
 (refine den_ofY Γ50 rfl ?_;dsimp only[f50])
 by_cases h1:a=s.fr
 ·by_cases h2:s.guard.eval c.mem c.mem=1
  ·have hE:enabledM p c t s=(if s.kind=6 then decide (atI c.at_ s.target= -1)else if s.kind=7 then decide (atI c.at_ s.target=zxl p s.target-1)else true):=by
    simp[enabledM,ha',h1,h2]
   rw[h2]at hev;rw[hE]
   by_cases hk:s.kind=6\/s.kind=7
   ·obtain⟨hr,_⟩:=hok.tgt hk;simp only[inR,decide_eq_true_eq]at hr;obtain⟨b,hb,_⟩:=zaf (show s.target.toNat<c.at_.length by omega);obtain⟨y,hy,_⟩:=zaf (show s.target.toNat<p.threads.length by omega);have hyb:=zCn hf hy;have hex:=zAu p c s.target y b hr.1 hb hy (by omega);have hb':=zya hb;have hp':zxl p s.target=y.points:=by simp[zxl,hy]
    rcases hk with hk | hk
    ·simp -dsimp [go_sem,ha,h1,hev,hk,hr.1,hb,hb']
    ·simp -dsimp [go_sem,ha,h1,hev,hk,hex,hb',hp']
   ·have k6: ¬s.kind=6:=by omega
    have k7: ¬s.kind=7:=by omega
    simp -dsimp [go_sem,ha,h1,hev,k6,k7]
  ·have hE:enabledM p c t s=false:=by simp[enabledM,h2]
   rw[hE];simp -dsimp [go_sem,ha,h1,hev,h2]
 ·have hE:enabledM p c t s=false:=by simp[enabledM,ha',h1]
  rw[hE];simp -dsimp [go_sem,ha,h1]
theorem zzn (p:Prog) (hf:formedM p=true) (c:Config) (hc:isM p c=true) (t:Nat) (x:Thread) (hx:p.threads[t]? =some x) (i:Nat) (s:Step) (hs:x.steps[i]? =some s):
 Den Γ G 67 [(.agg [.t (.sl ((p).cells.map (Cell.enc))),.t (.sl ((p).modules.map (Contract.enc))),.t (.sl ((p).locks.map (Lock.enc))),.t (.sl ((p).threads.map (Thread.enc)))]),(.agg [.t (ints (c).mem),.t (ints (c).at_),.t (.sl ((c).buf.map (fun b=>[.sl (b.map Entry.enc)])))]),vi t,vi i]=some (vb (enabledM p c t s)):=by
 obtain⟨l1,l2,l3⟩:=zzM hc;have hok:=zCo hf hx hs;have htl:t<p.threads.length:=(zH.1 hx).1;obtain⟨a,ha,_⟩:=zaf (show t<c.at_.length by omega);have ha':atI c.at_ t=a:=zya (by simpa using ha);have hev:=zxX s.guard c.mem c.mem
 (refine den_ofY Γ67 rfl ?_;dsimp only[f67])
 by_cases h1:a=s.fr
 ·by_cases h2:s.guard.eval c.mem c.mem=1
  ·have hE:enabledM p c t s=(if s.kind=6 then decide (atI c.at_ s.target= -1)else if s.kind=7 then decide (atI c.at_ s.target=zxl p s.target-1)else true):=by
    simp[enabledM,ha',h1,h2]
   rw[h2]at hev;rw[hE]
   by_cases hk:s.kind=6\/s.kind=7
   ·obtain⟨hr,_⟩:=hok.tgt hk;simp only[inR,decide_eq_true_eq]at hr;obtain⟨b,hb,_⟩:=zaf (show s.target.toNat<c.at_.length by omega);obtain⟨y,hy,_⟩:=zaf (show s.target.toNat<p.threads.length by omega);have hyb:=zCn hf hy;have hw:IntKind.i64.wrap (y.points-1)=y.points-1:=zan (by omega);have hb':=zya hb;have hp':zxl p s.target=y.points:=by simp[zxl,hy]
    rcases hk with hk | hk
    ·simp -dsimp [go_sem,hx,hs,ha,h1,hev,hk,hr.1,hb,hb']
    ·simp -dsimp [go_sem,hx,hs,ha,h1,hev,hk,hr.1,hb,hy,hw,hb',hp']
   ·have k6: ¬s.kind=6:=by omega
    have k7: ¬s.kind=7:=by omega
    simp -dsimp [go_sem,hx,hs,ha,h1,hev,k6,k7]
  ·have hE:enabledM p c t s=false:=by simp[enabledM,h2]
   rw[hE];simp -dsimp [go_sem,hx,hs,ha,h1,hev,h2]
 ·have hE:enabledM p c t s=false:=by simp[enabledM,ha',h1]
  rw[hE];simp -dsimp [go_sem,hx,hs,ha,h1]
def choicesT (p:Prog) (c:Config) (t:Nat) (x:Thread) (i:Nat):List Choice:=
 (x.steps.take i).zipIdx.filterMap fun q=>if enabledM p c t q.1 then some ⟨t,q.2,0⟩else none
def choicesN (p:Prog) (c:Config) (i:Nat):List Choice:=(p.threads.take i).zipIdx.flatMap fun q=>choicesT p c q.2 q.1 q.1.steps.length
def choicesM (p:Prog) (c:Config):List Choice:=choicesN p c p.threads.length
theorem zxF {α:Type} {l:List α} {i:Nat} {x:α} (h:l[i]? =some x):(l.take (i+1)).zipIdx=(l.take i).zipIdx++[(x,i)]:=by
 have hi:i<l.length:=(zH.1 h).1;rw[zae h,List.zipIdx_append];simp;omega
theorem zyg {p:Prog} {c:Config} {t:Nat} {x:Thread} {i:Nat} {s:Step} (h:x.steps[i]? =some s):
 choicesT p c t x (i+1)=choicesT p c t x i++(if enabledM p c t s then [⟨t,i,0⟩]else []):=by
 unfold choicesT;rw[zxF h,List.filterMap_append]
 congr 1
 cases hh:enabledM p c t s<;>simp[hh]
theorem zxQ {p:Prog} {c:Config} {i:Nat} {x:Thread} (h:p.threads[i]? =some x):choicesN p c (i+1)=choicesN p c i++choicesT p c i x x.steps.length:=by
 unfold choicesN;rw[zxF h,List.flatMap_append];simp
theorem zxY (p:Prog) (c:Config) (t:Nat) (x:Thread) (i:Nat):(choicesT p c t x i).length<=i:=by
 unfold choicesT;refine Nat.le_trans (List.length_filterMap_le _ _) ?_;simp;omega
theorem zxC {p:Prog} (hf:formedM p=true) (c:Config): ∀i:Nat,(choicesN p c i).length<=64*i
 | 0=>by simp[choicesN]
 | i+1=>by
   have ih:=zxC hf c i;rcases hx:p.threads[i]? with _ | x
   ·have:p.threads.length<=i:=by simpa using hx
    have e:choicesN p c (i+1)=choicesN p c i:=by
     unfold choicesN;rw[List.take_of_length_le (by omega),List.take_of_length_le (by omega)]
    rw[e];omega
   ·have h1:=((limits_points (formed_limits hf).1).2 x (List.mem_of_getElem? hx)).2.1;have h2:=zxY p c i x x.steps.length;rw[zxQ hx,List.length_append];omega
def rowsC (l:List Choice):List (List V):=(l.map Choice.enc).map (·.map V.t)
theorem zyc (l:List Choice):(rowsC l).length=l.length:=by simp[rowsC]
theorem zxL (l:List Choice) (c:Choice):rowsC (l++[c])=rowsC l++[[vi c.thread,vi c.step,vi c.cell]]:=by simp[rowsC,Choice.enc]
theorem rowsC_all (l:List Choice):((rowsC l).all fun r=>decide (r.length=3))=true:=by simp[rowsC,Choice.enc]
theorem choice_norm (l:List Choice): ∀e∈l.map Choice.enc,∀t∈e,T.norm t=t:=by
 intro e he t ht;obtain⟨n,_,rfl⟩:=List.mem_map.1 he;simp[Choice.enc]at ht;rcases ht with rfl | rfl | rfl<;>rfl
theorem zyv (p:Prog) (hf:formedM p=true) (c:Config) (hc:isM p c=true):Den Γ G 44 [(.agg [.t (.sl ((p).cells.map (Cell.enc))),.t (.sl ((p).modules.map (Contract.enc))),.t (.sl ((p).locks.map (Lock.enc))),.t (.sl ((p).threads.map (Thread.enc)))]),(.agg [.t (ints (c).mem),.t (ints (c).at_),.t (.sl ((c).buf.map (fun b=>[.sl (b.map Entry.enc)])))])]=some (.t (.sl ((choicesM p c).map Choice.enc))):=by
 (refine den_ofY Γ44 rfl ?_;dsimp only[f44])
 obtain⟨⟨l1,l2,l3,l4⟩,l5⟩:=limits_points (formed_limits hf).1;simp -dsimp only[go_sem,seval];refine zaj 137438951648 p.threads.length (fun i f h x=>(f 11).v=vi i/\zxp h x (f 5).v 3 (rowsC (choicesN p c i))) rfl ⟨by simp -dsimp only[go_sem,seval],.inl ⟨by simp -dsimp only[go_sem,seval],rfl⟩⟩ ?_;rintro i f u H x bs hi ⟨h11,hown⟩;have hw:=zah i (by omega);simp -dsimp only[go_sem,seval,h11];refine csplit (fun h=> ?_) (fun h=> ?_)<;>(try rw[h])<;>(try simp only[zab]at h)<;>(try simp -dsimp only[go_sem,seval,h11])
 ·obtain⟨t,ht,htm⟩:=zaf ‹i<p.threads.length›;obtain⟨_,hst,_⟩:=l5 t htm;simp -dsimp only[go_sem,seval,h11,ht];refine zaj 68717379744 t.steps.length (fun j f' h x=>(f' 21).v=vi j/\zxp h x (f' 5).v 3 (rowsC (choicesN p c i++choicesT p c i t j))) rfl ⟨by simp -dsimp only[go_sem,seval],by simp -dsimp only[go_sem,seval,choicesT,List.take_zero,List.zipIdx_nil,List.filterMap_nil,List.append_nil];exact hown.le (by omega)⟩ ?_;clear hown;rintro j f' u' H' x' bs' hj ⟨h21,hown⟩;have hw':=zah j (by omega);simp -dsimp only[go_sem,seval,h21];refine csplit (fun h=> ?_) (fun h=> ?_)<;>(try rw[h])<;>(try simp only[zab]at h)<;>(try simp -dsimp only[go_sem,seval,h21,h11])
  ·obtain⟨s,hs,hsm⟩:=zaf ‹j<t.steps.length›;have hen:=zzn p hf c hc i t ht j s hs;have hsucc:=zyg (p:=p) (c:=c) (t:=i) hs;have hl1:=zxC hf c i;have hl2:=zxY p c i t j;simp -dsimp only[go_sem,seval,h21,h11,hen];refine csplit (fun h=> ?_) (fun h=> ?_)<;>(try rw[h])<;>(try simp only[zab]at h)<;>(try simp -dsimp only[go_sem,seval,h21,h11])
   ·rw[h]at hsucc;have v1:=hown.valOf;have v2:=hown.r2;have v3:=hown.r3;have v4:=hown.r4;have v5:=hown.r5;simp -dsimp only[go_sem,seval,h21,h11,v1,v2,v3,v4,v5];refine zas (hown.upd (by omega) _) (by omega) (by rw[zyc,List.length_append];omega) (by decide) rfl (rowsC_all _) ?_;intro v hp hO hoffs hkeep;have w1:=hO.valOf;simp -dsimp only[go_sem,seval,w1,h21];refine⟨by omega,by simp -dsimp only[go_sem,seval,hw'],?_⟩;simp -dsimp only[go_sem,seval,hsucc,if_true];rw[<- List.append_assoc,zxL];exact hO.le (by omega)
   ·rw[h]at hsucc;refine⟨by omega,by simp -dsimp only[go_sem,seval,hw'],?_⟩;simp -dsimp only[go_sem,seval,hsucc,List.append_nil,zG,if_false];exact hown.le (by omega)
  ·have:j=t.steps.length:=by omega
   subst this;refine⟨by omega,by simp -dsimp only[go_sem,seval,hw],?_⟩;simp -dsimp only[go_sem,seval];rw[zxQ ht];exact hown.le (by omega)
 ·have:i=p.threads.length:=by omega
  subst this;have v1:=hown.valOf;have hre:=hown.reify (choice_norm _);have v5:=hown.resVal;simp only[Rg.resVal]at v5;simp -dsimp only[go_sem,seval,v1,v5];exact hre
def enabledL (p:Prog) (c:Config):List Choice:=if formedM p&&isM p c then choicesM p c else []
theorem zyf (p:Prog) (hs:p.sane) (c:Config) (hcs:c.sane):Den Γ G 25 [(.agg [.t (.sl ((p).cells.map (Cell.enc))),.t (.sl ((p).modules.map (Contract.enc))),.t (.sl ((p).locks.map (Lock.enc))),.t (.sl ((p).threads.map (Thread.enc)))]),(.agg [.t (ints (c).mem),.t (ints (c).at_),.t (.sl ((c).buf.map (fun b=>[.sl (b.map Entry.enc)])))])]=some (.t (.sl ((enabledL p c).map Choice.enc))):=by
 (refine den_ofY Γ25 rfl ?_;dsimp only[f25])
 have h1:=zh2 p hs;simp -dsimp only[go_sem,seval,h1];cases hf:formedM p
 ·simp -dsimp only[go_sem,seval];simp[enabledL,hf]
 ·have h2:=zwR p hf c hcs;simp -dsimp only[go_sem,seval,h2];cases hc:isM p c
  ·simp -dsimp only[go_sem,seval];simp[enabledL,hf,hc]
  ·obtain⟨⟨l1,l2,l3,l4⟩,l5⟩:=limits_points (formed_limits hf).1;simp -dsimp only[go_sem,seval];have hE:enabledL p c=choicesM p c:=by simp[enabledL,hf,hc]
   rw[hE];refine zaj 18014398509351136 p.threads.length (fun i f h x=>(f 6).v=vi i/\zxp h x (f 5).v 3 (rowsC (choicesN p c i))) rfl ⟨by simp -dsimp only[go_sem,seval],.inl ⟨by simp -dsimp only[go_sem,seval],rfl⟩⟩ ?_;rintro i f u H x bs hi ⟨h6,hown⟩;have hw:=zah i (by omega);simp -dsimp only[go_sem,seval,h6];refine csplit (fun h=> ?_) (fun h=> ?_)<;>(try rw[h])<;>(try simp only[zab]at h)<;>(try simp -dsimp only[go_sem,seval,h6])
   ·obtain⟨t,ht,htm⟩:=zaf ‹i<p.threads.length›;obtain⟨_,hst,_⟩:=l5 t htm;refine zaj 18014398492704928 t.steps.length (fun j f' h x=>(f' 7).v=vi j/\zxp h x (f' 5).v 3 (rowsC (choicesN p c i++choicesT p c i t j))) rfl ⟨by simp -dsimp only[go_sem,seval],by simp -dsimp only[go_sem,seval,choicesT,List.take_zero,List.zipIdx_nil,List.filterMap_nil,List.append_nil];exact hown.le (by omega)⟩ ?_;clear hown;rintro j f' u' H' x' bs' hj ⟨h7,hown⟩;have hw':=zah j (by omega);simp -dsimp only[go_sem,seval,h7,h6,ht];refine csplit (fun h=> ?_) (fun h=> ?_)<;>(try rw[h])<;>(try simp only[zab]at h)<;>(try simp -dsimp only[go_sem,seval,h7,h6])
    ·obtain⟨s,hs,hsm⟩:=zaf ‹j<t.steps.length›;have hen:=zzm p hf c hc i t ht j s hs;have hsucc:=zyg (p:=p) (c:=c) (t:=i) hs;have hl1:=zxC hf c i;have hl2:=zxY p c i t j;simp -dsimp only[go_sem,seval,h7,h6,ht,hs,hen];refine csplit (fun h=> ?_) (fun h=> ?_)<;>(try rw[h])<;>(try simp only[zab]at h)<;>(try simp -dsimp only[go_sem,seval,h7,h6])
     ·rw[h]at hsucc;have v1:=hown.valOf;have v2:=hown.r2;have v3:=hown.r3;have v4:=hown.r4;have v5:=hown.r5;simp -dsimp only[go_sem,seval,h7,h6,v1,v2,v3,v4,v5];refine zas (hown.upd (by omega) _) (by omega) (by rw[zyc,List.length_append];omega) (by decide) rfl (rowsC_all _) ?_;intro v hp hO hoffs hkeep;have w1:=hO.valOf;simp -dsimp only[go_sem,seval,w1,h7];refine⟨by omega,by simp -dsimp only[go_sem,seval,hw'],?_⟩;simp -dsimp only[go_sem,seval,hsucc,if_true];rw[<- List.append_assoc,zxL];exact hO.le (by omega)
     ·rw[h]at hsucc;refine⟨by omega,by simp -dsimp only[go_sem,seval,hw'],?_⟩;simp -dsimp only[go_sem,seval,hsucc,List.append_nil,zG,if_false];exact hown.le (by omega)
    ·have:j=t.steps.length:=by omega
     subst this;refine⟨by omega,by simp -dsimp only[go_sem,seval,hw],?_⟩;simp -dsimp only[go_sem,seval];rw[zxQ ht];exact hown.le (by omega)
   ·have:i=p.threads.length:=by omega
    subst this;have v1:=hown.valOf;have hre:=hown.reify (choice_norm _);have v5:=hown.resVal;simp only[Rg.resVal]at v5;simp -dsimp only[go_sem,seval,v1,v5];exact hre
def hasM (l:List Choice) (x:Choice):Bool:=l.any fun y=>decide (y=x)
theorem zzq (a b:Choice):(decide (a.thread=b.thread)&&(decide (a.step=b.step)&&decide (a.cell=b.cell)))=decide (a=b):=by
 cases a;cases b;simp only[Choice.mk.injEq];simp
theorem zA9 (l:List Choice) (x:Choice) (hl:l.length<2^40):Den Γ G 20 [.t (.sl (l.map Choice.enc)),(.agg [.t (ti (x).thread),.t (ti (x).step),.t (ti (x).cell)])]=some (vb (hasM l x)):=by
 (refine den_ofY Γ20 rfl ?_;dsimp only[f20])
 simp -dsimp only[go_sem,seval];refine zaz 262128 l.length (fun i f=>(f 5).v=vi i/\hasM l x=(l.drop i).any fun y=>decide (y=x)) rfl rfl ⟨by simp -dsimp only[go_sem,seval],rfl⟩ ?_;rintro i f u kk bb hi ⟨h5,hany⟩;have hw:=zah i (by omega);simp -dsimp only[go_sem,seval,h5];refine csplit (fun h=> ?_) (fun h=> ?_)<;>(try rw[h])<;>(try simp only[zab]at h)<;>(try simp -dsimp only[go_sem,seval,h5])
 ·obtain⟨y,hy,_⟩:=zaf ‹i<l.length›;have he:=zzq y x;simp -dsimp only[go_sem,seval,h5,hy,he,Bool.bne_false];refine csplit (fun h=> ?_) (fun h=> ?_)<;>(try rw[h])<;>(try simp only[zab]at h)<;>(try simp -dsimp only[go_sem,seval,h5])
  ·rw[hany,zgt hy (by simpa using h)]
  ·refine⟨by omega,by simp -dsimp only[go_sem,seval,hw],?_⟩;rw[hany,zbT hy (by simpa using h)]
 ·have:i=l.length:=by omega
  subst this;rw[hany,zil]
def writeM (mem view:List Int) (set:List Assign):List Int:=set.foldl (fun m a=>m.set a.cell.toNat (a.to.eval view view)) mem
theorem zxq (view:List Int): ∀(set:List Assign) (mem:List Int),(writeM mem view set).length=mem.length
 | [],mem=>rfl
 | a::r,mem=>by
   have:=zxq view r (mem.set a.cell.toNat (a.to.eval view view));simpa[writeM]using this
theorem zyi {mem view:List Int} {set:List Assign} {i:Nat} {a:Assign} (h:set[i]? =some a):writeM mem view (set.take (i+1))=(writeM mem view (set.take i)).set a.cell.toNat (a.to.eval view view):=by
 unfold writeM;rw[zae h,List.foldl_append];rfl
theorem zzT (mem view:List Int) (set:List Assign) (hm:mem.length<2^31) (hs:set.length<2^48) (hin: ∀a∈set,0<=a.cell/\a.cell<mem.length):
 Den Γ G 66 [.t (ints mem),.t (ints view),.t (.sl (set.map Assign.enc))]=some (.t (ints (writeM mem view set))):=by
 (refine den_ofY Γ66 rfl ?_;dsimp only[f66])
 simp -dsimp only[go_sem,seval];have hcp:=zzR mem hm (fun _=>none) 0;obtain⟨r,h',n',hden,hown,_,_⟩:=hcp;refine zlx (es:=mem.map fun n=>[ti n]) rfl rfl ⟨r,h',n',hden,hown⟩ ?_;clear hden hown;intro v hp hown _ _;have v1:=hown.valOf;simp -dsimp only[go_sem,seval,v1];refine zaj 4294965504 set.length (fun i f h x=>(f 8).v=vi i/\zxp h x v 1 (rowsI (writeM mem view (set.take i)))) rfl ⟨by simp -dsimp only[go_sem,seval],by simp -dsimp only[go_sem,seval];exact hown.le (by omega)⟩ ?_;clear hown;rintro i f u H x bs hi ⟨h8,hown⟩;have hw:=zah i (by omega);simp -dsimp only[go_sem,seval,h8];refine csplit (fun h=> ?_) (fun h=> ?_)<;>(try rw[h])<;>(try simp only[zab]at h)<;>(try simp -dsimp only[go_sem,seval,h8])
 ·obtain⟨a,ha,ham⟩:=zaf ‹i<set.length›;obtain⟨c0,c1⟩:=hin a ham;have hev:=zzk a.to view view;have hlen:(writeM mem view (set.take i)).length=mem.length:=zxq view _ mem;rcases hown with⟨_,he⟩ | ⟨k,rfl,hk,hh⟩
  ·exfalso;have:(rowsI (writeM mem view (set.take i))).length=0:=by rw[he];rfl
   rw[rowsI_len]at this;omega
  ·have hlt:a.cell<(((rowsI (writeM mem view (set.take i))).length:Nat):Int):=by rw[rowsI_len];omega
   have hgt:=zxo (l:=writeM mem view (set.take i)) (i:=a.cell.toNat) (by omega);have hst:=zxn (writeM mem view (set.take i)) a.cell.toNat (a.to.eval view view);rw[<- zyi ha]at hst;simp -dsimp only[go_sem,seval,h8,ha,hev,c0,hlt,hh,hgt];refine⟨by omega,by simp -dsimp only[go_sem,seval,hw],.inr ⟨k,?_,by simp -dsimp only[go_sem,seval];omega,?_⟩⟩
   ·rw[rowsI_len,rowsI_len,hlen,zxq]
   ·simp -dsimp only[go_sem,seval,hst]
 ·have:i=set.length:=by omega
  subst this;rw[List.take_length]at hown;have hre:=hown.reify (ints_norm _);have v5:=hown.resVal;simp only[Rg.resVal]at v5;simp -dsimp only[go_sem,seval,v1,v5];exact hre
theorem zyu {p:Prog} {c:Config} {t:Nat} {x:Thread} {n:Nat} {y:Choice}:y∈choicesT p c t x n<-> ∃i s,i<n/\x.steps[i]? =some s/\enabledM p c t s=true/\y=⟨t,i,0⟩:=by
 unfold choicesT;rw[List.mem_filterMap];constructor
 ·rintro⟨⟨s,i⟩,hm,h⟩;rw[List.mem_zipIdx_iff_getElem?]at hm;simp only at hm;rw[List.getElem?_take]at hm;split at hm
  ·rename_i hi;split at h
   ·rename_i he;simp only[zA]at h;exact⟨i,s,hi,hm,he,h.symm⟩
   ·simp at h
  ·simp at hm
 ·rintro⟨i,s,hi,hs,he,rfl⟩;refine⟨(s,i),?_,by simp[he]⟩;rw[List.mem_zipIdx_iff_getElem?];simp only;rw[List.getElem?_take,if_pos hi];exact hs
theorem zxz {p:Prog} {c:Config} {y:Choice}:y∈choicesM p c<-> ∃(t:Nat) (x:Thread) (i:Nat) (s:Step),p.threads[t]? =some x/\x.steps[i]? =some s/\enabledM p c t s=true/\y=⟨t,i,0⟩:=by
 unfold choicesM choicesN;rw[List.mem_flatMap];constructor
 ·rintro⟨⟨x,t⟩,hm,h⟩;rw[List.mem_zipIdx_iff_getElem?,List.take_length]at hm;obtain⟨i,s,_,hs,he,rfl⟩:=zyu.1 h;exact⟨t,x,i,s,hm,hs,he,rfl⟩
 ·rintro⟨t,x,i,s,hx,hs,he,rfl⟩;refine⟨(x,t),?_,zyu.2 ⟨i,s,(zH.1 hs).1,hs,he,rfl⟩⟩;rw[List.mem_zipIdx_iff_getElem?,List.take_length];exact hx
def execS (p:Prog) (c:Config) (t:Nat) (s:Step):Config:=
 ⟨writeM c.mem c.mem s.set,if s.kind=6 then(c.at_.set t s.to).set s.target.toNat 0 else c.at_.set t s.to,p.threads.map fun _=>[]⟩
def stepAt (p:Prog) (x:Choice):Option Step:=(p.threads[x.thread.toNat]?).bind fun t=>t.steps[x.step.toNat]?
def zeroC:Config:=⟨[],[],[]⟩
def execM (p:Prog) (c:Config) (x:Choice):Config:=match stepAt p x with
 | some s=>execS p c x.thread.toNat s
 | none=>zeroC
def nextM (p:Prog) (c:Config) (x:Choice):Config×Int:=
 if formedM p&&isM p c then(if hasM (choicesM p c) x then(execM p c x,0)else(zeroC,110))else(zeroC,1)
theorem hasM_iff (l:List Choice) (x:Choice):hasM l x=true<->x∈l:=by
 unfold hasM;rw[List.any_eq_true];constructor
 ·rintro⟨y,hy,h⟩;simp at h;exact h▸hy
 ·intro h;exact⟨x,h,by simp⟩
theorem zxm {α:Type} {l:List α} {n:Nat} (h:n=l.length):l.take n=l:=List.take_of_length_le (by omega)
theorem zAy {α:Type} {l:List α} {n:Nat} (h:n=l.length):l.drop n=[]:=List.drop_of_length_le (by omega)
theorem zzj (p:Prog) (hf:formedM p=true) (c:Config) (hc:isM p c=true) (t:Nat) (x:Thread) (hx:p.threads[t]? =some x) (i:Nat) (s:Step) (hs:x.steps[i]? =some s) (y:Choice) (hy:y=⟨t,i,0⟩) (hset:s.set.length<2^48):
 Den Γ G 45 [(.agg [.t (.sl ((p).cells.map (Cell.enc))),.t (.sl ((p).modules.map (Contract.enc))),.t (.sl ((p).locks.map (Lock.enc))),.t (.sl ((p).threads.map (Thread.enc)))]),(.agg [.t (ints (c).mem),.t (ints (c).at_),.t (.sl ((c).buf.map (fun b=>[.sl (b.map Entry.enc)])))]),(.agg [.t (ti (y).thread),.t (ti (y).step),.t (ti (y).cell)])]=some (.agg [.t (ints (execS p c t s).mem),.t (ints (execS p c t s).at_),.t (.sl ((execS p c t s).buf.map (fun b=>[.sl (b.map Entry.enc)])))]):=by
 subst hy;obtain⟨l1,l2,l3⟩:=zzM hc;obtain⟨⟨m1,m2,m3,m4⟩,_⟩:=limits_points (formed_limits hf).1;have hok:=zCo hf hx hs;have htl:t<p.threads.length:=(zH.1 hx).1;have e1:(c.mem.length:Int)<=4294967296:=by omega
 have e2:(c.at_.length:Int)<=4294967296:=by omega
 have e3:(c.buf.length:Int)<=4294967296:=by omega
 (refine den_ofY Γ45 rfl ?_;dsimp only[f45])
 have r1:=rowsI_all c.mem;have r2:=rowsI_all c.at_;have r3:List.take c.mem.length (rowsI c.mem)=rowsI c.mem:=zxm (rowsI_len _).symm;have r4:List.take c.at_.length (rowsI c.at_)=rowsI c.at_:=zxm (rowsI_len _).symm;have r5: ∀(n:Nat) (v:List V),List.drop n (List.replicate n v)=[]:=fun n v=>zAy (by simp)
 have hcm: ∀a∈s.set,0<=a.cell/\a.cell<c.mem.length:=fun a ha=>by
  have:=(hok.rng.2 a ha).1;simp only[inR,decide_eq_true_eq]at this;omega
 simp -dsimp only[go_sem,seval,e1,e2,e3,Int.le_refl,ziC,r1,r2,r3,r4,r5,rowsI_len,List.length_replicate,Nat.le_refl,List.append_nil,Nat.min_self,hx,hs]
 refine zaj 36893206672442393600 s.set.length (fun j f h z=>(f 48).v=vi j/\h 7=some (.rows 1 (rowsI (writeM c.mem c.mem (s.set.take j))) false)/\h 11=some (.rows 1 (rowsI c.at_) false)/\h 15=some (.rows 1 (List.replicate c.buf.length [.t .nils]) false)) rfl
  ⟨by simp -dsimp only[go_sem,seval],by simp -dsimp only[go_sem,seval];rfl,by simp -dsimp only[go_sem,seval],by simp -dsimp only[go_sem,seval]⟩ ?_
 rintro j f u H z bs hj ⟨h48,g7,g11,g15⟩;have hw:=zah j (by omega);simp -dsimp only[go_sem,seval,h48];refine csplit (fun h=> ?_) (fun h=> ?_)<;>(try rw[h])<;>(try simp only[zab]at h)<;>(try simp -dsimp only[go_sem,seval,h48])
 ·obtain⟨a,ha,ham⟩:=zaf ‹j<s.set.length›;obtain⟨c0,c1⟩:=hcm a ham;have hev:=zxX a.to c.mem c.mem;have hlen:(writeM c.mem c.mem (s.set.take j)).length=c.mem.length:=zxq c.mem _ c.mem;have hgt:=zxo (l:=writeM c.mem c.mem (s.set.take j)) (i:=a.cell.toNat) (by omega);have hst:=zxn (writeM c.mem c.mem (s.set.take j)) a.cell.toNat (a.to.eval c.mem c.mem);rw[<- zyi ha]at hst;simp -dsimp only[go_sem,seval,h48,ha,hev,c0,c1,g7,hgt];refine⟨by omega,by simp -dsimp only[go_sem,seval,hw],by simp -dsimp only[go_sem,seval,hst],by simp -dsimp only[go_sem,seval,g11],by simp -dsimp only[go_sem,seval,g15]⟩
 ·have:j=s.set.length:=by omega
  subst this;rw[List.take_length]at g7;have hgt:=zxo (l:=c.at_) (i:=t) (by omega);have hst:=zxn c.at_ t s.to;have hlt:(t:Int)<(c.at_.length:Int):=by omega
  have t0:(0:Int)<=(t:Int):=by omega
  have hlt2:t<c.at_.length:=by omega
  have hb1:List.take p.threads.length (List.replicate p.threads.length [V.t T.nils])=List.replicate p.threads.length [V.t T.nils]:=zxm (by simp);have hb2:c.buf.length=p.threads.length:=l3;have hb3:=fun h=>zyd h p.threads.length
  have hm1:List.take c.mem.length (rowsI (writeM c.mem c.mem s.set))=rowsI (writeM c.mem c.mem s.set):=zxm (by rw[rowsI_len,zxq]);have hm2:(rowsI (writeM c.mem c.mem s.set)).length=c.mem.length:=by rw[rowsI_len,zxq]
  simp -dsimp only[go_sem,seval,g11,hgt,hlt,hlt2,hst,rowsI_len,List.length_set]
  by_cases hk:s.kind=6
  ·obtain⟨hr,_⟩:=hok.tgt (.inl hk);simp only[inR,decide_eq_true_eq]at hr;have q1:s.target<(c.at_.length:Int):=by omega
   have q2:=hr.1;have hgt2:=zxo (l:=c.at_.set t s.to) (i:=s.target.toNat) (by simp;omega);have hst2:=zxn (c.at_.set t s.to) s.target.toNat 0;have ha1:List.take c.at_.length (rowsI ((c.at_.set t s.to).set s.target.toNat 0))=rowsI ((c.at_.set t s.to).set s.target.toNat 0):=zxm (by rw[rowsI_len];simp);simp -dsimp only[go_sem,seval,hk,q1,q2,hgt2,hst2,g7,g15,hb1,hb3,hm1,hm2,ha1,rowsI_len,List.length_set,List.length_replicate,Nat.le_refl,zxr,hb2];simp[execS,hk,zxu]
  ·have ha1:List.take c.at_.length (rowsI (c.at_.set t s.to))=rowsI (c.at_.set t s.to):=zxm (by rw[rowsI_len];simp);simp -dsimp only[go_sem,seval,hk,g7,g15,hb1,hb3,hm1,hm2,ha1,rowsI_len,List.length_set,List.length_replicate,Nat.le_refl,zxr,hb2];simp[execS,hk,zxu]
theorem zyG (p:Prog) (hs:p.sane) (c:Config) (hcs:c.sane) (x:Choice):Den Γ G 18 [(.agg [.t (.sl ((p).cells.map (Cell.enc))),.t (.sl ((p).modules.map (Contract.enc))),.t (.sl ((p).locks.map (Lock.enc))),.t (.sl ((p).threads.map (Thread.enc)))]),(.agg [.t (ints (c).mem),.t (ints (c).at_),.t (.sl ((c).buf.map (fun b=>[.sl (b.map Entry.enc)])))]),(.agg [.t (ti (x).thread),.t (ti (x).step),.t (ti (x).cell)])]=some (.tup [(.agg [.t (ints ((nextM p c x).1).mem),.t (ints ((nextM p c x).1).at_),.t (.sl (((nextM p c x).1).buf.map (fun b=>[.sl (b.map Entry.enc)])))]),vi (nextM p c x).2]):=by
 (refine den_ofY Γ18 rfl ?_;dsimp only[f18])
 have h1:=zxD p hs;simp -dsimp only[go_sem,seval,h1];cases hf:formedM p
 ·simp -dsimp only[go_sem,seval];simp[nextM,hf,zeroC]
 ·have h2:=zzh p hf c hcs;simp -dsimp only[go_sem,seval,h2];cases hc:isM p c
  ·simp -dsimp only[go_sem,seval];simp[nextM,hf,hc,zeroC]
  ·have h3:=zyv p hf c hc
   have hlen:(choicesM p c).length<2^40:=by
    have:=zxC hf c p.threads.length;have:=(limits_points (formed_limits hf).1).1;unfold choicesM;omega
   have hN:nextM p c x=if hasM (choicesM p c) x then(execM p c x,0)else(zeroC,110):=by simp[nextM,hf,hc]
   simp -dsimp only[go_sem,seval,h3];refine zaz 68702700224 (choicesM p c).length (fun i f=>(f 24).v=vi i/\(f 6).v= .lb/\(f 6).box=some [.t .nils,.t .nils,.t .nils]/\hasM (choicesM p c) x=((choicesM p c).drop i).any fun y=>decide (y=x)) rfl rfl ⟨by simp -dsimp only[go_sem,seval],by simp -dsimp only[go_sem,seval],by simp -dsimp only[go_sem,seval],rfl⟩ ?_;rintro i f u kk bb hi ⟨h24,b1,b2,hany⟩;have hw:=zah i (by omega);simp -dsimp only[go_sem,seval,h24];refine csplit (fun h=> ?_) (fun h=> ?_)<;>(try rw[h])<;>(try simp only[zab]at h)<;>(try simp -dsimp only[go_sem,seval,h24])
   ·obtain⟨y,hy,hym⟩:=zaf ‹i<(choicesM p c).length›;have he:=zzq x y;simp -dsimp only[go_sem,seval,h24,hy,he,Bool.bne_false];refine csplit (fun h=> ?_) (fun h=> ?_)<;>(try rw[h])<;>(try simp only[zab]at h)<;>(try simp -dsimp only[go_sem,seval,h24])
    ·have hxy:x=y:=by simpa using h
     rw[zgt hy (by simpa using hxy.symm)]at hany;obtain⟨t,tx,j,s,ht,hsj,_,hyy⟩:=zxz.1 hym;have htm:=List.mem_of_getElem? ht;have hex:=zzj p hf c hc t tx ht j s hsj x (hxy.trans hyy) (hs.sets tx htm s (List.mem_of_getElem? hsj))
     have hE:execM p c x=execS p c t s:=by
      rw[hxy,hyy];simp[execM,stepAt,ht,hsj]
     rw[hany,if_pos rfl,hE]at hN;rw[hN];simp -dsimp only[go_sem,seval,hex,b1,b2]
    ·refine⟨by omega,by simp -dsimp only[go_sem,seval,hw],by simp -dsimp only[go_sem,seval,b1],by simp -dsimp only[go_sem,seval,b2],?_⟩;rw[hany,zbT hy (by simpa[eq_comm]using h)]
   ·have:i=(choicesM p c).length:=by omega
    subst this;rw[zil]at hany;rw[hany]at hN;rw[hN];simp -dsimp only[go_sem,seval,b1,b2];simp[zeroC]
theorem zAl (p:Prog) (hs:p.sane) (c:Config) (hcs:c.sane) (x:Choice):Den Γ G 42 [(.agg [.t (.sl ((p).cells.map (Cell.enc))),.t (.sl ((p).modules.map (Contract.enc))),.t (.sl ((p).locks.map (Lock.enc))),.t (.sl ((p).threads.map (Thread.enc)))]),(.agg [.t (ints (c).mem),.t (ints (c).at_),.t (.sl ((c).buf.map (fun b=>[.sl (b.map Entry.enc)])))]),(.agg [.t (ti (x).thread),.t (ti (x).step),.t (ti (x).cell)])]=some (.tup [(.agg [.t (ints ((nextM p c x).1).mem),.t (ints ((nextM p c x).1).at_),.t (.sl (((nextM p c x).1).buf.map (fun b=>[.sl (b.map Entry.enc)])))]),vi (nextM p c x).2]):=by
 (refine den_ofY Γ42 rfl ?_;dsimp only[f42])
 have h1:=zh2 p hs;simp -dsimp only[go_sem,seval,h1];cases hf:formedM p
 ·simp -dsimp only[go_sem,seval];simp[nextM,hf,zeroC]
 ·have h2:=zwR p hf c hcs;simp -dsimp only[go_sem,seval,h2];cases hc:isM p c
  ·simp -dsimp only[go_sem,seval];simp[nextM,hf,hc,zeroC]
  ·have h3:=zyf p hs c hcs;have hE:enabledL p c=choicesM p c:=by simp[enabledL,hf,hc]
   rw[hE]at h3
   have hlen:(choicesM p c).length<2^40:=by
    have:=zxC hf c p.threads.length;have:=(limits_points (formed_limits hf).1).1;unfold choicesM;omega
   have h4:=zA9 (choicesM p c) x hlen;have hN:nextM p c x=if hasM (choicesM p c) x then(execM p c x,0)else(zeroC,110):=by simp[nextM,hf,hc]
   simp -dsimp only[go_sem,seval,h3,h4];cases hh:hasM (choicesM p c) x
   ·rw[hh]at hN;rw[hN];simp -dsimp only[go_sem,seval];simp[zeroC]
   ·rw[hh,if_pos rfl]at hN;obtain⟨t,tx,j,s,ht,hsj,_,hyy⟩:=zxz.1 ((hasM_iff _ _).1 hh);subst hyy;have htm:=List.mem_of_getElem? ht;have hsl:=hs.sets tx htm s (List.mem_of_getElem? hsj);obtain⟨l1,l2,l3⟩:=zzM hc;obtain⟨⟨m1,m2,m3,m4⟩,_⟩:=limits_points (formed_limits hf).1;have hok:=zCo hf ht hsj;have htl:t<p.threads.length:=(zH.1 ht).1
    have hcm: ∀a∈s.set,0<=a.cell/\a.cell<c.mem.length:=fun a ha=>by
     have:=(hok.rng.2 a ha).1;simp only[inR,decide_eq_true_eq]at this;omega
    have hwr:=zzT c.mem c.mem s.set (by omega) hsl hcm;have hE2:execM p c ⟨t,j,0⟩=execS p c t s:=by simp[execM,stepAt,ht,hsj]
    rw[hE2]at hN;rw[hN];have e3:(p.threads.length:Int)<=4294967296:=by omega
    simp -dsimp only[go_sem,seval,ht,hsj,hwr];obtain⟨r,h',n',hden,hown,_,_⟩:=zzR c.at_ (by omega) (fun _=>none) 0;refine zlx (es:=c.at_.map fun n=>[ti n]) rfl rfl ⟨r,h',n',hden,hown⟩ ?_;clear hden hown;intro v hp hown hkeep hoff;rcases hown with⟨_,he⟩ | ⟨k,rfl,hk,hh⟩
    ·exfalso;have:((c.at_.map fun n=>[ti n]).map (·.map V.t)).length=0:=by rw[he];rfl
     simp at this;rw[this]at l2;simp at l2;omega
    have hkk: ¬k=46:=by omega
    have hkk': ¬46=k:=by omega
    have hlr:((c.at_.map fun n=>[ti n]).map (fun x=>x.map V.t)).length=c.at_.length:=by simp
    rw[ziC]at hh;have hgt:=zxo (l:=c.at_) (i:=t) (by omega);have hst:=zxn c.at_ t s.to;have hlt:(t:Int)<(c.at_.length:Int):=by omega
    have hlt2:t<c.at_.length:=by omega
    have hb1:List.take p.threads.length (List.replicate p.threads.length [V.t T.nils])=List.replicate p.threads.length [V.t T.nils]:=zxm (by simp);have hb3:=fun h=>zyd h p.threads.length
    simp -dsimp only[go_sem,seval,e3,Int.le_refl,hkk,hkk',hh,hlr,hgt,hlt,hlt2,hst,rowsI_len,List.length_set]
    by_cases hkd:s.kind=6
    ·obtain⟨hr,_⟩:=hok.tgt (.inl hkd);simp only[inR,decide_eq_true_eq]at hr;have q1:s.target<(c.at_.length:Int):=by omega
     have q2:=hr.1;have hgt2:=zxo (l:=c.at_.set t s.to) (i:=s.target.toNat) (by simp;omega);have hst2:=zxn (c.at_.set t s.to) s.target.toNat 0;have ha1:List.take c.at_.length (rowsI ((c.at_.set t s.to).set s.target.toNat 0))=rowsI ((c.at_.set t s.to).set s.target.toNat 0):=zxm (by rw[rowsI_len];simp);simp -dsimp only[go_sem,seval,hkd,hkk,hkk',q1,q2,hgt2,hst2,hb1,hb3,ha1,rowsI_len,List.length_set,List.length_replicate,Nat.le_refl,zxr];simp[execS,hkd,zxu]
    ·have ha1:List.take c.at_.length (rowsI (c.at_.set t s.to))=rowsI (c.at_.set t s.to):=zxm (by rw[rowsI_len];simp);simp -dsimp only[go_sem,seval,hkd,hkk,hkk',hb1,hb3,ha1,rowsI_len,List.length_set,List.length_replicate,Nat.le_refl,zxr];simp[execS,hkd,zxu]
theorem zxV {α β:Type} {l:List α} {m:List β} (h:l.length=m.length):(l.zip m).length=l.length:=by rw[List.length_zip];omega
end Rg
end
