/- Part of the proof of laws of relyguardlaw31. No condition. -/
import Derived.Test.YtcmeofagpechdaaGreatDoorRartBD
import Derived.Test.YtcmeofagpechdaaGreatDoorRartAZ
import Derived.Test.YtcmeofagpechdaaGreatDoorRartBB
import Derived.Test.YtcmeofagpechdaaGreatDoorRartBA
set_option linter.unusedSimpArgs false
set_option linter.unusedVariables false
section
-- FULL
namespace Rg
open Go
def zxl (p:Prog) (t:Int):Int:=match p.threads[t.toNat]? with
 | some x=>x.points
 | none=>0
def enabledM (p:Prog) (c:Config) (t:Int) (s:Step):Bool:=
 decide (atI c.at_ t=s.fr)&&decide (s.guard.eval c.mem c.mem=1)&&
  (if s.kind=6 then decide (atI c.at_ s.target= -1)else if s.kind=7 then decide (atI c.at_ s.target=zxl p s.target-1)else true)
structure StepOk (p:Prog) (t:Int) (x:Thread) (s:Step):Prop where
 kind:1<=s.kind/\s.kind<=7
 fr:0<=s.fr/\s.fr<x.points-1
 to:0<=s.to/\s.to<x.points
 rng:zgw p s
 row:kindOk p t s=true
 tgt:s.kind=6\/s.kind=7->inR s.target p.threads.length=true/\s.target≠t
 wid: ∀a∈s.set,∃y,p.cells[a.cell.toNat]? =some y/\a.to.w=y.w
 dif: ∀(i j:Nat) (a b:Assign),s.set[i]? =some a->s.set[j]? =some b->a.cell=b.cell->i=j
theorem zyO {p:Prog} {set:List Assign}: ∀{l:List Assign} {i:Nat},(feGo (setErr p set) i l).1=0-> ∀a∈l,∃y,p.cells[a.cell.toNat]? =some y/\a.to.w=y.w
 | [],_,_,a,ha=>by simp at ha
 | x::r,i,h,a,ha=>by
   rw[feGo]at h;split at h
   ·rename_i h0;rcases List.mem_cons.1 ha with rfl | ha
    ·unfold setErr at h0;split at h0
     ·simp at h0
     ·split at h0
      ·simp at h0
      ·rename_i h2;simp only[Bool.or_eq_true,not_or,Bool.not_eq_true',Bool.not_eq_false]at h2;have:=h2.2;unfold zaJ at this;rcases hy:p.cells[a.cell.toNat]? with _ | y
       ·rw[hy]at this;simp at this
       ·rw[hy]at this;exact⟨y,rfl,by simpa using this⟩
    ·exact zyO h a ha
   ·rename_i h0;exact absurd h h0
theorem zyP {p:Prog} {set:List Assign}: ∀{l:List Assign} {i:Nat},set.drop i=l->(feGo (setErr p set) i l).1=0-> ∀(j:Nat) (a:Assign),i<=j->set[j]? =some a->(set.take j).any (fun b=>decide (b.cell=a.cell))=false
 | [],i,hd,_,j,a,hij,ha=>by
   have:set.length<=i:=by simpa using hd
   have:=(zH.1 ha).1
   omega
 | x::r,i,hd,h,j,a,hij,ha=>by
   rw[feGo]at h
   have hxi:set[i]? =some x:=by
    have:=congrArg (·[0]?) hd;simpa using this
   have hdr:set.drop (i+1)=r:=by
    have:=zba hxi;rw[hd]at this;exact(List.cons.inj this).2.symm
   split at h
   ·rename_i h0
    by_cases hj:j=i
    ·subst hj;rw[hxi]at ha;cases ha;unfold setErr at h0;split at h0
     ·simp at h0
     ·rename_i h1;simp only[Bool.or_eq_true,not_or,Bool.not_eq_true]at h1;exact h1.2
    ·exact zyP hdr h j a (by omega) ha
   ·rename_i h0;exact absurd h h0
theorem zAc {p:Prog} {t:Int} {x:Thread} {s:Step} (h:stepErr p t x.points s=0):StepOk p t x s:=by
 unfold stepErr at h;split at h
 ·simp at h
 ·rename_i hb;split at h
  ·simp at h
  ·rename_i hg;split at h
   ·rename_i h0;exact absurd h h0
   ·rename_i hs;split at h
    ·rename_i hk;have hs:(feGo (setErr p s.set) 0 s.set).1=0:=by simpa using hs
     have hb':zbl p x.points s=false:=by simpa using hb
     simp only[zbl,Bool.or_eq_false_iff,Bool.and_eq_false_iff,Bool.not_eq_false',decide_eq_false_iff_not]at hb';obtain⟨⟨⟨⟨⟨⟨b1,b2⟩,b3⟩,b4⟩,b5⟩,b6⟩,b7⟩:=hb';simp only[inR,decide_eq_true_eq]at b3 b4;simp only[Bool.or_eq_true,not_or,Bool.not_eq_true',Bool.not_eq_false,decide_eq_true_eq]at hg;refine⟨by omega,b3,b4,⟨hg.1,zcw (set:=s.set) hs⟩,hk,fun hk67=> ?_,zyO hs,fun i j a b ha hb hab=> ?_⟩
     ·rw[kindOk,if_neg (by omega),if_neg (by omega),if_neg (by omega),if_neg (by omega),if_neg (by omega)]at hk
      have hj:joinOk p t s=true:=by
       split at hk
       ·simp only[zF]at hk;exact hk.1
       ·exact hk
      simp only[joinOk,zF,decide_eq_true_eq]at hj;exact⟨hj.2,hj.1.2⟩
     ·have key: ∀(i j:Nat) (a b:Assign),s.set[i]? =some a->s.set[j]? =some b->a.cell=b.cell-> ¬i<j:=fun i j a b ha hb hab hlt=>by
       have:=zyP (i:=0) rfl hs j b (by omega) hb;rw[any_take_stop ha hlt (by simpa using hab)]at this;simp at this
      have h1:=key i j a b ha hb hab;have h2:=key j i b a hb ha hab.symm;omega
    ·simp at h
theorem zy7 {p:Prog}: ∀{l:List Thread} {i:Nat},thrGo p i l=(0,-1,-1)-> ∀(j:Nat) (x:Thread),l[j]? =some x->(threadErr p (i+j) x).1=0
 | [],_,_,j,x,hx=>by simp at hx
 | y::r,i,h,j,x,hx=>by
   rw[thrGo]at h;split at h
   ·rename_i h0
    cases j with
    | zero=>simp at hx;subst hx;exact h0
    | succ j=>
      have:=zy7 h j x (by simpa using hx);rw[show i+(j+1)=i+1+j by omega];exact this
   ·rename_i h0;exact absurd (congrArg Prod.fst h) h0
theorem formed_thread {p:Prog} (hf:formedM p=true) {t:Nat} {x:Thread} (hx:p.threads[t]? =some x):(threadErr p t x).1=0:=by
 have:=zy7 (formed_limits hf).2.2.2.2 t x hx;simpa using this
theorem fe_each {α:Type} {f:Nat->α->Int}: ∀{l:List α} {i:Nat},(feGo f i l).1=0-> ∀(j:Nat) (x:α),l[j]? =some x->f (i+j) x=0
 | [],_,_,j,x,hx=>by simp at hx
 | y::r,i,h,j,x,hx=>by
   rw[feGo]at h;split at h
   ·rename_i h0
    cases j with
    | zero=>simp at hx;subst hx;exact h0
    | succ j=>
      have:=fe_each h j x (by simpa using hx);rw[show i+(j+1)=i+1+j by omega];exact this
   ·rename_i h0;exact absurd h h0
theorem thread_parts {p:Prog} {t:Nat} {x:Thread} (h:(threadErr p t x).1=0):1<=x.points/\(x.asserts.length:Int)=x.points/\(x.modules.length:Int)=x.points/\(feGo (fun _ s=>stepErr p t x.points s) 0 x.steps).1=0:=by
 unfold threadErr at h;split at h
 ·simp at h
 ·split at h
  ·simp at h
  ·split at h
   ·simp at h
   ·rename_i h1;split at h
    ·simp at h
    ·split at h
     ·simp at h
     ·split at h
      ·rename_i h0;exact absurd h h0
      ·rename_i h0;exact⟨by omega,by omega,by omega,by simpa using h0⟩
theorem formed_step {p:Prog} (hf:formedM p=true) {t i:Nat} {x:Thread} {s:Step} (hx:p.threads[t]? =some x) (hs:x.steps[i]? =some s):StepOk p t x s:=by
 have h1:=(thread_parts (formed_thread hf hx)).2.2.2;exact zAc (fe_each h1 i s hs)
end Rg
end
section
-- FULL
namespace Rg
open Go
theorem zzM {p:Prog} {c:Config} (h:isM p c=true):c.mem.length=p.cells.length/\c.at_.length=p.threads.length/\c.buf.length=p.threads.length:=by
 simp only[isM,zCs,zF,decide_eq_true_eq]at h;exact⟨h.1.1.1.1.1,h.1.1.1.1.2,h.1.2⟩
theorem zya {l:List Int} {n:Int} {a:Int} (h:l[n.toNat]? =some a):atI l n=a:=by simp[atI,List.getD,h]
theorem points_bound {p:Prog} (hf:formedM p=true) {t:Nat} {x:Thread} (hx:p.threads[t]? =some x):1<=x.points/\x.points<=48:=
 ⟨(thread_parts (formed_thread hf hx)).1,((limits_points (formed_limits hf).1).2 x (List.mem_of_getElem? hx)).1⟩
theorem zzn (p:Prog) (hf:formedM p=true) (c:Config) (hc:isM p c=true) (t:Nat) (x:Thread) (hx:p.threads[t]? =some x) (i:Nat) (s:Step) (hs:x.steps[i]? =some s):
 Den Γ G 67 [(.agg [.t (.sl ((p).cells.map (Cell.enc))),.t (.sl ((p).modules.map (Contract.enc))),.t (.sl ((p).locks.map (Lock.enc))),.t (.sl ((p).threads.map (Thread.enc)))]),(.agg [.t (ints (c).mem),.t (ints (c).at_),.t (.sl ((c).buf.map (fun b=>[.sl (b.map Entry.enc)])))]),vi t,vi i]=some (vb (enabledM p c t s)):=by
 obtain⟨l1,l2,l3⟩:=zzM hc;have hok:=formed_step hf hx hs;have htl:t<p.threads.length:=(zH.1 hx).1;obtain⟨a,ha,_⟩:=zaf (show t<c.at_.length by omega);have ha':atI c.at_ t=a:=zya (by simpa using ha);have hev:=zxX s.guard c.mem c.mem
 (refine den_ofY Γ67 rfl ?_;dsimp only[f67])
 by_cases h1:a=s.fr
 ·by_cases h2:s.guard.eval c.mem c.mem=1
  ·have hE:enabledM p c t s=(if s.kind=6 then decide (atI c.at_ s.target= -1)else if s.kind=7 then decide (atI c.at_ s.target=zxl p s.target-1)else true):=by
    simp[enabledM,ha',h1,h2]
   rw[h2]at hev;rw[hE]
   by_cases hk:s.kind=6\/s.kind=7
   ·obtain⟨hr,_⟩:=hok.tgt hk;simp only[inR,decide_eq_true_eq]at hr;obtain⟨b,hb,_⟩:=zaf (show s.target.toNat<c.at_.length by omega);obtain⟨y,hy,_⟩:=zaf (show s.target.toNat<p.threads.length by omega);have hyb:=points_bound hf hy;have hw:IntKind.i64.wrap (y.points-1)=y.points-1:=zan (by omega);have hb':=zya hb;have hp':zxl p s.target=y.points:=by simp[zxl,hy]
    rcases hk with hk | hk
    ·simp -dsimp [go_sem,hx,hs,ha,h1,hev,hk,hr.1,hb,hb']
    ·simp -dsimp [go_sem,hx,hs,ha,h1,hev,hk,hr.1,hb,hy,hw,hb',hp']
   ·have k6: ¬s.kind=6:=by omega
    have k7: ¬s.kind=7:=by omega
    simp -dsimp [go_sem,hx,hs,ha,h1,hev,k6,k7]
  ·have hE:enabledM p c t s=false:=by simp[enabledM,h2]
   rw[hE];simp -dsimp [go_sem,hx,hs,ha,h1,hev,h2]
 ·have hE:enabledM p c t s=false:=by simp[enabledM,ha',h1]
  rw[hE];simp -dsimp [go_sem,hx,hs,ha,h1]
end Rg
end
section
namespace Rg
open Go
def choicesT (p:Prog) (c:Config) (t:Nat) (x:Thread) (i:Nat):List Choice:=
 (x.steps.take i).zipIdx.filterMap fun q=>if enabledM p c t q.1 then some ⟨t,q.2,0⟩else none
def choicesN (p:Prog) (c:Config) (i:Nat):List Choice:=(p.threads.take i).zipIdx.flatMap fun q=>choicesT p c q.2 q.1 q.1.steps.length
def choicesM (p:Prog) (c:Config):List Choice:=choicesN p c p.threads.length
theorem zxF {α:Type} {l:List α} {i:Nat} {x:α} (h:l[i]? =some x):(l.take (i+1)).zipIdx=(l.take i).zipIdx++[(x,i)]:=by
 have hi:i<l.length:=(zH.1 h).1;rw[zae h,List.zipIdx_append];simp;omega
theorem zyg {p:Prog} {c:Config} {t:Nat} {x:Thread} {i:Nat} {s:Step} (h:x.steps[i]? =some s):
 choicesT p c t x (i+1)=choicesT p c t x i++(if enabledM p c t s then [⟨t,i,0⟩]else []):=by
 unfold choicesT;rw[zxF h,List.filterMap_append]
 congr 1
 cases hh:enabledM p c t s<;>simp[hh]
theorem zxQ {p:Prog} {c:Config} {i:Nat} {x:Thread} (h:p.threads[i]? =some x):choicesN p c (i+1)=choicesN p c i++choicesT p c i x x.steps.length:=by
 unfold choicesN;rw[zxF h,List.flatMap_append];simp
theorem zxY (p:Prog) (c:Config) (t:Nat) (x:Thread) (i:Nat):(choicesT p c t x i).length<=i:=by
 unfold choicesT;refine Nat.le_trans (List.length_filterMap_le _ _) ?_;simp;omega
theorem zxC {p:Prog} (hf:formedM p=true) (c:Config): ∀i:Nat,(choicesN p c i).length<=64*i
 | 0=>by simp[choicesN]
 | i+1=>by
   have ih:=zxC hf c i;rcases hx:p.threads[i]? with _ | x
   ·have:p.threads.length<=i:=by simpa using hx
    have e:choicesN p c (i+1)=choicesN p c i:=by
     unfold choicesN;rw[List.take_of_length_le (by omega),List.take_of_length_le (by omega)]
    rw[e];omega
   ·have h1:=((limits_points (formed_limits hf).1).2 x (List.mem_of_getElem? hx)).2.1;have h2:=zxY p c i x x.steps.length;rw[zxQ hx,List.length_append];omega
def rowsC (l:List Choice):List (List V):=(l.map Choice.enc).map (·.map V.t)
theorem zyc (l:List Choice):(rowsC l).length=l.length:=by simp[rowsC]
theorem zxL (l:List Choice) (c:Choice):rowsC (l++[c])=rowsC l++[[vi c.thread,vi c.step,vi c.cell]]:=by simp[rowsC,Choice.enc]
theorem rowsC_all (l:List Choice):((rowsC l).all fun r=>decide (r.length=3))=true:=by simp[rowsC,Choice.enc]
theorem choice_norm (l:List Choice): ∀e∈l.map Choice.enc,∀t∈e,T.norm t=t:=by
 intro e he t ht;obtain⟨n,_,rfl⟩:=List.mem_map.1 he;simp[Choice.enc]at ht;rcases ht with rfl | rfl | rfl<;>rfl
theorem zyv (p:Prog) (hf:formedM p=true) (c:Config) (hc:isM p c=true):Den Γ G 44 [(.agg [.t (.sl ((p).cells.map (Cell.enc))),.t (.sl ((p).modules.map (Contract.enc))),.t (.sl ((p).locks.map (Lock.enc))),.t (.sl ((p).threads.map (Thread.enc)))]),(.agg [.t (ints (c).mem),.t (ints (c).at_),.t (.sl ((c).buf.map (fun b=>[.sl (b.map Entry.enc)])))])]=some (.t (.sl ((choicesM p c).map Choice.enc))):=by
 (refine den_ofY Γ44 rfl ?_;dsimp only[f44])
 obtain⟨⟨l1,l2,l3,l4⟩,l5⟩:=limits_points (formed_limits hf).1;simp -dsimp only[go_sem,seval];refine zaj 137438951648 p.threads.length (fun i f h x=>(f 11).v=vi i/\zxp h x (f 5).v 3 (rowsC (choicesN p c i))) rfl ⟨by simp -dsimp only[go_sem,seval],.inl ⟨by simp -dsimp only[go_sem,seval],rfl⟩⟩ ?_;rintro i f u H x bs hi ⟨h11,hown⟩;have hw:=zah i (by omega);simp -dsimp only[go_sem,seval,h11];refine csplit (fun h=> ?_) (fun h=> ?_)<;>(try rw[h])<;>(try simp only[zab]at h)<;>(try simp -dsimp only[go_sem,seval,h11])
 ·obtain⟨t,ht,htm⟩:=zaf ‹i<p.threads.length›;obtain⟨_,hst,_⟩:=l5 t htm;simp -dsimp only[go_sem,seval,h11,ht];refine zaj 68717379744 t.steps.length (fun j f' h x=>(f' 21).v=vi j/\zxp h x (f' 5).v 3 (rowsC (choicesN p c i++choicesT p c i t j))) rfl ⟨by simp -dsimp only[go_sem,seval],by simp -dsimp only[go_sem,seval,choicesT,List.take_zero,List.zipIdx_nil,List.filterMap_nil,List.append_nil];exact hown.le (by omega)⟩ ?_;clear hown;rintro j f' u' H' x' bs' hj ⟨h21,hown⟩;have hw':=zah j (by omega);simp -dsimp only[go_sem,seval,h21];refine csplit (fun h=> ?_) (fun h=> ?_)<;>(try rw[h])<;>(try simp only[zab]at h)<;>(try simp -dsimp only[go_sem,seval,h21,h11])
  ·obtain⟨s,hs,hsm⟩:=zaf ‹j<t.steps.length›;have hen:=zzn p hf c hc i t ht j s hs;have hsucc:=zyg (p:=p) (c:=c) (t:=i) hs;have hl1:=zxC hf c i;have hl2:=zxY p c i t j;simp -dsimp only[go_sem,seval,h21,h11,hen];refine csplit (fun h=> ?_) (fun h=> ?_)<;>(try rw[h])<;>(try simp only[zab]at h)<;>(try simp -dsimp only[go_sem,seval,h21,h11])
   ·rw[h]at hsucc;have v1:=hown.valOf;have v2:=hown.r2;have v3:=hown.r3;have v4:=hown.r4;have v5:=hown.r5;simp -dsimp only[go_sem,seval,h21,h11,v1,v2,v3,v4,v5];refine zas (hown.upd (by omega) _) (by omega) (by rw[zyc,List.length_append];omega) (by decide) rfl (rowsC_all _) ?_;intro v hp hO hoffs hkeep;have w1:=hO.valOf;simp -dsimp only[go_sem,seval,w1,h21];refine⟨by omega,by simp -dsimp only[go_sem,seval,hw'],?_⟩;simp -dsimp only[go_sem,seval,hsucc,if_true];rw[<- List.append_assoc,zxL];exact hO.le (by omega)
   ·rw[h]at hsucc;refine⟨by omega,by simp -dsimp only[go_sem,seval,hw'],?_⟩;simp -dsimp only[go_sem,seval,hsucc,List.append_nil,zG,if_false];exact hown.le (by omega)
  ·have:j=t.steps.length:=by omega
   subst this;refine⟨by omega,by simp -dsimp only[go_sem,seval,hw],?_⟩;simp -dsimp only[go_sem,seval];rw[zxQ ht];exact hown.le (by omega)
 ·have:i=p.threads.length:=by omega
  subst this;have v1:=hown.valOf;have hre:=hown.reify (choice_norm _);have v5:=hown.resVal;simp only[Rg.resVal]at v5;simp -dsimp only[go_sem,seval,v1,v5];exact hre
def enabledL (p:Prog) (c:Config):List Choice:=if formedM p&&isM p c then choicesM p c else []
theorem zy2 (p:Prog) (hs:p.sane) (c:Config) (hcs:c.sane):Den Γ G 17 [(.agg [.t (.sl ((p).cells.map (Cell.enc))),.t (.sl ((p).modules.map (Contract.enc))),.t (.sl ((p).locks.map (Lock.enc))),.t (.sl ((p).threads.map (Thread.enc)))]),(.agg [.t (ints (c).mem),.t (ints (c).at_),.t (.sl ((c).buf.map (fun b=>[.sl (b.map Entry.enc)])))])]=some (.t (.sl ((enabledL p c).map Choice.enc))):=by
 (refine den_ofY Γ17 rfl ?_;dsimp only[f17])
 have h1:=zxD p hs;simp -dsimp only[go_sem,seval,h1];cases hf:formedM p
 ·simp -dsimp only[go_sem,seval];simp[enabledL,hf]
 ·have h2:=zzh p hf c hcs;simp -dsimp only[go_sem,seval,h2];cases hc:isM p c
  ·simp -dsimp only[go_sem,seval];simp[enabledL,hf,hc]
  ·have h3:=zyv p hf c hc;simp -dsimp only[go_sem,seval,h3];simp[enabledL,hf,hc]
def hasM (l:List Choice) (x:Choice):Bool:=l.any fun y=>decide (y=x)
theorem zzq (a b:Choice):(decide (a.thread=b.thread)&&(decide (a.step=b.step)&&decide (a.cell=b.cell)))=decide (a=b):=by
 cases a;cases b;simp only[Choice.mk.injEq];simp
def writeM (mem view:List Int) (set:List Assign):List Int:=set.foldl (fun m a=>m.set a.cell.toNat (a.to.eval view view)) mem
theorem zxq (view:List Int): ∀(set:List Assign) (mem:List Int),(writeM mem view set).length=mem.length
 | [],mem=>rfl
 | a::r,mem=>by
   have:=zxq view r (mem.set a.cell.toNat (a.to.eval view view));simpa[writeM]using this
theorem zyi {mem view:List Int} {set:List Assign} {i:Nat} {a:Assign} (h:set[i]? =some a):writeM mem view (set.take (i+1))=(writeM mem view (set.take i)).set a.cell.toNat (a.to.eval view view):=by
 unfold writeM;rw[zae h,List.foldl_append];rfl
theorem zyu {p:Prog} {c:Config} {t:Nat} {x:Thread} {n:Nat} {y:Choice}:y∈choicesT p c t x n<-> ∃i s,i<n/\x.steps[i]? =some s/\enabledM p c t s=true/\y=⟨t,i,0⟩:=by
 unfold choicesT;rw[List.mem_filterMap];constructor
 ·rintro⟨⟨s,i⟩,hm,h⟩;rw[List.mem_zipIdx_iff_getElem?]at hm;simp only at hm;rw[List.getElem?_take]at hm;split at hm
  ·rename_i hi;split at h
   ·rename_i he;simp only[zA]at h;exact⟨i,s,hi,hm,he,h.symm⟩
   ·simp at h
  ·simp at hm
 ·rintro⟨i,s,hi,hs,he,rfl⟩;refine⟨(s,i),?_,by simp[he]⟩;rw[List.mem_zipIdx_iff_getElem?];simp only;rw[List.getElem?_take,if_pos hi];exact hs
theorem zxz {p:Prog} {c:Config} {y:Choice}:y∈choicesM p c<-> ∃(t:Nat) (x:Thread) (i:Nat) (s:Step),p.threads[t]? =some x/\x.steps[i]? =some s/\enabledM p c t s=true/\y=⟨t,i,0⟩:=by
 unfold choicesM choicesN;rw[List.mem_flatMap];constructor
 ·rintro⟨⟨x,t⟩,hm,h⟩;rw[List.mem_zipIdx_iff_getElem?,List.take_length]at hm;obtain⟨i,s,_,hs,he,rfl⟩:=zyu.1 h;exact⟨t,x,i,s,hm,hs,he,rfl⟩
 ·rintro⟨t,x,i,s,hx,hs,he,rfl⟩;refine⟨(x,t),?_,zyu.2 ⟨i,s,(zH.1 hs).1,hs,he,rfl⟩⟩;rw[List.mem_zipIdx_iff_getElem?,List.take_length];exact hx
def execS (p:Prog) (c:Config) (t:Nat) (s:Step):Config:=
 ⟨writeM c.mem c.mem s.set,if s.kind=6 then(c.at_.set t s.to).set s.target.toNat 0 else c.at_.set t s.to,p.threads.map fun _=>[]⟩
def stepAt (p:Prog) (x:Choice):Option Step:=(p.threads[x.thread.toNat]?).bind fun t=>t.steps[x.step.toNat]?
def zeroC:Config:=⟨[],[],[]⟩
def execM (p:Prog) (c:Config) (x:Choice):Config:=match stepAt p x with
 | some s=>execS p c x.thread.toNat s
 | none=>zeroC
def nextM (p:Prog) (c:Config) (x:Choice):Config×Int:=
 if formedM p&&isM p c then(if hasM (choicesM p c) x then(execM p c x,0)else(zeroC,110))else(zeroC,1)
theorem hasM_iff (l:List Choice) (x:Choice):hasM l x=true<->x∈l:=by
 unfold hasM;rw[List.any_eq_true];constructor
 ·rintro⟨y,hy,h⟩;simp at h;exact h▸hy
 ·intro h;exact⟨x,h,by simp⟩
theorem zxm {α:Type} {l:List α} {n:Nat} (h:n=l.length):l.take n=l:=List.take_of_length_le (by omega)
theorem zAy {α:Type} {l:List α} {n:Nat} (h:n=l.length):l.drop n=[]:=List.drop_of_length_le (by omega)
theorem zzj (p:Prog) (hf:formedM p=true) (c:Config) (hc:isM p c=true) (t:Nat) (x:Thread) (hx:p.threads[t]? =some x) (i:Nat) (s:Step) (hs:x.steps[i]? =some s) (y:Choice) (hy:y=⟨t,i,0⟩) (hset:s.set.length<2^48):
 Den Γ G 45 [(.agg [.t (.sl ((p).cells.map (Cell.enc))),.t (.sl ((p).modules.map (Contract.enc))),.t (.sl ((p).locks.map (Lock.enc))),.t (.sl ((p).threads.map (Thread.enc)))]),(.agg [.t (ints (c).mem),.t (ints (c).at_),.t (.sl ((c).buf.map (fun b=>[.sl (b.map Entry.enc)])))]),(.agg [.t (ti (y).thread),.t (ti (y).step),.t (ti (y).cell)])]=some (.agg [.t (ints (execS p c t s).mem),.t (ints (execS p c t s).at_),.t (.sl ((execS p c t s).buf.map (fun b=>[.sl (b.map Entry.enc)])))]):=by
 subst hy;obtain⟨l1,l2,l3⟩:=zzM hc;obtain⟨⟨m1,m2,m3,m4⟩,_⟩:=limits_points (formed_limits hf).1;have hok:=formed_step hf hx hs;have htl:t<p.threads.length:=(zH.1 hx).1;have e1:(c.mem.length:Int)<=4294967296:=by omega
 have e2:(c.at_.length:Int)<=4294967296:=by omega
 have e3:(c.buf.length:Int)<=4294967296:=by omega
 (refine den_ofY Γ45 rfl ?_;dsimp only[f45])
 have r1:=rowsI_all c.mem;have r2:=rowsI_all c.at_;have r3:List.take c.mem.length (rowsI c.mem)=rowsI c.mem:=zxm (rowsI_len _).symm;have r4:List.take c.at_.length (rowsI c.at_)=rowsI c.at_:=zxm (rowsI_len _).symm;have r5: ∀(n:Nat) (v:List V),List.drop n (List.replicate n v)=[]:=fun n v=>zAy (by simp)
 have hcm: ∀a∈s.set,0<=a.cell/\a.cell<c.mem.length:=fun a ha=>by
  have:=(hok.rng.2 a ha).1;simp only[inR,decide_eq_true_eq]at this;omega
 simp -dsimp only[go_sem,seval,e1,e2,e3,Int.le_refl,ziC,r1,r2,r3,r4,r5,rowsI_len,List.length_replicate,Nat.le_refl,List.append_nil,Nat.min_self,hx,hs]
 refine zaj 36893206672442393600 s.set.length (fun j f h z=>(f 48).v=vi j/\h 7=some (.rows 1 (rowsI (writeM c.mem c.mem (s.set.take j))) false)/\h 11=some (.rows 1 (rowsI c.at_) false)/\h 15=some (.rows 1 (List.replicate c.buf.length [.t .nils]) false)) rfl
  ⟨by simp -dsimp only[go_sem,seval],by simp -dsimp only[go_sem,seval];rfl,by simp -dsimp only[go_sem,seval],by simp -dsimp only[go_sem,seval]⟩ ?_
 rintro j f u H z bs hj ⟨h48,g7,g11,g15⟩;have hw:=zah j (by omega);simp -dsimp only[go_sem,seval,h48];refine csplit (fun h=> ?_) (fun h=> ?_)<;>(try rw[h])<;>(try simp only[zab]at h)<;>(try simp -dsimp only[go_sem,seval,h48])
 ·obtain⟨a,ha,ham⟩:=zaf ‹j<s.set.length›;obtain⟨c0,c1⟩:=hcm a ham;have hev:=zxX a.to c.mem c.mem;have hlen:(writeM c.mem c.mem (s.set.take j)).length=c.mem.length:=zxq c.mem _ c.mem;have hgt:=zxo (l:=writeM c.mem c.mem (s.set.take j)) (i:=a.cell.toNat) (by omega);have hst:=zxn (writeM c.mem c.mem (s.set.take j)) a.cell.toNat (a.to.eval c.mem c.mem);rw[<- zyi ha]at hst;simp -dsimp only[go_sem,seval,h48,ha,hev,c0,c1,g7,hgt];refine⟨by omega,by simp -dsimp only[go_sem,seval,hw],by simp -dsimp only[go_sem,seval,hst],by simp -dsimp only[go_sem,seval,g11],by simp -dsimp only[go_sem,seval,g15]⟩
 ·have:j=s.set.length:=by omega
  subst this;rw[List.take_length]at g7;have hgt:=zxo (l:=c.at_) (i:=t) (by omega);have hst:=zxn c.at_ t s.to;have hlt:(t:Int)<(c.at_.length:Int):=by omega
  have t0:(0:Int)<=(t:Int):=by omega
  have hlt2:t<c.at_.length:=by omega
  have hb1:List.take p.threads.length (List.replicate p.threads.length [V.t T.nils])=List.replicate p.threads.length [V.t T.nils]:=zxm (by simp);have hb2:c.buf.length=p.threads.length:=l3;have hb3:=fun h=>zyd h p.threads.length
  have hm1:List.take c.mem.length (rowsI (writeM c.mem c.mem s.set))=rowsI (writeM c.mem c.mem s.set):=zxm (by rw[rowsI_len,zxq]);have hm2:(rowsI (writeM c.mem c.mem s.set)).length=c.mem.length:=by rw[rowsI_len,zxq]
  simp -dsimp only[go_sem,seval,g11,hgt,hlt,hlt2,hst,rowsI_len,List.length_set]
  by_cases hk:s.kind=6
  ·obtain⟨hr,_⟩:=hok.tgt (.inl hk);simp only[inR,decide_eq_true_eq]at hr;have q1:s.target<(c.at_.length:Int):=by omega
   have q2:=hr.1;have hgt2:=zxo (l:=c.at_.set t s.to) (i:=s.target.toNat) (by simp;omega);have hst2:=zxn (c.at_.set t s.to) s.target.toNat 0;have ha1:List.take c.at_.length (rowsI ((c.at_.set t s.to).set s.target.toNat 0))=rowsI ((c.at_.set t s.to).set s.target.toNat 0):=zxm (by rw[rowsI_len];simp);simp -dsimp only[go_sem,seval,hk,q1,q2,hgt2,hst2,g7,g15,hb1,hb3,hm1,hm2,ha1,rowsI_len,List.length_set,List.length_replicate,Nat.le_refl,zxr,hb2];simp[execS,hk,zxu]
  ·have ha1:List.take c.at_.length (rowsI (c.at_.set t s.to))=rowsI (c.at_.set t s.to):=zxm (by rw[rowsI_len];simp);simp -dsimp only[go_sem,seval,hk,g7,g15,hb1,hb3,hm1,hm2,ha1,rowsI_len,List.length_set,List.length_replicate,Nat.le_refl,zxr,hb2];simp[execS,hk,zxu]
theorem zyG (p:Prog) (hs:p.sane) (c:Config) (hcs:c.sane) (x:Choice):Den Γ G 18 [(.agg [.t (.sl ((p).cells.map (Cell.enc))),.t (.sl ((p).modules.map (Contract.enc))),.t (.sl ((p).locks.map (Lock.enc))),.t (.sl ((p).threads.map (Thread.enc)))]),(.agg [.t (ints (c).mem),.t (ints (c).at_),.t (.sl ((c).buf.map (fun b=>[.sl (b.map Entry.enc)])))]),(.agg [.t (ti (x).thread),.t (ti (x).step),.t (ti (x).cell)])]=some (.tup [(.agg [.t (ints ((nextM p c x).1).mem),.t (ints ((nextM p c x).1).at_),.t (.sl (((nextM p c x).1).buf.map (fun b=>[.sl (b.map Entry.enc)])))]),vi (nextM p c x).2]):=by
 (refine den_ofY Γ18 rfl ?_;dsimp only[f18])
 have h1:=zxD p hs;simp -dsimp only[go_sem,seval,h1];cases hf:formedM p
 ·simp -dsimp only[go_sem,seval];simp[nextM,hf,zeroC]
 ·have h2:=zzh p hf c hcs;simp -dsimp only[go_sem,seval,h2];cases hc:isM p c
  ·simp -dsimp only[go_sem,seval];simp[nextM,hf,hc,zeroC]
  ·have h3:=zyv p hf c hc
   have hlen:(choicesM p c).length<2^40:=by
    have:=zxC hf c p.threads.length;have:=(limits_points (formed_limits hf).1).1;unfold choicesM;omega
   have hN:nextM p c x=if hasM (choicesM p c) x then(execM p c x,0)else(zeroC,110):=by simp[nextM,hf,hc]
   simp -dsimp only[go_sem,seval,h3];refine zaz 68702700224 (choicesM p c).length (fun i f=>(f 24).v=vi i/\(f 6).v= .lb/\(f 6).box=some [.t .nils,.t .nils,.t .nils]/\hasM (choicesM p c) x=((choicesM p c).drop i).any fun y=>decide (y=x)) rfl rfl ⟨by simp -dsimp only[go_sem,seval],by simp -dsimp only[go_sem,seval],by simp -dsimp only[go_sem,seval],rfl⟩ ?_;rintro i f u kk bb hi ⟨h24,b1,b2,hany⟩;have hw:=zah i (by omega);simp -dsimp only[go_sem,seval,h24];refine csplit (fun h=> ?_) (fun h=> ?_)<;>(try rw[h])<;>(try simp only[zab]at h)<;>(try simp -dsimp only[go_sem,seval,h24])
   ·obtain⟨y,hy,hym⟩:=zaf ‹i<(choicesM p c).length›;have he:=zzq x y;simp -dsimp only[go_sem,seval,h24,hy,he,Bool.bne_false];refine csplit (fun h=> ?_) (fun h=> ?_)<;>(try rw[h])<;>(try simp only[zab]at h)<;>(try simp -dsimp only[go_sem,seval,h24])
    ·have hxy:x=y:=by simpa using h
     rw[zgt hy (by simpa using hxy.symm)]at hany;obtain⟨t,tx,j,s,ht,hsj,_,hyy⟩:=zxz.1 hym;have htm:=List.mem_of_getElem? ht;have hex:=zzj p hf c hc t tx ht j s hsj x (hxy.trans hyy) (hs.sets tx htm s (List.mem_of_getElem? hsj))
     have hE:execM p c x=execS p c t s:=by
      rw[hxy,hyy];simp[execM,stepAt,ht,hsj]
     rw[hany,if_pos rfl,hE]at hN;rw[hN];simp -dsimp only[go_sem,seval,hex,b1,b2]
    ·refine⟨by omega,by simp -dsimp only[go_sem,seval,hw],by simp -dsimp only[go_sem,seval,b1],by simp -dsimp only[go_sem,seval,b2],?_⟩;rw[hany,zbT hy (by simpa[eq_comm]using h)]
   ·have:i=(choicesM p c).length:=by omega
    subst this;rw[zil]at hany;rw[hany]at hN;rw[hN];simp -dsimp only[go_sem,seval,b1,b2];simp[zeroC]
theorem zxV {α β:Type} {l:List α} {m:List β} (h:l.length=m.length):(l.zip m).length=l.length:=by rw[List.length_zip];omega
theorem zzC {α:Type} [DecidableEq α]: ∀{a b:List α},a.length=b.length->((a.zip b).all fun q=>decide (q.1=q.2))=decide (a=b)
 | [],[],_=>rfl
 | [],_::_,h=>by simp at h
 | _::_,[],h=>by simp at h
 | x::a,y::b,h=>by
   simp only[List.length_cons,Nat.add_right_cancel_iff]at h;rw[List.zip_cons_cons,List.all_cons,zzC h]
   by_cases h1:x=y<;>by_cases h2:a=b<;>simp[h1,h2]
theorem zxK (a b:List Int) (hl:a.length<2^48):Den Γ G 34 [.t (ints a),.t (ints b)]=some (vb (decide (a=b))):=by
 (refine den_ofY Γ34 rfl ?_;dsimp only[f34])
 simp -dsimp only[go_sem,seval]
 by_cases hlen:a.length=b.length
 ·have hl':decide (¬(a.length:Int)=b.length)=false:=by simp[hlen]
  simp -dsimp only[go_sem,seval,hl'];rw[<- zzC hlen];have hzl:=zxV hlen;refine zaz 67106864 a.length (fun i f=>(f 5).v=vi i/\((a.zip b).all fun q=>decide (q.1=q.2))=((a.zip b).drop i).all fun q=>decide (q.1=q.2)) rfl rfl ⟨by simp -dsimp only[go_sem,seval],rfl⟩ ?_;rintro i f u kk bb hi ⟨h5,hall⟩;have hw:=zah i (by omega);simp -dsimp only[go_sem,seval,h5];refine csplit (fun h=> ?_) (fun h=> ?_)<;>(try rw[h])<;>(try simp only[zab]at h)<;>(try simp -dsimp only[go_sem,seval,h5])
  ·obtain⟨x,hx,_⟩:=zaf ‹i<a.length›;obtain⟨y,hy,_⟩:=zaf (show i<b.length by omega);have hz:=zip_get hx hy;simp -dsimp only[go_sem,seval,h5,hx,hy];refine csplit (fun h=> ?_) (fun h=> ?_)<;>(try rw[h])<;>(try simp only[zab]at h)<;>(try simp -dsimp only[go_sem,seval,h5])
   ·rw[hall,zaM hz (by simpa using h)]
   ·refine⟨by omega,by simp -dsimp only[go_sem,seval,hw],?_⟩;rw[hall,zaN hz (by simpa using h)]
  ·have:i=a.length:=by omega
   subst this;have hz:=za0 (fun q:Int×Int=>decide (q.1=q.2)) (a.zip b);rw[hzl]at hz;rw[hall,hz]
 ·have hl':decide (¬(a.length:Int)=b.length)=true:=by simp;omega
  simp -dsimp only[go_sem,seval,hl'];have : ¬a=b:=fun h=>hlen (by rw[h])
  simp[this]
def zxI (l:List Entry):Prop:=l.length<2^48/\ ∀e∈l,e.cells.length<2^48/\e.values.length<2^48
theorem zyE (a b:List Entry) (hl:zxI a):Den Γ G 37 [.t (.sl (a.map Entry.enc)),.t (.sl (b.map Entry.enc))]=some (vb (decide (a=b))):=by
 obtain⟨hl,hes⟩:=hl
 (refine den_ofY Γ37 rfl ?_;dsimp only[f37])
 simp -dsimp only[go_sem,seval]
 by_cases hlen:a.length=b.length
 ·have hl':decide (¬(a.length:Int)=b.length)=false:=by simp[hlen]
  simp -dsimp only[go_sem,seval,hl'];rw[<- zzC hlen];have hzl:=zxV hlen;refine zaz 8796093020208 a.length (fun i f=>(f 5).v=vi i/\((a.zip b).all fun q=>decide (q.1=q.2))=((a.zip b).drop i).all fun q=>decide (q.1=q.2)) rfl rfl ⟨by simp -dsimp only[go_sem,seval],rfl⟩ ?_;rintro i f u kk bb hi ⟨h5,hall⟩;have hw:=zah i (by omega);simp -dsimp only[go_sem,seval,h5];refine csplit (fun h=> ?_) (fun h=> ?_)<;>(try rw[h])<;>(try simp only[zab]at h)<;>(try simp -dsimp only[go_sem,seval,h5])
  ·obtain⟨x,hx,hxm⟩:=zaf ‹i<a.length›;obtain⟨y,hy,_⟩:=zaf (show i<b.length by omega);have hz:=zip_get hx hy;have s1:=zxK x.cells y.cells (hes x hxm).1;have s2:=zxK x.values y.values (hes x hxm).2
   have hxy:decide (x=y)=(decide (x.cells=y.cells)&&decide (x.values=y.values)):=by
    cases x;cases y;simp
   simp -dsimp only[go_sem,seval,h5,hx,hy,s1]
   repeat'(refine csplit (fun h=> ?_) (fun h=> ?_)<;>(try rw[h])<;>(try simp only[zab]at h)<;>(try simp -dsimp only[go_sem,seval,h5,hx,hy,s2]))
   all_goals first
    | (rw[hall,zaM hz (by simp only[hxy];simp[*])];done)
    | (refine⟨by omega,by simp -dsimp only[go_sem,seval,hw],?_⟩
       rw[hall,zaN hz (by simp only[hxy];simp[*])])
  ·have:i=a.length:=by omega
   subst this;have hz:=za0 (fun q:Entry×Entry=>decide (q.1=q.2)) (a.zip b);rw[hzl]at hz;rw[hall,hz]
 ·have hl':decide (¬(a.length:Int)=b.length)=true:=by simp;omega
  simp -dsimp only[go_sem,seval,hl'];have : ¬a=b:=fun h=>hlen (by rw[h])
  simp[this]
theorem zAH (a b:Config) (ha:a.sane) (he: ∀l∈a.buf,zxI l):Den Γ G 11 [(.agg [.t (ints (a).mem),.t (ints (a).at_),.t (.sl ((a).buf.map (fun b=>[.sl (b.map Entry.enc)])))]),(.agg [.t (ints (b).mem),.t (ints (b).at_),.t (.sl ((b).buf.map (fun b=>[.sl (b.map Entry.enc)])))])]=some (vb (decide (a=b))):=by
 (refine den_ofY Γ11 rfl ?_;dsimp only[f11])
 have s1:=zxK a.mem b.mem ha.mem;have s2:=zxK a.at_ b.at_ ha.at_;have hb:=ha.buf
 have hab:decide (a=b)=(decide (a.mem=b.mem)&&decide (a.at_=b.at_)&&decide (a.buf=b.buf)):=by
  cases a;cases b;simp[Bool.and_assoc]
 rw[hab];simp -dsimp only[go_sem,seval,s1];refine csplit (fun h=> ?_) (fun h=> ?_)<;>(try rw[h])<;>(try simp only[zab]at h)<;>(try simp -dsimp only[go_sem,seval,s2])
 ·simp[h]
 ·have e1:a.mem=b.mem:=by assumption
  refine csplit (fun h=> ?_) (fun h=> ?_)<;>(try rw[h])<;>(try simp only[zab]at h)<;>(try simp -dsimp only[go_sem,seval])
  ·simp[h]
  ·have e2:a.at_=b.at_:=by assumption
   by_cases hlen:a.buf.length=b.buf.length
   ·have hl':decide (¬(a.buf.length:Int)=b.buf.length)=false:=by simp[hlen]
    simp -dsimp only[go_sem,seval,hl'];rw[<- zzC hlen];have hzl:=zxV hlen;refine zaz 281474439839792 a.buf.length (fun i f=>(f 5).v=vi i/\((a.buf.zip b.buf).all fun q=>decide (q.1=q.2))=((a.buf.zip b.buf).drop i).all fun q=>decide (q.1=q.2)) rfl rfl ⟨by simp -dsimp only[go_sem,seval],rfl⟩ ?_;rintro i f u kk bb hi ⟨h5,hall⟩;have hw:=zah i (by omega);simp -dsimp only[go_sem,seval,h5];refine csplit (fun h=> ?_) (fun h=> ?_)<;>(try rw[h])<;>(try simp only[zab]at h)<;>(try simp -dsimp only[go_sem,seval,h5])
    ·obtain⟨x,hx,hxm⟩:=zaf ‹i<a.buf.length›;obtain⟨y,hy,_⟩:=zaf (show i<b.buf.length by omega);have hz:=zip_get hx hy;have s3:=zyE x y (he x hxm);simp -dsimp only[go_sem,seval,h5,hx,hy,s3];refine csplit (fun h=> ?_) (fun h=> ?_)<;>(try rw[h])<;>(try simp only[zab]at h)<;>(try simp -dsimp only[go_sem,seval,h5])
     ·rw[hall,zaM hz (by simpa using h)];simp
     ·refine⟨by omega,by simp -dsimp only[go_sem,seval,hw],?_⟩;rw[hall,zaN hz (by simpa using h)]
    ·have:i=a.buf.length:=by omega
     subst this;have hz:=za0 (fun q:List Entry×List Entry=>decide (q.1=q.2)) (a.buf.zip b.buf);rw[hzl]at hz;rw[hall,hz];simp[e1,e2]
   ·have hl':decide (¬(a.buf.length:Int)=b.buf.length)=true:=by simp;omega
    simp -dsimp only[go_sem,seval,hl'];have : ¬a.buf=b.buf:=fun h=>hlen (by rw[h])
    simp[this]
end Rg
end
section
namespace Rg
open Go
end Rg
end
section
-- FULL
namespace Rg
open Go
end Rg
end
section
-- FULL
namespace Rg
open Go
end Rg
end
section
namespace Rg
open Go
structure IsC (p:Prog) (c:Config):Prop where
 lm:c.mem.length=p.cells.length
 la:c.at_.length=p.threads.length
 lb:c.buf.length=p.threads.length
 mem: ∀(i:Nat) (v:Int) (y:Cell),c.mem[i]? =some v->p.cells[i]? =some y->0<=v/\v<2^y.w.toNat
 at_: ∀(i:Nat) (a:Int) (x:Thread),c.at_[i]? =some a->p.threads[i]? =some x-> -1<=a/\a<x.points/\(a= -1->x.asleep=true)
 buf: ∀b∈c.buf,b=[]
theorem zA0 {α β:Type} {l:List α} {m:List β} {f:α×β->Bool}:(l.zip m).all f=true<-> ∀(i:Nat) (a:α) (b:β),l[i]? =some a->m[i]? =some b->f (a,b)=true:=by
 rw[List.all_eq_true];constructor
 ·intro h i a b ha hb;exact h _ (List.mem_of_getElem? (zip_get ha hb))
 ·intro h q hq;obtain⟨i,hi⟩:=List.getElem?_of_mem hq;rw[List.getElem?_zip_eq_some]at hi;exact h i _ _ hi.1 hi.2
theorem is_iff {p:Prog} {c:Config}:isM p c=true<->IsC p c:=by
 simp only[isM,zCs,zF,decide_eq_true_eq,zA0];simp only[zxw,zyb,List.all_eq_true,zF,decide_eq_true_eq,Bool.not_eq_true',Bool.and_eq_false_iff,decide_eq_false_iff_not,Bool.not_eq_false',List.isEmpty_iff];constructor
 ·rintro⟨⟨⟨⟨⟨h1,h2⟩,h3⟩,h4⟩,h5⟩,h6⟩
  exact⟨h1,h2,h5,h3,fun i a x ha hx=>⟨(h4 i a x ha hx).1.1,(h4 i a x ha hx).1.2,fun h0=>by
   rcases(h4 i a x ha hx).2 with h | h
   ·exact absurd h0 h
   ·exact h⟩,h6⟩
 ·rintro⟨h1,h2,h5,h3,h4,h6⟩;refine⟨⟨⟨⟨⟨h1,h2⟩,h3⟩,fun i a x ha hx=>⟨⟨(h4 i a x ha hx).1,(h4 i a x ha hx).2.1⟩,?_⟩⟩,h5⟩,h6⟩
  by_cases h0:a= -1
  ·exact .inr ((h4 i a x ha hx).2.2 h0)
  ·exact .inl h0
theorem start_is {p:Prog} (hf:formedM p=true):isM p (startM p)=true:=by
 rw[is_iff,startM,if_pos hf];refine⟨by simp,by simp,by simp,?_,?_,?_⟩
 ·intro i v y hv hy;simp only[zJ,hy,Option.map_some,zA]at hv;subst hv;exact(formed_cell hf (List.mem_of_getElem? hy)).2.2
 ·intro i a x ha hx;simp only[zJ,hx,Option.map_some,zA]at ha;have:=points_bound hf hx;subst ha;split
  ·rename_i h;exact⟨by omega,by omega,fun _=>h⟩
  ·exact⟨by omega,by omega,by omega⟩
 ·intro b hb;simp only[List.mem_map]at hb;obtain⟨_,_,rfl⟩:=hb;rfl
theorem zyV (e:Expr) (old now:List Int):0<=e.eval old now/\e.eval old now<2^e.w.toNat:=by
 unfold Expr.eval;split
 ·rename_i h;exact zyz old now 40 e (formed_deep h)
 ·exact⟨by omega,ziJ _⟩
theorem zyY {p:Prog} {view:List Int}: ∀{set:List Assign} {mem:List Int},
 (∀a∈set,∃y,p.cells[a.cell.toNat]? =some y/\a.to.w=y.w)->
 (∀(i:Nat) (v:Int) (y:Cell),mem[i]? =some v->p.cells[i]? =some y->0<=v/\v<2^y.w.toNat)->
 ∀(i:Nat) (v:Int) (y:Cell),(writeM mem view set)[i]? =some v->p.cells[i]? =some y->0<=v/\v<2^y.w.toNat
 | [],mem,_,hm=>hm
 | a::r,mem,hw,hm=>by
   have:writeM mem view (a::r)=writeM (mem.set a.cell.toNat (a.to.eval view view)) view r:=rfl;rw[this];refine zyY (fun b hb=>hw b (List.mem_cons_of_mem _ hb)) ?_;intro i v y hv hy;rw[List.getElem?_set]at hv;split at hv
   ·rename_i hi;split at hv
    ·cases hv;obtain⟨z,hz,hzw⟩:=hw a List.mem_cons_self;rw[hi,hy]at hz;cases hz;rw[<- hzw];exact zyV _ _ _
    ·simp at hv
   ·exact hm i v y hv hy
theorem zBa {p:Prog} (hf:formedM p=true) {c:Config} (hc:isM p c=true) {t i:Nat} {x:Thread} {s:Step} (hx:p.threads[t]? =some x) (hs:x.steps[i]? =some s):isM p (execS p c t s)=true:=by
 rw[is_iff]at hc⊢;have hok:=formed_step hf hx hs;refine⟨by simp only[execS,zxq];exact hc.lm,?_,by simp[execS],?_,?_,?_⟩
 ·simp only[execS];split<;>simp <;>exact hc.la
 ·exact zyY hok.wid hc.mem
 ·have key: ∀(j:Nat) (a:Int) (z:Thread),(c.at_.set t s.to)[j]? =some a->p.threads[j]? =some z-> -1<=a/\a<z.points/\(a= -1->z.asleep=true):=by
   intro j a z ha hz;rw[List.getElem?_set]at ha;split at ha
   ·rename_i hj;split at ha
    ·cases ha;subst hj;rw[hx]at hz;cases hz;have:=hok.to;exact⟨by omega,by omega,by omega⟩
    ·simp at ha
   ·exact hc.at_ j a z ha hz
  intro j a z ha hz;simp only[execS]at ha;split at ha
  ·rw[List.getElem?_set]at ha;split at ha
   ·split at ha
    ·cases ha;have:=points_bound hf hz;exact⟨by omega,by omega,by omega⟩
    ·simp at ha
   ·exact key j a z ha hz
  ·exact key j a z ha hz
 ·intro b hb;simp only[execS,List.mem_map]at hb;obtain⟨_,_,rfl⟩:=hb;rfl
theorem zx7 {p:Prog} (hf:formedM p=true) {c:Config} (hc:isM p c=true) {y:Choice} (hy:y∈choicesM p c):
 ∃(t:Nat) (x:Thread) (i:Nat) (s:Step),p.threads[t]? =some x/\x.steps[i]? =some s/\enabledM p c t s=true/\y=⟨t,i,0⟩/\nextM p c y=(execS p c t s,0)/\isM p (execS p c t s)=true:=by
 obtain⟨t,x,i,s,hx,hs,he,rfl⟩:=zxz.1 hy;refine⟨t,x,i,s,hx,hs,he,rfl,?_,zBa hf hc hx hs⟩;rw[nextM,hf,hc];simp only[Bool.and_self,if_true,(hasM_iff _ _).2 hy];simp[execM,stepAt,hx,hs]
theorem zyK {p:Prog} (hf:formedM p=true) {c:Config} (hc:isM p c=true):enabledL p c=choicesM p c:=by
 rw[enabledL,hf,hc];rfl
def zyy (b:Nat->Bool) (n:Nat) (a a':Int):Prop:=(a= -1/\a'= -1)\/ ∃f:Nat,f<n/\a=f/\(a'=newB b f\/b f=true/\a'=newB b f+1)
theorem zAj (b:Nat->Bool) (n:Nat) (hn:n<=48) {a a':Int} (h:zyy b n a a'):Den Γ G 423 [.t (boolT b n),vi a']=some (vi a):=by
 have hbl:=zwj b n
 (refine den_ofY Γ423 rfl ?_;dsimp only[zBx])
 rcases h with⟨rfl,rfl⟩ | ⟨f,hf,rfl,h⟩
 ·simp -dsimp only[go_sem,seval]
 ·have h0: ¬(a'<0):=by omega
  simp -dsimp only[go_sem,seval,h0];refine zaz 1099511626864 f (fun i s=>(s 6).v=vi i/\(s 5).v=vi (newB b i:Nat)) rfl rfl ⟨by simp -dsimp only[go_sem,seval],by simp -dsimp only[go_sem,seval];rfl⟩ ?_;rintro i s u x bs hi ⟨h6,h5⟩;have hcl:=zcJ b i;have hin1:(i<(boolL b n).length)=True:=eq_true (by omega);have hg:=zwa (b:=b) (show i<n by omega);have hw:=zah i (by omega);have hN:newB b i<=2*i:=by unfold newB;omega
  have hw1:=zah (newB b i) (by omega);have hw2:=zah (newB b i+1) (by omega);simp -dsimp only[go_sem,seval,h6,hin1,h5,hg];rcases Nat.lt_or_ge i f with hif | hif
  ·have hlt:=zoF (b:=b) hif;have k1:(((newB b i:Nat):Int)=a')=False:=eq_false (by split at hlt<;>omega);have hs:=zgX b i;cases hb:b i
   ·rw[hb]at hs;simp -dsimp only[go_sem,seval,k1,hb,h5,hw1,hw,hg,h6];exact⟨hif,by simp -dsimp only[go_sem,seval,hw],by simp -dsimp only[go_sem,seval,hw1,hw2];rw[hs];rfl⟩
   ·rw[hb]at hlt hs;have k2:(((newB b i+1:Nat):Int)=a')=False:=eq_false (by simp at hlt;omega);simp -dsimp only[go_sem,seval,k1,k2,hb,h5,hw1,hw2,hw,hg,h6];exact⟨hif,by simp -dsimp only[go_sem,seval,hw],by simp -dsimp only[go_sem,seval,hw1,hw2];rw[hs];rfl⟩
  ·have:i=f:=by omega
   subst this;rcases h with h | ⟨hb,h⟩
   ·have k1:(((newB b i:Nat):Int)=a')=True:=eq_true h.symm;simp -dsimp only[go_sem,seval,k1,h6]
   ·have k1:(((newB b i:Nat):Int)=a')=False:=eq_false (by omega);have k2:(((newB b i+1:Nat):Int)=a')=True:=eq_true (by omega);simp -dsimp only[go_sem,seval,k1,k2,hb,h6,h5,hw1,hg]
structure RelC (p:Prog) (B:Nat->Nat->Bool) (c d:Config):Prop where
 mem:d.mem=c.mem
 buf:d.buf=c.buf
 la:c.at_.length=p.threads.length
 lb:d.at_.length=p.threads.length
 at_: ∀(t:Nat) (x:Thread) (a a':Int),p.threads[t]? =some x->c.at_[t]? =some a->d.at_[t]? =some a'->zyy (B t) x.points.toNat a a'
theorem zxH (p:Prog) (hp:p.ok) (l:List Pl) (hl:l.length<2^20) (hpl: ∀x∈l,znZ p x) (c d:Config) (hr:RelC p (ptB p l) c d) (hc:c.sane) (he: ∀b∈c.buf,zxI b):
 Den Γ G 411 [(.agg [.t (.sl ((p).cells.map (Cell.enc))),.t (.sl ((p).modules.map (Contract.enc))),.t (.sl ((p).locks.map (Lock.enc))),.t (.sl ((p).threads.map (Thread.enc)))]),.t (.sl (l.map Pl.enc)),(.agg [.t (ints (c).mem),.t (ints (c).at_),.t (.sl ((c).buf.map (fun b=>[.sl (b.map Entry.enc)])))]),(.agg [.t (ints (d).mem),.t (ints (d).at_),.t (.sl ((d).buf.map (fun b=>[.sl (b.map Entry.enc)])))])]=some (vb true):=by
 obtain⟨⟨_,_,_,b4⟩,_⟩:=limits_iff.1 (ok_iff.1 hp).lim;have k1:(((d.at_.length:Nat):Int)=p.threads.length)=True:=eq_true (by rw[hr.lb]);have k2:(((c.at_.length:Nat):Int)=d.at_.length)=True:=eq_true (by rw[hr.lb,hr.la])
 (refine den_ofY Γ411 rfl ?_;dsimp only[zBy])
 simp -dsimp only[go_sem,seval,k1,k2];refine zaj 281474708276736 p.threads.length (fun t f h z=>(f 10).v=vi t/\zxp h z (f 9).v 1 (rowsI (c.at_.take t))) rfl ⟨by simp -dsimp only[go_sem,seval],by simp -dsimp only[go_sem,seval];exact .inr ⟨_,rfl,by decide,by rw[zac,if_pos rfl];rfl⟩⟩ ?_;rintro t f u H z bs ht ⟨h10,hown⟩;have hw:=zah t (by omega);simp -dsimp only[go_sem,seval,h10]
 by_cases hlt:t<p.threads.length
 ·have hlt1:=eq_true hlt;obtain⟨x,hx,hxm⟩:=zaf hlt;have hsp:=zwk p hp l hl hpl hx;obtain⟨a,ha,_⟩:=zaf (show t<c.at_.length by rw[hr.la];exact hlt);obtain⟨a',ha',_⟩:=zaf (show t<d.at_.length by rw[hr.lb];exact hlt);have hpt:=hp.thr hx;have hold:=zAj (ptB p l t) x.points.toNat (by omega) (hr.at_ t x a a' hx ha ha');have v1:=hown.valOf;have v2:=hown.r2;have v3:=hown.r3;have v4:=hown.r4;have hsuc:rowsI (c.at_.take (t+1))=rowsI (c.at_.take t)++[[V.t (ti a)]]:=by rw[zae ha,za6]
  simp -dsimp only[go_sem,seval,h10,hlt1,hsp,ha',hold,v1,v2,v3,v4];refine zas (hown.upd (by omega) _) (by omega) (by rw[rowsI_len];simp;omega) (by decide) rfl (rowsI_all _) ?_;intro v hp2 hO hoffs hkeep;have w1:=hO.valOf;rw[<- hsuc]at hO;simp -dsimp only[go_sem,seval,w1,h10];exact⟨by omega,by simp -dsimp only[go_sem,seval,hw],by simp -dsimp only[go_sem,seval];exact hO.le (by omega)⟩
 ·have htl:t=p.threads.length:=by omega
  subst htl;have hlt1:=eq_false hlt;have htk:c.at_.take p.threads.length=c.at_:=List.take_of_length_le (by rw[hr.la];omega);rw[htk]at hown;have hsm:=zAH c c hc he;have hm:=hr.mem;have hb:=hr.buf;obtain⟨cm,ca,cb⟩:=c;simp only at hm hb hown hsm;rcases hown with⟨hv,h0⟩ | ⟨k,hv,hk,hh⟩
  ·have h1:ca=[]:=by simpa[rowsI]using h0
   subst h1;simp -dsimp only[go_sem,seval,h10,hlt1,hv,hsm,hm,hb];rw[show(T.sl []:T)=ints []from rfl,hsm];simp -dsimp only[go_sem,seval]
  ·have hmp:(rowsI ca).mapM (fun row=>row.mapM (toT H 999))=some (ca.map fun n=>[ti n]):=by
    have:=zkl H 999 (ca.map fun n=>[ti n]);simpa[rowsI,List.map_map,Function.comp_def,T.norm]using this
   have hrl:((rowsI ca).length<=(rowsI ca).length)=True:=eq_true (Nat.le_refl _);simp -dsimp only[go_sem,seval,h10,hlt1,hv,hm,hb,hh,hrl,List.take_length,hmp];rw[hsm];simp -dsimp only[go_sem,seval]
section
end
end Rg
end
section
namespace Rg
open Go
theorem zBn {b:Nat->Bool} {m n:Nat} (h:newB b m=newB b n):m=n:=by
 rcases Nat.lt_trichotomy m n with h1 | rfl | h1
 ·have:=zoF (b:=b) h1;split at this<;>omega
 ·rfl
 ·have:=zoF (b:=b) h1;split at this<;>omega
theorem zAL {b:Nat->Bool} {f g:Nat} (hf:b f=true):newB b f+1≠newB b g:=by
 intro h;rcases Nat.lt_trichotomy f g with h1 | rfl | h1
 ·have:=zoF (b:=b) h1;rw[hf]at this;simp only[if_true]at this;omega
 ·omega
 ·have:=zoF (b:=b) h1;split at this<;>omega
section
variable {x:Thread} {b:Nat->Bool}
theorem zA6 {j:Nat} {y:Step} (h:(x.ins b).steps[j]? =some y):(j<x.steps.length/\ ∃s,x.steps[j]? =some s/\y=s.ins b)\/(x.steps.length<=j/\ ∃f,f<x.points.toNat/\b f=true/\y=fenceS b x f):=by
 have h':(x.steps.map (Step.ins b)++(fencedL b x.points.toNat).map (fenceS b x))[j]? =some y:=h;rw[List.getElem?_append,List.length_map]at h';split at h'
 ·rename_i hj;rw[zJ,zI hj]at h';exact .inl ⟨hj,_,zI hj,by simpa using h'.symm⟩
 ·rename_i hj;rw[zJ,zE]at h';obtain⟨f,hf,rfl⟩:=h';have hm:=List.mem_of_getElem? hf;unfold fencedL at hm;rw[List.mem_filter,List.mem_range]at hm;exact .inr ⟨by omega,f,hm.1,hm.2,rfl⟩
theorem zBr (b:Nat->Bool) (s:Step):(s.ins b).fr=((newB b s.fr.toNat+(if b s.fr.toNat then 1 else 0):Nat):Int):=by
 unfold Step.ins newI;cases b s.fr.toNat<;>simp
theorem zBq (b:Nat->Bool) (s:Step):(s.ins b).to=((newB b s.to.toNat:Nat):Int):=rfl
theorem zBt (f:Nat):(fenceS b x f).fr=((newB b f:Nat):Int):=rfl
theorem zBs (f:Nat):(fenceS b x f).to=((newB b f+1:Nat):Int):=by simp[fenceS]
end
end Rg
end
section
namespace Rg
open Go
namespace Gr.Sub2
end Gr.Sub2
section
variable {p:Prog} {B:Nat->Nat->Bool}
theorem insP_get {t:Nat} {x:Thread} (h:p.threads[t]? =some x):(p.ins B).threads[t]? =some (x.ins (B t)):=by
 show(p.threads.mapIdx fun t x=>x.ins (B t))[t]? =_;rw[List.getElem?_mapIdx,h];rfl
theorem zy1 {t:Nat} {y:Thread} (h:(p.ins B).threads[t]? =some y): ∃x,p.threads[t]? =some x/\y=x.ins (B t):=by
 have h':(p.threads.mapIdx fun t x=>x.ins (B t))[t]? =some y:=h;rw[List.getElem?_mapIdx,zE]at h';obtain⟨x,hx,rfl⟩:=h';exact⟨x,hx,rfl⟩
theorem zxv:(p.ins B).threads.length=p.threads.length:=by
 show(p.threads.mapIdx fun t x=>x.ins (B t)).length=_;simp
end
end Rg
end
