/- Part of the proof of laws of relyguardlaw31. No condition. -/
import Derived.Test.YtcmeofagpechdaaGreatDoorPartBF
import Derived.Test.YtcmeofagpechdaaGreatDoorPartBE
import Derived.Test.YtcmeofagpechdaaGreatDoorPartBA
import Derived.Test.YtcmeofagpechdaaGreatDoorPartBC
import Derived.Test.YtcmeofagpechdaaGreatDoorPartBB
set_option linter.unusedSimpArgs false
set_option linter.unusedVariables false
section
namespace Rg
open Go
theorem zzC {α:Type} [DecidableEq α]: ∀{a b:List α},a.length=b.length->((a.zip b).all fun q=>decide (q.1=q.2))=decide (a=b)
 | [],[],_=>rfl
 | [],_::_,h=>by simp at h
 | _::_,[],h=>by simp at h
 | x::a,y::b,h=>by
   simp only[List.length_cons,Nat.add_right_cancel_iff]at h;rw[List.zip_cons_cons,List.all_cons,zzC h]
   by_cases h1:x=y<;>by_cases h2:a=b<;>simp[h1,h2]
theorem zxK (a b:List Int) (hl:a.length<2^48):Den Γ G 34 [.t (ints a),.t (ints b)]=some (vb (decide (a=b))):=by
 (refine den_ofY Γ34 rfl ?_;dsimp only[f34])
 simp -dsimp -implicitDefEqProofs only[go_sem,seval]
 by_cases hlen:a.length=b.length
 ·have hl':decide (¬(a.length:Int)=b.length)=false:=by simp[hlen]
  simp -dsimp -implicitDefEqProofs only[go_sem,seval,hl'];rw[<- zzC hlen];have hzl:=zxV hlen;refine zaz 67106864 a.length (fun i f=>(f 5).v=vi i/\((a.zip b).all fun q=>decide (q.1=q.2))=((a.zip b).drop i).all fun q=>decide (q.1=q.2)) rfl rfl ⟨by simp -dsimp -implicitDefEqProofs only[go_sem,seval],rfl⟩ ?_;rintro i f u kk bb hi ⟨h5,hall⟩;have hw:=zah i (by omega);simp -dsimp -implicitDefEqProofs only[go_sem,seval,h5];refine csplit (fun h=> ?_) (fun h=> ?_)<;>(try rw[h])<;>(try simp only[zab]at h)<;>(try simp -dsimp -implicitDefEqProofs only[go_sem,seval,h5])
  ·obtain⟨x,hx,_⟩:=zaf ‹i<a.length›;obtain⟨y,hy,_⟩:=zaf (show i<b.length by omega);have hz:=zip_get hx hy;simp -dsimp -implicitDefEqProofs only[go_sem,seval,h5,hx,hy];refine csplit (fun h=> ?_) (fun h=> ?_)<;>(try rw[h])<;>(try simp only[zab]at h)<;>(try simp -dsimp -implicitDefEqProofs only[go_sem,seval,h5])
   ·rw[hall,zaM hz (by simpa using h)]
   ·refine⟨by omega,by simp -dsimp -implicitDefEqProofs only[go_sem,seval,hw],?_⟩;rw[hall,zaN hz (by simpa using h)]
  ·have:i=a.length:=by omega
   subst this;have hz:=za0 (fun q:Int×Int=>decide (q.1=q.2)) (a.zip b);rw[hzl]at hz;rw[hall,hz]
 ·have hl':decide (¬(a.length:Int)=b.length)=true:=by simp;omega
  simp -dsimp -implicitDefEqProofs only[go_sem,seval,hl'];have : ¬a=b:=fun h=>hlen (by rw[h])
  simp[this]
def zxI (l:List Entry):Prop:=l.length<2^48/\ ∀e∈l,e.cells.length<2^48/\e.values.length<2^48
theorem zyE (a b:List Entry) (hl:zxI a):Den Γ G 37 [.t (.sl (a.map Entry.enc)),.t (.sl (b.map Entry.enc))]=some (vb (decide (a=b))):=by
 obtain⟨hl,hes⟩:=hl
 (refine den_ofY Γ37 rfl ?_;dsimp only[f37])
 simp -dsimp -implicitDefEqProofs only[go_sem,seval]
 by_cases hlen:a.length=b.length
 ·have hl':decide (¬(a.length:Int)=b.length)=false:=by simp[hlen]
  simp -dsimp -implicitDefEqProofs only[go_sem,seval,hl'];rw[<- zzC hlen];have hzl:=zxV hlen;refine zaz 8796093020208 a.length (fun i f=>(f 5).v=vi i/\((a.zip b).all fun q=>decide (q.1=q.2))=((a.zip b).drop i).all fun q=>decide (q.1=q.2)) rfl rfl ⟨by simp -dsimp -implicitDefEqProofs only[go_sem,seval],rfl⟩ ?_;rintro i f u kk bb hi ⟨h5,hall⟩;have hw:=zah i (by omega);simp -dsimp -implicitDefEqProofs only[go_sem,seval,h5];refine csplit (fun h=> ?_) (fun h=> ?_)<;>(try rw[h])<;>(try simp only[zab]at h)<;>(try simp -dsimp -implicitDefEqProofs only[go_sem,seval,h5])
  ·obtain⟨x,hx,hxm⟩:=zaf ‹i<a.length›;obtain⟨y,hy,_⟩:=zaf (show i<b.length by omega);have hz:=zip_get hx hy;have s1:=zxK x.cells y.cells (hes x hxm).1;have s2:=zxK x.values y.values (hes x hxm).2
   have hxy:decide (x=y)=(decide (x.cells=y.cells)&&decide (x.values=y.values)):=by
    cases x;cases y;simp
   simp -dsimp -implicitDefEqProofs only[go_sem,seval,h5,hx,hy,s1]
   repeat'(refine csplit (fun h=> ?_) (fun h=> ?_)<;>(try rw[h])<;>(try simp only[zab]at h)<;>(try simp -dsimp -implicitDefEqProofs only[go_sem,seval,h5,hx,hy,s2]))
   all_goals first
    | (rw[hall,zaM hz (by simp only[hxy];simp[*])];done)
    | (refine⟨by omega,by simp -dsimp -implicitDefEqProofs only[go_sem,seval,hw],?_⟩
       rw[hall,zaN hz (by simp only[hxy];simp[*])])
  ·have:i=a.length:=by omega
   subst this;have hz:=za0 (fun q:Entry×Entry=>decide (q.1=q.2)) (a.zip b);rw[hzl]at hz;rw[hall,hz]
 ·have hl':decide (¬(a.length:Int)=b.length)=true:=by simp;omega
  simp -dsimp -implicitDefEqProofs only[go_sem,seval,hl'];have : ¬a=b:=fun h=>hlen (by rw[h])
  simp[this]
theorem zAH (a b:Config) (ha:a.sane) (he: ∀l∈a.buf,zxI l):Den Γ G 11 [(.agg [.t (ints (a).mem),.t (ints (a).at_),.t (.sl ((a).buf.map (fun b=>[.sl (b.map Entry.enc)])))]),(.agg [.t (ints (b).mem),.t (ints (b).at_),.t (.sl ((b).buf.map (fun b=>[.sl (b.map Entry.enc)])))])]=some (vb (decide (a=b))):=by
 (refine den_ofY Γ11 rfl ?_;dsimp only[f11])
 have s1:=zxK a.mem b.mem ha.mem;have s2:=zxK a.at_ b.at_ ha.at_;have hb:=ha.buf
 have hab:decide (a=b)=(decide (a.mem=b.mem)&&decide (a.at_=b.at_)&&decide (a.buf=b.buf)):=by
  cases a;cases b;simp[Bool.and_assoc]
 rw[hab];simp -dsimp -implicitDefEqProofs only[go_sem,seval,s1];refine csplit (fun h=> ?_) (fun h=> ?_)<;>(try rw[h])<;>(try simp only[zab]at h)<;>(try simp -dsimp -implicitDefEqProofs only[go_sem,seval,s2])
 ·simp[h]
 ·have e1:a.mem=b.mem:=by assumption
  refine csplit (fun h=> ?_) (fun h=> ?_)<;>(try rw[h])<;>(try simp only[zab]at h)<;>(try simp -dsimp -implicitDefEqProofs only[go_sem,seval])
  ·simp[h]
  ·have e2:a.at_=b.at_:=by assumption
   by_cases hlen:a.buf.length=b.buf.length
   ·have hl':decide (¬(a.buf.length:Int)=b.buf.length)=false:=by simp[hlen]
    simp -dsimp -implicitDefEqProofs only[go_sem,seval,hl'];rw[<- zzC hlen];have hzl:=zxV hlen;refine zaz 281474439839792 a.buf.length (fun i f=>(f 5).v=vi i/\((a.buf.zip b.buf).all fun q=>decide (q.1=q.2))=((a.buf.zip b.buf).drop i).all fun q=>decide (q.1=q.2)) rfl rfl ⟨by simp -dsimp -implicitDefEqProofs only[go_sem,seval],rfl⟩ ?_;rintro i f u kk bb hi ⟨h5,hall⟩;have hw:=zah i (by omega);simp -dsimp -implicitDefEqProofs only[go_sem,seval,h5];refine csplit (fun h=> ?_) (fun h=> ?_)<;>(try rw[h])<;>(try simp only[zab]at h)<;>(try simp -dsimp -implicitDefEqProofs only[go_sem,seval,h5])
    ·obtain⟨x,hx,hxm⟩:=zaf ‹i<a.buf.length›;obtain⟨y,hy,_⟩:=zaf (show i<b.buf.length by omega);have hz:=zip_get hx hy;have s3:=zyE x y (he x hxm);simp -dsimp -implicitDefEqProofs only[go_sem,seval,h5,hx,hy,s3];refine csplit (fun h=> ?_) (fun h=> ?_)<;>(try rw[h])<;>(try simp only[zab]at h)<;>(try simp -dsimp -implicitDefEqProofs only[go_sem,seval,h5])
     ·rw[hall,zaM hz (by simpa using h)];simp
     ·refine⟨by omega,by simp -dsimp -implicitDefEqProofs only[go_sem,seval,hw],?_⟩;rw[hall,zaN hz (by simpa using h)]
    ·have:i=a.buf.length:=by omega
     subst this;have hz:=za0 (fun q:List Entry×List Entry=>decide (q.1=q.2)) (a.buf.zip b.buf);rw[hzl]at hz;rw[hall,hz];simp[e1,e2]
   ·have hl':decide (¬(a.buf.length:Int)=b.buf.length)=true:=by simp;omega
    simp -dsimp -implicitDefEqProofs only[go_sem,seval,hl'];have : ¬a.buf=b.buf:=fun h=>hlen (by rw[h])
    simp[this]
end Rg
end
section
namespace Rg
open Go
end Rg
end
section
namespace Rg
open Go
end Rg
end
section
-- FULL
namespace Rg
open Go
end Rg
end
section
-- FULL
namespace Rg
open Go
end Rg
end
section
namespace Rg
open Go
structure IsC (p:Prog) (c:Config):Prop where
 lm:c.mem.length=p.cells.length
 la:c.at_.length=p.threads.length
 lb:c.buf.length=p.threads.length
 mem: ∀(i:Nat) (v:Int) (y:Cell),c.mem[i]? =some v->p.cells[i]? =some y->0<=v/\v<2^y.w.toNat
 at_: ∀(i:Nat) (a:Int) (x:Thread),c.at_[i]? =some a->p.threads[i]? =some x-> -1<=a/\a<x.points/\(a= -1->x.asleep=true)
 buf: ∀b∈c.buf,b=[]
theorem zA0 {α β:Type} {l:List α} {m:List β} {f:α×β->Bool}:(l.zip m).all f=true<-> ∀(i:Nat) (a:α) (b:β),l[i]? =some a->m[i]? =some b->f (a,b)=true:=by
 rw[List.all_eq_true];constructor
 ·intro h i a b ha hb;exact h _ (List.mem_of_getElem? (zip_get ha hb))
 ·intro h q hq;obtain⟨i,hi⟩:=List.getElem?_of_mem hq;rw[List.getElem?_zip_eq_some]at hi;exact h i _ _ hi.1 hi.2
theorem is_iff {p:Prog} {c:Config}:isM p c=true<->IsC p c:=by
 simp only[isM,fitsM,zF,decide_eq_true_eq,zA0];simp only[zxw,zyb,List.all_eq_true,zF,decide_eq_true_eq,Bool.not_eq_true',Bool.and_eq_false_iff,decide_eq_false_iff_not,Bool.not_eq_false',List.isEmpty_iff];constructor
 ·rintro⟨⟨⟨⟨⟨h1,h2⟩,h3⟩,h4⟩,h5⟩,h6⟩
  exact⟨h1,h2,h5,h3,fun i a x ha hx=>⟨(h4 i a x ha hx).1.1,(h4 i a x ha hx).1.2,fun h0=>by
   rcases(h4 i a x ha hx).2 with h | h
   ·exact absurd h0 h
   ·exact h⟩,h6⟩
 ·rintro⟨h1,h2,h5,h3,h4,h6⟩;refine⟨⟨⟨⟨⟨h1,h2⟩,h3⟩,fun i a x ha hx=>⟨⟨(h4 i a x ha hx).1,(h4 i a x ha hx).2.1⟩,?_⟩⟩,h5⟩,h6⟩
  by_cases h0:a= -1
  ·exact .inr ((h4 i a x ha hx).2.2 h0)
  ·exact .inl h0
theorem zCq {p:Prog} (hf:formedM p=true):isM p (startM p)=true:=by
 rw[is_iff,startM,if_pos hf];refine⟨by simp,by simp,by simp,?_,?_,?_⟩
 ·intro i v y hv hy;simp only[zJ,hy,Option.map_some,zA]at hv;subst hv;exact(formed_cell hf (List.mem_of_getElem? hy)).2.2
 ·intro i a x ha hx;simp only[zJ,hx,Option.map_some,zA]at ha;have:=zCn hf hx;subst ha;split
  ·rename_i h;exact⟨by omega,by omega,fun _=>h⟩
  ·exact⟨by omega,by omega,by omega⟩
 ·intro b hb;simp only[List.mem_map]at hb;obtain⟨_,_,rfl⟩:=hb;rfl
theorem zyV (e:Expr) (old now:List Int):0<=e.eval old now/\e.eval old now<2^e.w.toNat:=by
 unfold Expr.eval;split
 ·rename_i h;exact zyz old now 40 e (formed_deep h)
 ·exact⟨by omega,ziJ _⟩
theorem zyY {p:Prog} {view:List Int}: ∀{set:List Assign} {mem:List Int},
 (∀a∈set,∃y,p.cells[a.cell.toNat]? =some y/\a.to.w=y.w)->
 (∀(i:Nat) (v:Int) (y:Cell),mem[i]? =some v->p.cells[i]? =some y->0<=v/\v<2^y.w.toNat)->
 ∀(i:Nat) (v:Int) (y:Cell),(writeM mem view set)[i]? =some v->p.cells[i]? =some y->0<=v/\v<2^y.w.toNat
 | [],mem,_,hm=>hm
 | a::r,mem,hw,hm=>by
   have:writeM mem view (a::r)=writeM (mem.set a.cell.toNat (a.to.eval view view)) view r:=rfl;rw[this];refine zyY (fun b hb=>hw b (List.mem_cons_of_mem _ hb)) ?_;intro i v y hv hy;rw[List.getElem?_set]at hv;split at hv
   ·rename_i hi;split at hv
    ·cases hv;obtain⟨z,hz,hzw⟩:=hw a List.mem_cons_self;rw[hi,hy]at hz;cases hz;rw[<- hzw];exact zyV _ _ _
    ·simp at hv
   ·exact hm i v y hv hy
theorem zBa {p:Prog} (hf:formedM p=true) {c:Config} (hc:isM p c=true) {t i:Nat} {x:Thread} {s:Step} (hx:p.threads[t]? =some x) (hs:x.steps[i]? =some s):isM p (execS p c t s)=true:=by
 rw[is_iff]at hc⊢;have hok:=zCo hf hx hs;refine⟨by simp only[execS,zxq];exact hc.lm,?_,by simp[execS],?_,?_,?_⟩
 ·simp only[execS];split<;>simp <;>exact hc.la
 ·exact zyY hok.wid hc.mem
 ·have key: ∀(j:Nat) (a:Int) (z:Thread),(c.at_.set t s.to)[j]? =some a->p.threads[j]? =some z-> -1<=a/\a<z.points/\(a= -1->z.asleep=true):=by
   intro j a z ha hz;rw[List.getElem?_set]at ha;split at ha
   ·rename_i hj;split at ha
    ·cases ha;subst hj;rw[hx]at hz;cases hz;have:=hok.to;exact⟨by omega,by omega,by omega⟩
    ·simp at ha
   ·exact hc.at_ j a z ha hz
  intro j a z ha hz;simp only[execS]at ha;split at ha
  ·rw[List.getElem?_set]at ha;split at ha
   ·split at ha
    ·cases ha;have:=zCn hf hz;exact⟨by omega,by omega,by omega⟩
    ·simp at ha
   ·exact key j a z ha hz
  ·exact key j a z ha hz
 ·intro b hb;simp only[execS,List.mem_map]at hb;obtain⟨_,_,rfl⟩:=hb;rfl
theorem zx7 {p:Prog} (hf:formedM p=true) {c:Config} (hc:isM p c=true) {y:Choice} (hy:y∈choicesM p c):
 ∃(t:Nat) (x:Thread) (i:Nat) (s:Step),p.threads[t]? =some x/\x.steps[i]? =some s/\enabledM p c t s=true/\y=⟨t,i,0⟩/\nextM p c y=(execS p c t s,0)/\isM p (execS p c t s)=true:=by
 obtain⟨t,x,i,s,hx,hs,he,rfl⟩:=zxz.1 hy;refine⟨t,x,i,s,hx,hs,he,rfl,?_,zBa hf hc hx hs⟩;rw[nextM,hf,hc];simp only[Bool.and_self,if_true,(hasM_iff _ _).2 hy];simp[execM,stepAt,hx,hs]
theorem zA2 {p:Prog} (hf:formedM p=true) {c:Config} (hc:isM p c=true) {y:Choice} (hy: ¬y∈choicesM p c):nextM p c y=(zeroC,110):=by
 rw[nextM,hf,hc];have:hasM (choicesM p c) y=false:=by rw[<- Bool.not_eq_true,hasM_iff];exact hy
 simp[this]
theorem zyK {p:Prog} (hf:formedM p=true) {c:Config} (hc:isM p c=true):enabledL p c=choicesM p c:=by
 rw[enabledL,hf,hc];rfl
def zyy (b:Nat->Bool) (n:Nat) (a a':Int):Prop:=(a= -1/\a'= -1)\/ ∃f:Nat,f<n/\a=f/\(a'=newB b f\/b f=true/\a'=newB b f+1)
theorem zAj (b:Nat->Bool) (n:Nat) (hn:n<=48) {a a':Int} (h:zyy b n a a'):Den Γ G 423 [.t (boolT b n),vi a']=some (vi a):=by
 have hbl:=zwj b n
 (refine den_ofY Γ423 rfl ?_;dsimp only[zBx])
 rcases h with⟨rfl,rfl⟩ | ⟨f,hf,rfl,h⟩
 ·simp -dsimp -implicitDefEqProofs only[go_sem,seval]
 ·have h0: ¬(a'<0):=by omega
  simp -dsimp -implicitDefEqProofs only[go_sem,seval,h0];refine zaz 1099511626864 f (fun i s=>(s 6).v=vi i/\(s 5).v=vi (newB b i:Nat)) rfl rfl ⟨by simp -dsimp -implicitDefEqProofs only[go_sem,seval],by simp -dsimp -implicitDefEqProofs only[go_sem,seval];rfl⟩ ?_;rintro i s u x bs hi ⟨h6,h5⟩;have hcl:=zcJ b i;have hin1:(i<(boolL b n).length)=True:=eq_true (by omega);have hg:=zwa (b:=b) (show i<n by omega);have hw:=zah i (by omega);have hN:newB b i<=2*i:=by unfold newB;omega
  have hw1:=zah (newB b i) (by omega);have hw2:=zah (newB b i+1) (by omega);simp -dsimp -implicitDefEqProofs only[go_sem,seval,h6,hin1,h5,hg];rcases Nat.lt_or_ge i f with hif | hif
  ·have hlt:=zoF (b:=b) hif;have k1:(((newB b i:Nat):Int)=a')=False:=eq_false (by split at hlt<;>omega);have hs:=zgX b i;cases hb:b i
   ·rw[hb]at hs;simp -dsimp -implicitDefEqProofs only[go_sem,seval,k1,hb,h5,hw1,hw,hg,h6];exact⟨hif,by simp -dsimp -implicitDefEqProofs only[go_sem,seval,hw],by simp -dsimp -implicitDefEqProofs only[go_sem,seval,hw1,hw2];rw[hs];rfl⟩
   ·rw[hb]at hlt hs;have k2:(((newB b i+1:Nat):Int)=a')=False:=eq_false (by simp at hlt;omega);simp -dsimp -implicitDefEqProofs only[go_sem,seval,k1,k2,hb,h5,hw1,hw2,hw,hg,h6];exact⟨hif,by simp -dsimp -implicitDefEqProofs only[go_sem,seval,hw],by simp -dsimp -implicitDefEqProofs only[go_sem,seval,hw1,hw2];rw[hs];rfl⟩
  ·have:i=f:=by omega
   subst this;rcases h with h | ⟨hb,h⟩
   ·have k1:(((newB b i:Nat):Int)=a')=True:=eq_true h.symm;simp -dsimp -implicitDefEqProofs only[go_sem,seval,k1,h6]
   ·have k1:(((newB b i:Nat):Int)=a')=False:=eq_false (by omega);have k2:(((newB b i+1:Nat):Int)=a')=True:=eq_true (by omega);simp -dsimp -implicitDefEqProofs only[go_sem,seval,k1,k2,hb,h6,h5,hw1,hg]
def fenceM (l:List Int) (many:Int):Int:=(l.find? fun k=>decide (many<=k)).getD (-1)
theorem zzy (q:Prog) (t many:Int) (c:Config) (a:Int) (ht:0<=t) (ha:c.at_[t.toNat]? =some a) (hl: ∀x∈q.threads,x.steps.length<2^31) (hn:(stepsM q t a).length<=64):
 Den Γ G 410 [(.agg [.t (.sl ((q).cells.map (Cell.enc))),.t (.sl ((q).modules.map (Contract.enc))),.t (.sl ((q).locks.map (Lock.enc))),.t (.sl ((q).threads.map (Thread.enc)))]),vi t,vi many,(.agg [.t (ints (c).mem),.t (ints (c).at_),.t (.sl ((c).buf.map (fun b=>[.sl (b.map Entry.enc)])))])]=some (vi (fenceM (stepsM q t a) many)):=by
 have h1:=zzX q t a hl;obtain⟨l,hle⟩: ∃l,stepsM q t a=l:=⟨_,rfl⟩
 rw[hle]at h1 hn⊢
 (refine den_ofY Γ410 rfl ?_;dsimp only[zBz])
 simp -dsimp -implicitDefEqProofs only[go_sem,seval,ht,ha,h1];refine zaz 34359215360 l.length (fun i f=>(f 10).v=vi i/\ ∀j,j<i-> ∀k,l[j]? =some k->k<many) rfl rfl ⟨by simp -dsimp -implicitDefEqProofs only[go_sem,seval],fun j hj=>by omega⟩ ?_;rintro i f u x bs hi ⟨h10,hf⟩;have hw:=zah i (by omega);simp -dsimp -implicitDefEqProofs only[go_sem,seval,h10]
 by_cases hlt:i<l.length
 ·have hlt1:=eq_true hlt;obtain⟨k,hk,_⟩:=zaf hlt;simp -dsimp -implicitDefEqProofs only[go_sem,seval,h10,hlt1,hk];refine csplit (fun h=> ?_) (fun h=> ?_)<;>(try rw[h])<;>(try simp only[zab]at h)<;>(try simp -dsimp -implicitDefEqProofs only[go_sem,seval,h10])
  ·simp -dsimp -implicitDefEqProofs only[go_sem,seval,h10,hk]
   have:l.find? (fun k=>decide (many<=k))=some k:=by
    rw[List.find?_eq_some_iff_getElem];refine⟨by simpa using h,i,hlt,by rw[zI hlt]at hk;exact Option.some.inj hk,fun j hj=> ?_⟩;have:=hf j hj l[j] (zI (by omega));simp;omega
   simp[fenceM,this]
  ·refine⟨hlt,by simp -dsimp -implicitDefEqProofs only[go_sem,seval,hw],fun j hj k' hk'=> ?_⟩;rcases Nat.lt_or_ge j i with h2 | h2
   ·exact hf j h2 k' hk'
   ·have:j=i:=by omega
    subst this;rw[hk]at hk';cases hk';omega
 ·have hlt1:=eq_false hlt;simp -dsimp -implicitDefEqProofs only[go_sem,seval,h10,hlt1]
  have:l.find? (fun k=>decide (many<=k))=none:=by
   rw[List.find?_eq_none];intro k hk;obtain⟨j,hj⟩:=List.getElem?_of_mem hk;have h2:=(zH.1 hj).1;have:=hf j (by omega) k hj;simp;omega
  simp[fenceM,this]
structure RelC (p:Prog) (B:Nat->Nat->Bool) (c d:Config):Prop where
 mem:d.mem=c.mem
 buf:d.buf=c.buf
 la:c.at_.length=p.threads.length
 lb:d.at_.length=p.threads.length
 at_: ∀(t:Nat) (x:Thread) (a a':Int),p.threads[t]? =some x->c.at_[t]? =some a->d.at_[t]? =some a'->zyy (B t) x.points.toNat a a'
theorem zxH (p:Prog) (hp:p.ok) (l:List Pl) (hl:l.length<2^20) (hpl: ∀x∈l,znZ p x) (c d:Config) (hr:RelC p (ptB p l) c d) (hc:c.sane) (he: ∀b∈c.buf,zxI b):
 Den Γ G 411 [(.agg [.t (.sl ((p).cells.map (Cell.enc))),.t (.sl ((p).modules.map (Contract.enc))),.t (.sl ((p).locks.map (Lock.enc))),.t (.sl ((p).threads.map (Thread.enc)))]),.t (.sl (l.map Pl.enc)),(.agg [.t (ints (c).mem),.t (ints (c).at_),.t (.sl ((c).buf.map (fun b=>[.sl (b.map Entry.enc)])))]),(.agg [.t (ints (d).mem),.t (ints (d).at_),.t (.sl ((d).buf.map (fun b=>[.sl (b.map Entry.enc)])))])]=some (vb true):=by
 obtain⟨⟨_,_,_,b4⟩,_⟩:=limits_iff.1 (ok_iff.1 hp).lim;have k1:(((d.at_.length:Nat):Int)=p.threads.length)=True:=eq_true (by rw[hr.lb]);have k2:(((c.at_.length:Nat):Int)=d.at_.length)=True:=eq_true (by rw[hr.lb,hr.la])
 (refine den_ofY Γ411 rfl ?_;dsimp only[zBy])
 simp -dsimp -implicitDefEqProofs only[go_sem,seval,k1,k2];refine zaj 281474708276736 p.threads.length (fun t f h z=>(f 10).v=vi t/\zxp h z (f 9).v 1 (rowsI (c.at_.take t))) rfl ⟨by simp -dsimp -implicitDefEqProofs only[go_sem,seval],by simp -dsimp -implicitDefEqProofs only[go_sem,seval];exact .inr ⟨_,rfl,by decide,by rw[zac,if_pos rfl];rfl⟩⟩ ?_;rintro t f u H z bs ht ⟨h10,hown⟩;have hw:=zah t (by omega);simp -dsimp -implicitDefEqProofs only[go_sem,seval,h10]
 by_cases hlt:t<p.threads.length
 ·have hlt1:=eq_true hlt;obtain⟨x,hx,hxm⟩:=zaf hlt;have hsp:=zwk p hp l hl hpl hx;obtain⟨a,ha,_⟩:=zaf (show t<c.at_.length by rw[hr.la];exact hlt);obtain⟨a',ha',_⟩:=zaf (show t<d.at_.length by rw[hr.lb];exact hlt);have hpt:=hp.thr hx;have hold:=zAj (ptB p l t) x.points.toNat (by omega) (hr.at_ t x a a' hx ha ha');have v1:=hown.valOf;have v2:=hown.r2;have v3:=hown.r3;have v4:=hown.r4;have hsuc:rowsI (c.at_.take (t+1))=rowsI (c.at_.take t)++[[V.t (ti a)]]:=by rw[zae ha,za6]
  simp -dsimp -implicitDefEqProofs only[go_sem,seval,h10,hlt1,hsp,ha',hold,v1,v2,v3,v4];refine zas (hown.upd (by omega) _) (by omega) (by rw[rowsI_len];simp;omega) (by decide) rfl (rowsI_all _) ?_;intro v hp2 hO hoffs hkeep;have w1:=hO.valOf;rw[<- hsuc]at hO;simp -dsimp -implicitDefEqProofs only[go_sem,seval,w1,h10];exact⟨by omega,by simp -dsimp -implicitDefEqProofs only[go_sem,seval,hw],by simp -dsimp -implicitDefEqProofs only[go_sem,seval];exact hO.le (by omega)⟩
 ·have htl:t=p.threads.length:=by omega
  subst htl;have hlt1:=eq_false hlt;have htk:c.at_.take p.threads.length=c.at_:=List.take_of_length_le (by rw[hr.la];omega);rw[htk]at hown;have hsm:=zAH c c hc he;have hm:=hr.mem;have hb:=hr.buf;obtain⟨cm,ca,cb⟩:=c;simp only at hm hb hown hsm;rcases hown with⟨hv,h0⟩ | ⟨k,hv,hk,hh⟩
  ·have h1:ca=[]:=by simpa[rowsI]using h0
   subst h1;simp -dsimp -implicitDefEqProofs only[go_sem,seval,h10,hlt1,hv,hsm,hm,hb];rw[show(T.sl []:T)=ints []from rfl,hsm];simp -dsimp -implicitDefEqProofs only[go_sem,seval]
  ·have hmp:(rowsI ca).mapM (fun row=>row.mapM (toT H 999))=some (ca.map fun n=>[ti n]):=by
    have:=zkl H 999 (ca.map fun n=>[ti n]);simpa[rowsI,List.map_map,Function.comp_def,T.norm]using this
   have hrl:((rowsI ca).length<=(rowsI ca).length)=True:=eq_true (Nat.le_refl _);simp -dsimp -implicitDefEqProofs only[go_sem,seval,h10,hlt1,hv,hm,hb,hh,hrl,List.take_length,hmp];rw[hsm];simp -dsimp -implicitDefEqProofs only[go_sem,seval]
end Rg
end
section
namespace Rg
open Go
inductive Pth (inner:Step->Bool) (J:Int->Prop) (l:List Step) (i:Nat):Nat->Prop
 | one {j:Nat} {x y:Step} (hx:l[i]? =some x) (hy:l[j]? =some y) (h:x.to=y.fr) (hj:J x.to):Pth inner J l i j
 | snoc {k j:Nat} {x y:Step} (hp:Pth inner J l i k) (hx:l[k]? =some x) (hi:inner x=true) (hy:l[j]? =some y) (h:x.to=y.fr) (hj:J x.to):Pth inner J l i j
theorem Pth.trans {inner:Step->Bool} {J:Int->Prop} {l:List Step} {i k j:Nat} {x:Step} (h1:Pth inner J l i k) (hx:l[k]? =some x) (hi:inner x=true) (h2:Pth inner J l k j):Pth inner J l i j:=by
 induction h2 with
 | one hx' hy h hj=>rw[hx]at hx';cases hx';exact .snoc h1 hx hi hy h hj
 | snoc _ hx' hi' hy h hj ih=>exact .snoc ih hx' hi' hy h hj
theorem Pth.mono {inner:Step->Bool} {J K:Int->Prop} (hJ: ∀f,J f->K f) {l:List Step} {i j:Nat} (h:Pth inner J l i j):Pth inner K l i j:=by
 induction h with
 | one hx hy h hj=>exact .one hx hy h (hJ _ hj)
 | snoc _ hx hi hy h hj ih=>exact .snoc ih hx hi hy h (hJ _ hj)
def rbit (r:List Nat) (i j:Nat):Prop:=(r.getD i 0).testBit j=true
section
variable {inner:Step->Bool} {l:List Step}
end
end Rg
end
section
namespace Rg
open Go
theorem zBn {b:Nat->Bool} {m n:Nat} (h:newB b m=newB b n):m=n:=by
 rcases Nat.lt_trichotomy m n with h1 | rfl | h1
 ·have:=zoF (b:=b) h1;split at this<;>omega
 ·rfl
 ·have:=zoF (b:=b) h1;split at this<;>omega
theorem zAL {b:Nat->Bool} {f g:Nat} (hf:b f=true):newB b f+1≠newB b g:=by
 intro h;rcases Nat.lt_trichotomy f g with h1 | rfl | h1
 ·have:=zoF (b:=b) h1;rw[hf]at this;simp only[if_true]at this;omega
 ·omega
 ·have:=zoF (b:=b) h1;split at this<;>omega
section
variable {x:Thread} {b:Nat->Bool}
theorem zA6 {j:Nat} {y:Step} (h:(x.ins b).steps[j]? =some y):(j<x.steps.length/\ ∃s,x.steps[j]? =some s/\y=s.ins b)\/(x.steps.length<=j/\ ∃f,f<x.points.toNat/\b f=true/\y=fenceS b x f):=by
 have h':(x.steps.map (Step.ins b)++(fencedL b x.points.toNat).map (fenceS b x))[j]? =some y:=h;rw[List.getElem?_append,List.length_map]at h';split at h'
 ·rename_i hj;rw[zJ,zI hj]at h';exact .inl ⟨hj,_,zI hj,by simpa using h'.symm⟩
 ·rename_i hj;rw[zJ,zE]at h';obtain⟨f,hf,rfl⟩:=h';have hm:=List.mem_of_getElem? hf;unfold fencedL at hm;rw[List.mem_filter,List.mem_range]at hm;exact .inr ⟨by omega,f,hm.1,hm.2,rfl⟩
def zBN (x:Thread):Prop:= ∀s∈x.steps,(0<=s.fr/\s.fr<x.points)/\0<=s.to/\s.to<x.points
theorem zBr (b:Nat->Bool) (s:Step):(s.ins b).fr=((newB b s.fr.toNat+(if b s.fr.toNat then 1 else 0):Nat):Int):=by
 unfold Step.ins newI;cases b s.fr.toNat<;>simp
theorem zBq (b:Nat->Bool) (s:Step):(s.ins b).to=((newB b s.to.toNat:Nat):Int):=rfl
theorem zBt (f:Nat):(fenceS b x f).fr=((newB b f:Nat):Int):=rfl
theorem zBs (f:Nat):(fenceS b x f).to=((newB b f+1:Nat):Int):=by simp[fenceS]
variable {inner:Step->Bool} {c:Bool} (hi : ∀ s,inner (s.ins b)=inner s) (hc : ∀ f,inner (fenceS b x f)=c) (hp:zBN x)
include hi hc hp
end
end Rg
end
section
namespace Rg
open Go
structure Gr.Sub2 (a b:Gr):Prop where
 nc:a.nc=b.nc
 nt:a.nt=b.nt
 len:a.msk.length=b.msk.length
 mks: ∀c,zmc (a.mks c) (b.mks c)
 ea: ∀c,zmc (a.eaM c) (b.eaM c)
 la: ∀c,zmc (a.laM c) (b.laM c)
 ll: ∀t,(a.ld.getD t []).length=(b.ld.getD t []).length
 ld: ∀c d i j,a.thr c=a.thr d->(a.mks c).testBit i=true->(a.mks d).testBit j=true->rbit (a.ld.getD (a.thr c) []) i j->rbit (b.ld.getD (a.thr c) []) i j
 qk: ∀c d i j,a.thr c=a.thr d->(a.eaM c).testBit i=true->(a.laM d).testBit j=true->rbit (a.qk.getD (a.thr c) []) i j->rbit (b.qk.getD (a.thr c) []) i j
theorem zAI {same:Bool} {i m m' j:Nat} (h:m.testBit j=true->m'.testBit j=true) (hm:(Gr.rowC same i m).testBit j=true):(Gr.rowC same i m').testBit j=true:=by
 unfold Gr.rowC at hm⊢;cases same
 ·simp only[zG,if_false,Nat.testBit_or,Bool.or_eq_true]at hm⊢;exact hm.imp h id
 ·simp only[if_true,Nat.testBit_and,Nat.testBit_or,zF,Bool.or_eq_true]at hm⊢;exact⟨hm.1.imp h id,hm.2⟩
namespace Gr.Sub2
variable {a b:Gr} (h:a.Sub2 b)
include h
theorem sz:a.sz=b.sz:=by unfold Gr.sz;rw[h.nc,h.nt]
theorem thr (c:Nat):a.thr c=b.thr c:=by unfold Gr.thr;rw[h.sz]
theorem prec (c d:Nat):a.prec c d=b.prec c d:=by unfold Gr.prec;rw[h.nc,h.nt]
theorem ok {c d m:Nat} (hk:a.ok c d m=true):b.ok c d m=true:=by
 simp only[Gr.ok,zF,decide_eq_true_eq]at hk⊢;refine⟨(h.mks d).ne hk.1,?_,?_⟩
 ·rw[<- h.thr];exact hk.2.1
 ·rw[<- h.prec];exact hk.2.2
theorem couple {c d:Nat} (ht:a.thr c=a.thr d) (hk:a.couple c d=true):b.couple c d=true:=by
 unfold Gr.couple at hk⊢;obtain⟨i,j,hi,h1,h2,h3⟩:=zeI.1 hk;refine zeI.2 ⟨i,j,hi,h.mks c i h1,?_,h.mks d j h3⟩;have hl:=h.ll (a.thr c);rw[<- h.thr];rw[List.getD_eq_getElem?_getD,List.getElem?_mapIdx]at h2⊢
 cases hr:(a.ld.getD (a.thr c) [])[i]? with
 | none=>rw[hr]at h2;simp at h2
 | some m=>
   rw[hr]at h2;have hil:i<(b.ld.getD (a.thr c) []).length:=by rw[<- hl];exact(zH.1 hr).1
   rw[zI hil];simp only[Option.map_some,Option.getD_some]at h2⊢;refine zAI (fun hm=> ?_) h2;have:=h.ld c d i j ht h1 h3 (by unfold rbit;rw[List.getD_eq_getElem?_getD,hr];exact hm);unfold rbit at this;rw[List.getD_eq_getElem?_getD,zI hil]at this;exact this
theorem ends: ∀(r goal c m:Nat),a.ends r goal c m=true->b.ends r goal c m=true
 | 0,goal,c,m,hk=>by rw[Gr.ends]at hk⊢;rw[<- h.prec];exact hk
 | 1,goal,c,m,hk=>by
   rw[Gr.ends,List.any_eq_true]at hk⊢;obtain⟨d,h1,h2⟩:=hk;rw[zF]at h2;refine⟨d,by rw[<- h.len];exact h1,?_⟩
   rw[h.ok h2.1,<- h.thr,ends 0 _ _ _ h2.2];rfl
 | r+2,goal,c,m,hk=>by
   rw[Gr.ends,List.any_eq_true]at hk⊢;obtain⟨d,h1,h2⟩:=hk;rw[zF,Bool.or_eq_true,List.any_eq_true]at h2;refine⟨d,by rw[<- h.len];exact h1,?_⟩;rw[h.ok h2.1,<- h.thr,Bool.true_and,Bool.or_eq_true,List.any_eq_true];rcases h2.2 with h3 | ⟨e,h3,h4⟩
   ·exact .inl (ends (r+1) _ _ _ h3)
   ·simp only[zF,decide_eq_true_eq]at h4;exact .inr ⟨e,by rw[<- h.len];exact h3,by rw[<- h.thr,h.couple h4.1.symm h4.2.1,ends r _ _ _ h4.2.2];simp[h4.1]⟩
theorem isPair {c d:Nat} (hk:a.isPair c d=true):b.isPair c d=true:=by
 rw[Gr.isPair_iff]at hk⊢;obtain⟨h1,h2,h3,h4,h5⟩:=hk;refine⟨(h.ea c).ne h1,(h.la d).ne h2,by rw[<- h.thr,<- h.thr];exact h3,h4,?_⟩;obtain⟨i,j,hi,k1,k2,k3⟩:=zeI.1 h5;exact zeI.2 ⟨i,j,hi,h.ea c i k1,by rw[<- h.thr];exact h.qk c d i j h3 k1 k3 k2,h.la d j k3⟩
theorem shortest (hb:b.shortest=none):a.shortest=none:=by
 rw[Gr.shortest_none]at hb⊢;intro r h1 h2;have:=hb r h1 (by rw[<- h.nt];exact h2);cases hr:a.atRest r
 ·rfl
 ·obtain⟨c,d,k1,k2,k3,k4⟩:=Gr.atRest_iff.1 hr;rw[show b.atRest r=true from Gr.atRest_iff.2 ⟨c,d,by rw[<- h.len];exact k1,by rw[<- h.len];exact k2,h.isPair k3,by rw[<- h.thr];exact h.ends _ _ _ _ k4⟩]at this;exact this
end Gr.Sub2
section
variable {p:Prog} {B:Nat->Nat->Bool}
theorem insP_get {t:Nat} {x:Thread} (h:p.threads[t]? =some x):(p.ins B).threads[t]? =some (x.ins (B t)):=by
 show(p.threads.mapIdx fun t x=>x.ins (B t))[t]? =_;rw[List.getElem?_mapIdx,h];rfl
theorem zy1 {t:Nat} {y:Thread} (h:(p.ins B).threads[t]? =some y): ∃x,p.threads[t]? =some x/\y=x.ins (B t):=by
 have h':(p.threads.mapIdx fun t x=>x.ins (B t))[t]? =some y:=h;rw[List.getElem?_mapIdx,zE]at h';obtain⟨x,hx,rfl⟩:=h';exact⟨x,hx,rfl⟩
theorem zxv:(p.ins B).threads.length=p.threads.length:=by
 show(p.threads.mapIdx fun t x=>x.ins (B t)).length=_;simp
end
end Rg
end
section
namespace Rg
open Go
theorem zAg {l:List Int} (h:l.Pairwise (· < ·)):rising l=true:=by
 refine zfq fun j hj=> ?_
 rw[List.pairwise_iff_getElem]at h;have:=h j (j+1) (by omega) hj (by omega);simpa[List.getD_eq_getElem?_getD,zI hj,zI (show j<l.length by omega)]using this
theorem zAU {p:Prog} {B:Nat->Nat->Bool} (i:Nat) (nm:ByteArray):((p.ins B).threads.take i).any (fun d=>d.name.toList==nm.toList)=(p.threads.take i).any (fun d=>d.name.toList==nm.toList):=by
 have h: ∀(l:List Thread) (f:Nat->Thread->Thread),(∀k x,(f k x).name=x.name)->((l.mapIdx f).take i).any (fun d=>d.name.toList==nm.toList)=(l.take i).any (fun d=>d.name.toList==nm.toList):=by
  intro l f hf
  have e:((l.mapIdx f).take i).map (fun d=>d.name.toList)=(l.take i).map (fun d=>d.name.toList):=by
   refine List.ext_getElem? fun j=> ?_
   rw[zJ,zJ,List.getElem?_take,List.getElem?_take];split
   ·rw[List.getElem?_mapIdx]
    cases l[j]? with
    | none=>rfl
    | some y=>simp[hf]
   ·rfl
  have g: ∀m:List Thread,m.any (fun d=>d.name.toList==nm.toList)=(m.map fun d=>d.name.toList).any (fun z=>z==nm.toList):=by intro m;rw[List.any_map];rfl
  rw[g,g,e]
 exact h _ _ fun _ _=>rfl
theorem zz8 {p:Prog} {B:Nat->Nat->Bool} (k:Int):zbS (p.ins B) k=zbS p k:=by
 unfold zbS
 cases h:p.threads[k.toNat]? with
 | none=>
   have:(p.ins B).threads[k.toNat]? =none:=by
    rw[List.getElem?_eq_none_iff]at h⊢;rw[zxv];exact h
   rw[this]
 | some x=>rw[insP_get h];rfl
theorem zAO {p:Prog} {B:Nat->Nat->Bool} (b:Nat->Bool) (t:Int) (s:Step):kindOk (p.ins B) t (s.ins b)=kindOk p t s:=by
 have h1:joinOk (p.ins B) t (s.ins b)=joinOk p t s:=by
  unfold joinOk;rw[zxv];rfl
 unfold kindOk;rw[h1,zz8];rfl
def zzs (p:Prog) (B:Nat->Nat->Bool):Prop:= ∀(t:Nat) (x:Thread) (n:Nat),p.threads[t]? =some x->n<x.points.toNat->B t n=true-> ∃(i:Nat) (s:Step),x.steps[i]? =some s/\s.fr=n
theorem zAW {p:Prog} (hok:p.ok) {B:Nat->Nat->Bool} (hl:zhW B p=false) (hB:zzs p B):(p.ins B).ok:=by
 have R:=ok_iff.1 hok;obtain⟨⟨l1,l2,l3,l4⟩,l5⟩:=limits_iff.1 R.lim
 have hov: ∀{t:Nat} {x:Thread},p.threads[t]? =some x->x.points+cntB (B t) x.points.toNat<=48/\(x.steps.length:Int)+cntB (B t) x.points.toNat<=64:=by
  intro t x hx;have:=(List.any_eq_false.1 hl) (x,t) (List.mem_zipIdx_iff_getElem?.2 hx);simp only[zgW,Bool.or_eq_true,decide_eq_true_eq,not_or]at this;omega
 refine ok_iff.2 ⟨limits_iff.2 ⟨⟨l1,l2,l3,by rw[zxv];exact l4⟩,fun y hy=> ?_⟩,fun i c hc=> ?_,fun i m hm=>R.modules i m hm,fun i l hl=>R.locks i l hl,fun t y hy=> ?_⟩
 ·obtain⟨t,x,hx,rfl⟩:=zlk hy;have h1:=hov hx;have h2:=l5 x (List.mem_of_getElem? hx);refine⟨h1.1,?_,?_⟩
  ·show(x.steps.map (Step.ins (B t))++(fencedL (B t) x.points.toNat).map (fenceS (B t) x)).length<=64;rw[List.length_append,List.length_map,List.length_map,zh7];omega
  ·show(x.loops.map (Loop.ins (B t) x.points.toNat)).length<=8;rw[List.length_map];exact h2.2.2
 ·have:=cellErr_iff.1 (R.cells i c hc);refine cellErr_iff.2 ⟨?_,this.2⟩;have h1:=this.1;unfold zaY at h1⊢;rw[zxv];exact h1
 ·obtain⟨x,hx,rfl⟩:=zy1 hy;obtain⟨r1,r2,r3,r4,r5,r6,r7⟩:=threadErr_iff.1 (R.threads t x hx);obtain⟨k1,k2,k3,k4,k5⟩:=ziN hok hx;obtain⟨N,hN⟩: ∃N:Nat,x.points.toNat=N:=⟨_,rfl⟩
  have hPN:x.points=(N:Int):=by omega
  have hpt:(x.ins (B t)).points=((newB (B t) N:Nat):Int):=by
   show x.points+cntB (B t) x.points.toNat=_;unfold newB;rw[hN];omega
  have hlast:newB (B t) (N-1)+1<=newB (B t) N:=by have:=zoF (b:=B t) (show N-1<N by omega);split at this<;>omega
  have hov': ∀e sh,overOk (p.ins B) e sh t=overOk p e sh t:=fun _ _=>rfl
  refine threadErr_iff.2 ⟨r1,by rw[zAU];exact r2,⟨by rw[hpt];unfold newB;omega,?_,?_⟩,?_,?_,fun j s hs=> ?_,fun j l hl=> ?_⟩
  ·rw[hpt];show((dupL (B t) x.asserts).length:Int)=_;rw[ze3,k1,hN]
  ·rw[hpt];show((dupL (B t) x.modules).length:Int)=_;rw[ze3,k2,hN]
  ·rw[List.all_eq_true]at r4⊢;exact fun m hm=>r4 m (dupL_mem.1 hm)
  ·rw[List.all_eq_true]at r5⊢;exact fun e he=>r5 e (dupL_mem.1 he)
  ·rcases zA6 hs with⟨_,s0,hs0,rfl⟩ | ⟨_,f,hf,hb,rfl⟩
   ·obtain⟨q1,q2,q3,q4⟩:=stepErr_iff.1 (r6 j s0 hs0);obtain⟨⟨a1,a2⟩,⟨a3,a4⟩,a5⟩:=ok_stp hok hx hs0;refine stepErr_iff.2 ⟨?_,q2,q3,?_⟩
    ·have e1:inR (s0.ins (B t)).fr ((x.ins (B t)).points-1)=true:=by
      rw[hpt,zBr];have h1:=zoF (b:=B t) (show s0.fr.toNat<N-1 by omega);unfold inR;exact decide_eq_true (by split at h1<;>split<;>simp_all<;>omega)
     have e2:inR (s0.ins (B t)).to (x.ins (B t)).points=true:=by
      rw[hpt,zBq];have h1:=zoF (b:=B t) (show s0.to.toNat<N by omega);unfold inR;exact decide_eq_true (by split at h1<;>omega)
     unfold zbl at q1⊢;rw[e1,e2];simp only[Bool.or_eq_false_iff]at q1⊢;exact⟨⟨⟨⟨⟨q1.1.1.1.1.1,rfl⟩,rfl⟩,q1.1.1.2⟩,q1.1.2⟩,q1.2⟩
    ·rw[zAO];exact q4
   ·obtain⟨i0,s0,hs0,hfr⟩:=hB t x f hx (by omega) hb;obtain⟨j0,s1,hj1,hj2,hj3⟩:=zlp hs0 hfr;obtain⟨⟨a1,a2⟩,_,_⟩:=ok_stp hok hx hs0;have hmod:=(ok_stp hok hx hj2).2.2;have h1:=zoF (b:=B t) (show f<N-1 by omega);rw[hb]at h1;simp only[if_true]at h1;have htr:=zAi p false t;unfold truthOk at htr;rw[zF,zF]at htr;refine stepErr_iff.2 ⟨?_,⟨htr.1.1,rfl⟩,fun j a h=>by simp[fenceS]at h,rfl⟩
    have e1:inR (fenceS (B t) x f).fr ((x.ins (B t)).points-1)=true:=by
     rw[hpt,zBt];unfold inR;exact decide_eq_true (by omega)
    have e2:inR (fenceS (B t) x f).to (x.ins (B t)).points=true:=by
     rw[hpt,zBs];unfold inR;exact decide_eq_true (by omega)
    have e3:inR (fenceS (B t) x f).module (p.ins B).modules.length=true:=by
     show inR (firstS x f).module p.modules.length=true;rw[show firstS x f=s1 from hj3.symm];exact hmod
    unfold zbl;rw[e1,e2,e3];rfl
  ·have hl':(x.loops.map (Loop.ins (B t) x.points.toNat))[j]? =some l:=hl;rw[zJ,zE]at hl';obtain⟨l0,hl0,rfl⟩:=hl';obtain⟨⟨q1,q2,q3⟩,q4,q5⟩:=loopErr_iff.1 (r7 j l0 hl0);obtain⟨⟨a1,a2⟩,a3,a4⟩:=ok_loop hok hx hl0;obtain⟨kh,hkh⟩:=Int.eq_ofNat_of_zero_le a1;rw[hN];have hhd:(l0.ins (B t) N).head=((newB (B t) kh:Nat):Int):=by show newI (B t) l0.head=_;unfold newI;rw[hkh];rfl
   refine loopErr_iff.2 ⟨⟨?_,zAg (loopBN_pair _ _ _),?_⟩,q4,q5⟩
   ·rw[hhd,hpt];have h1:=zoF (b:=B t) (show kh<N by omega);unfold inR;exact decide_eq_true (by split at h1<;>omega)
   ·rw[List.all_eq_true];intro z hz;obtain⟨k,hk,hz'⟩:=zfC.1 (show z∈loopBN (B t) l0 N from hz);have h1:=zoF (b:=B t) hk;rw[hhd,hpt];rw[zF,decide_eq_true_eq];rcases hz' with⟨h2,rfl⟩ | ⟨h2,h3,rfl⟩
    ·refine⟨?_,fun he=> ?_⟩
     ·unfold inR;exact decide_eq_true (by split at h1<;>omega)
     ·have e1:=zBn (Int.ofNat.inj he);exact(a4 _ h2).2 (by rw[hkh,e1])
    ·rw[h2]at h1;simp only[if_true]at h1;refine⟨?_,fun he=> ?_⟩
     ·unfold inR;exact decide_eq_true (by omega)
     ·exact zAL (g:=kh) h2 (by omega)
def allT (t:Nat) (x:Thread):List Pl:=(List.range x.steps.length).map fun i=>(t,i)
def allN (p:Prog) (k:Nat):List Pl:=(p.threads.take k).zipIdx.flatMap fun q=>allT q.2 q.1
def allM (p:Prog):List Pl:=allN p p.threads.length
theorem zwr {p:Prog} {k:Nat} {x:Thread} (h:p.threads[k]? =some x):allN p (k+1)=allN p k++allT k x:=by
 have hn:=(zH.1 h).1;unfold allN;rw[zae h,List.zipIdx_append,List.flatMap_append]
 congr 1
 have:(p.threads.take k).length=k:=by simp;omega
 simp[this]
theorem zwV {p:Prog} {x:Pl} (h:x∈allM p):znZ p x:=by
 unfold allM allN at h;rw[List.take_length,List.mem_flatMap]at h;obtain⟨q,hq,hx⟩:=h;rw[List.mem_zipIdx_iff_getElem?]at hq;simp only[allT,List.mem_map,List.mem_range]at hx;obtain⟨i,hi,rfl⟩:=hx;exact⟨q.1,hq,hi⟩
theorem zwv (t:Nat) (x:Thread):(allT t x).length=x.steps.length:=by simp[allT]
theorem zwo {p:Prog} (h: ∀x∈p.threads,x.steps.length<=64): ∀k,k<=p.threads.length->(allN p k).length<=64*k
 | 0,_=>by simp[allN]
 | k+1,hk=>by
   obtain⟨x,hx,hxm⟩:=zaf (show k<p.threads.length by omega);have h1:=zwo h k (by omega);have h3:=h x hxm;rw[zwr hx,List.length_append,zwv];omega
def placesM (p:Prog) (ks:List Int):List Pl:=if allM p=[]then []else ks.map fun k=>(allM p).getD (k.toNat % (allM p).length) (0,0)
theorem zwE {p:Prog} {ks:List Int}: ∀x∈placesM p ks,znZ p x:=by
 intro x hx;unfold placesM at hx;split at hx
 ·simp at hx
 ·rename_i hne;obtain⟨k,_,rfl⟩:=List.mem_map.1 hx;have hl:0<(allM p).length:=List.length_pos_iff.2 hne;have:=Nat.mod_lt k.toNat hl;rw[List.getD_eq_getElem?_getD,zI this];exact zwV (List.getElem_mem _)
theorem places_len (p:Prog) (ks:List Int):(placesM p ks).length<=ks.length:=by
 unfold placesM;split<;>simp
set_option maxHeartbeats 2000000
theorem zwB (p:Prog) (hp:p.ok) (ks:List Int) (hk: ∀k∈ks,0<=k/\k<256) (hkl:ks.length<2^20):Den Γ G 406 [(.agg [.t (.sl ((p).cells.map (Cell.enc))),.t (.sl ((p).modules.map (Contract.enc))),.t (.sl ((p).locks.map (Lock.enc))),.t (.sl ((p).threads.map (Thread.enc)))]),.t (bytesT ks)]=some (.t (.sl ((placesM p ks).map Pl.enc))):=by
 obtain⟨⟨b1,b2,b3,b4⟩,b5⟩:=limits_iff.1 (ok_iff.1 hp).lim
 (refine den_ofY Γ406 rfl ?_;dsimp only[zw4])
 simp -dsimp -implicitDefEqProofs only[go_sem,seval];refine zaj 17179868384 p.threads.length (fun t f h z=>(f 6).v=vi t/\zxp h z (f 5).v 2 (rwG Pl.enc (allN p t))) rfl ⟨by simp -dsimp -implicitDefEqProofs only[go_sem,seval],.inl ⟨by simp -dsimp -implicitDefEqProofs only[go_sem,seval],rfl⟩⟩ ?_;rintro t f u H q bq ht ⟨h6,hO⟩;have hw:=zah t (by omega);simp -dsimp -implicitDefEqProofs only[go_sem,seval,h6]
 by_cases hlt:t<p.threads.length
 ·have hlt1:=eq_true hlt;obtain⟨x,hx,hxm⟩:=zaf hlt;have hsl:=(b5 x hxm).2.1;have hcn:=zwo (fun x hx=>(b5 x hx).2.1) t (by omega);simp -dsimp -implicitDefEqProofs only[go_sem,seval,h6,hlt1,hx]
  refine zaj 17179738272 x.steps.length (fun i f h z=>(f 7).v=vi i/\zxp h z (f 5).v 2 (rwG Pl.enc (allN p t++(allT t x).take i))) rfl
   ⟨by simp -dsimp -implicitDefEqProofs only[go_sem,seval],by simp -dsimp -implicitDefEqProofs only[go_sem,seval];exact hO.le (by omega)⟩ ?_
  rintro i f2 u2 H2 q2 bq2 hi ⟨h7,hO2⟩;have hwi:=zah i (by omega);simp -dsimp -implicitDefEqProofs only[go_sem,seval,h7,h6,hx]
  by_cases hil:i<x.steps.length
  ·have hil1:=eq_true hil;have hat:(allT t x)[i]? =some (t,i):=by unfold allT;rw[zJ,List.getElem?_range hil];rfl
   have hsuc:=zae hat;replace hO2:=hO2.le (y:=q2+9) (by omega);have v1:=hO2.valOf;have v2:=hO2.r1;simp -dsimp -implicitDefEqProofs only[go_sem,seval,h7,h6,hil1,v1,v2];have hlt2:((allT t x).take i).length<=i:=by simp;omega
   refine zas ((hO2.le (y:=q2+9+4) (by omega)).upd (Nat.le_refl _) _) (by omega) (by rw[zbm,List.length_append];omega) (by decide) rfl (rwG_all _ pl_elen _) ?_;intro v hp' hO3 hoffs hkeep;have w1:=hO3.valOf
   replace hO3:=zdQ hO3 (show _=rwG Pl.enc (allN p t++(allT t x).take (i+1))by
    rw[hsuc,<- List.append_assoc,zcf];rfl)
   simp -dsimp -implicitDefEqProofs only[go_sem,seval,h7,w1];refine⟨hil,by simp -dsimp -implicitDefEqProofs only[go_sem,seval,hwi],?_⟩;simp -dsimp -implicitDefEqProofs only[go_sem,seval];exact hO3.le (by omega)
  ·have hil2:i=x.steps.length:=by omega
   have hil1:=eq_false hil;rw[hil2,List.take_of_length_le (by rw[zwv];exact Nat.le_refl _),<- zwr hx]at hO2;simp -dsimp -implicitDefEqProofs only[go_sem,seval,h7,hil1,h6];refine⟨hlt,by simp -dsimp -implicitDefEqProofs only[go_sem,seval,hw],?_⟩;simp -dsimp -implicitDefEqProofs only[go_sem,seval];exact hO2.le (by omega)
 have ht2:t=p.threads.length:=by omega
 have hlt1:=eq_false hlt;have hal:=zwo (fun x hx=>(b5 x hx).2.1) p.threads.length (Nat.le_refl _);rw[ht2]at hO;simp -dsimp -implicitDefEqProofs only[go_sem,seval,h6,hlt1]
 by_cases hne:allM p=[]
 ·rw[show placesM p ks=[]by unfold placesM;rw[if_pos hne]];have hlen:=hO.lenS;rw[zbm,show allN p p.threads.length=allM p from rfl,hne]at hlen;have v1:=hO.valOf;refine zaj 576460735123555072 0 (fun i f h z=>(f 9).v=vi i/\(f 8).v=zn/\h=H) rfl ⟨by simp -dsimp -implicitDefEqProofs only[go_sem,seval],by simp -dsimp -implicitDefEqProofs only[go_sem,seval],by simp -dsimp -implicitDefEqProofs only[go_sem,seval]⟩ ?_;rintro i f2 u2 H2 q2 bq2 hi ⟨h9,h8,rfl⟩;obtain rfl:i=0:=by omega
  simp -dsimp -implicitDefEqProofs only[go_sem,seval,h9]
  by_cases hk0:0<ks.length
  ·have hk1:((0:Int)<(ks.length:Int))=True:=eq_true (by omega);simp -dsimp -implicitDefEqProofs only[go_sem,seval,hk0,hk1,hlen,v1,h8]
  ·have hk1:((0:Int)<(ks.length:Int))=False:=eq_false (by omega);simp -dsimp -implicitDefEqProofs only[go_sem,seval,hk0,hk1,h8]
 ·have hnl:0<(allM p).length:=List.length_pos_iff.2 hne;have hal2:(allM p).length<=256:=by rw[show allM p=allN p p.threads.length from rfl];omega
  rcases hO with⟨_,he⟩ | ⟨k0,hv5,hk0,hh0⟩
  ·exact absurd (by have h1:=congrArg List.length he;rw[zbm]at h1;exact List.length_eq_zero_iff.1 h1) hne
  ·have hpm:placesM p ks=ks.map fun k=>(allM p).getD (k.toNat % (allM p).length) (0,0):=by unfold placesM;rw[if_neg hne]
   rw[hpm];obtain⟨R,hR⟩: ∃R,R=rwG Pl.enc (allM p):=⟨_,rfl⟩
   have hrl:R.length=(allM p).length:=by rw[hR];exact zbm _ _
   rw[show rwG Pl.enc (allN p p.threads.length)=R from hR.symm]at hv5 hh0;rw[hrl]at hv5
   refine zaj 576460735123555072 ks.length (fun i f h z=>(f 9).v=vi i/\q<=z/\(∀j,j<q->h j=H j)/\zdJ h q z (f 8).v 2 (rwG Pl.enc ((ks.take i).map fun k=>(allM p).getD (k.toNat % (allM p).length) (0,0)))) rfl
    ⟨by simp -dsimp -implicitDefEqProofs only[go_sem,seval],by simp -dsimp -implicitDefEqProofs only[go_sem,seval];omega,fun j _=>by simp -dsimp -implicitDefEqProofs only[go_sem,seval],by simp -dsimp -implicitDefEqProofs only[go_sem,seval];exact zcV⟩ ?_
   rintro i f2 u2 H2 q2 bq2 hi ⟨h9,hq,hlow,hZ⟩;have hwi:=zah i (by omega);have hh2:=(hlow k0 (by omega)).trans hh0;simp -dsimp -implicitDefEqProofs only[go_sem,seval,h9]
   by_cases hik:i<ks.length
   ·have hik1:=eq_true hik;obtain⟨k,hk',hkm⟩:=zaf hik;obtain⟨c0,c1⟩:=hk k hkm;have hwk:IntKind.i64.wrap k=k:=zan (by omega);have hgt:(((allM p).length:Int)>0)=True:=eq_true (by omega)
    have hmod:k.tmod ((allM p).length:Int)=((k.toNat % (allM p).length:Nat):Int):=by
     obtain⟨kn,rfl⟩:=Int.eq_ofNat_of_zero_le c0;rw[Int.toNat_natCast];rfl
    have hml:=Nat.mod_lt k.toNat hnl;obtain⟨j,hj⟩: ∃j,j=k.toNat % (allM p).length:=⟨_,rfl⟩
    rw[<- hj]at hmod hml;have hml1:=eq_true hml;have hne0: ¬((allM p).length:Int)=0:=by omega
    obtain⟨z,hz⟩: ∃z,z=(allM p).getD j (0,0):=⟨_,rfl⟩
    have hget:R[j]? =some [V.t (ti z.1),V.t (ti z.2)]:=by
     rw[hR,hz,List.getD_eq_getElem?_getD];unfold rwG;rw[zJ,zJ,zI hml];rfl
    have hsuc:(ks.take (i+1)).map (fun k=>(allM p).getD (k.toNat % (allM p).length) (0,0))=(ks.take i).map (fun k=>(allM p).getD (k.toNat % (allM p).length) (0,0))++[z]:=by
     rw[zae hk',List.map_append,hz,hj];rfl
    replace hZ:=hZ.le (y:=q2+9) (by omega);have v1:=hZ.1.valOf;have v2:=hZ.1.r1;simp -dsimp -implicitDefEqProofs only[go_sem,seval,h9,hik1,hv5,hh2,hgt,hk',hwk,hrl,hmod,hml1,hget,hne0,v1,v2];refine zbt (hZ.upd (by omega) _) (by omega) (by omega) (by rw[zbm];simp;omega) (by decide) rfl (rwG_all _ pl_elen _) ?_;intro v hp' H4 e1 hZ2 hlow3;rw[za9,e1];clear e1;replace hZ2:=hZ2.eq (show _=rwG Pl.enc ((ks.take (i+1)).map fun k=>(allM p).getD (k.toNat % (allM p).length) (0,0))by rw[hsuc,zcf];rfl);have w1:=hZ2.1.valOf;simp -dsimp -implicitDefEqProofs only[go_sem,seval,h9,w1];refine⟨hik,by simp -dsimp -implicitDefEqProofs only[go_sem,seval,hwi],by simp -dsimp -implicitDefEqProofs only[go_sem,seval];omega,fun j hj=> ?_,?_⟩
    ·simp -dsimp -implicitDefEqProofs only[go_sem,seval];rw[hlow3 j hj,zac,if_neg (by omega)];exact hlow j hj
    ·simp -dsimp -implicitDefEqProofs only[go_sem,seval];exact hZ2.le (by omega)
   ·have hil:i=ks.length:=by omega
    subst hil;have hik1:=eq_false hik;rw[List.take_length]at hZ;have t0:=hZ.1.reify (rwG_norm _ pl_norm _);have t1:=hZ.1.valOf;have t2:=hZ.1.resVal;simp only[Rg.resVal]at t2;simp -dsimp -implicitDefEqProofs only[go_sem,seval,h9,hik1,t1,t2];exact t0
end Rg
end
section
-- APPS
set_option maxRecDepth 100000
namespace Rg
open Go
def e31:Expr:=.mk 1 1 1 []
def zs1 (n:UInt8) (t:Int):Thread:=⟨bs [n],3,[e31,e31,e31],[0,0,0],[⟨3,0,1,e31,[⟨t,e31⟩],false,0,0⟩,⟨2,1,2,e31,[⟨2+t,.mk 2 1 (1-t) []⟩],false,0,0⟩],[],false⟩
def exH:Prog:=
 ⟨[⟨bs [77,46,120],1,0,-1,false,0⟩,⟨bs [77,46,121],1,0,-1,false,0⟩,⟨bs [97,46,114],1,0,0,false,0⟩,⟨bs [98,46,114],1,0,1,false,0⟩],[⟨bs [77],bs [111],.mk 0 0 0 [],e31,[0,1]⟩],[],
  [zs1 97 0,zs1 98 1]⟩
set_option maxHeartbeats 4000000
theorem zwn:Den Γ G 412 []=some (.agg [.t (.sl ((exH).cells.map (Cell.enc))),.t (.sl ((exH).modules.map (Contract.enc))),.t (.sl ((exH).locks.map (Lock.enc))),.t (.sl ((exH).threads.map (Thread.enc)))]):=by
 have c1:=zlT 1 1;have c2:=zwu 1 1;have c3:=zwu 0 1
 (refine den_ofY Γ412 rfl ?_;dsimp only[zsY])
 simp -dsimp -implicitDefEqProofs only[go_sem,seval,appS,c1];refine zbg ?_;simp -dsimp -implicitDefEqProofs only[go_sem,seval,appS,c2,Expr.op,Expr.w,Expr.n,Expr.kids];refine zbg ?_;simp -dsimp -implicitDefEqProofs only[go_sem,seval,appS,c3,Expr.op,Expr.w,Expr.n,Expr.kids];refine zbg ?_;simp -dsimp -implicitDefEqProofs only[go_sem,seval,appS];exact⟨rfl,rfl,rfl,rfl⟩
theorem zww:Den Γ G 413 [.t (.sl [[ti 0,ti 1],[ti 1,ti 1]]),.t (.sl [[ti 0,ti 1],[ti 1,ti 1]])]=some (vb true):=by
 (refine den_ofY Γ413 rfl ?_;dsimp only[zsX])
 simp -dsimp -implicitDefEqProofs only[go_sem,seval,appS];refine zbg ?_;simp -dsimp -implicitDefEqProofs only[go_sem,seval,appS,bne_self_eq_false];refine zbg ?_;simp -dsimp -implicitDefEqProofs only[go_sem,seval,appS,bne_self_eq_false];refine zbg ?_;simp -dsimp -implicitDefEqProofs only[go_sem,seval,appS]
theorem zs2:validB exH=true:=by decide+kernel
theorem exHS:exH.sane:=⟨by decide,by decide,by decide,by decide,by decide+kernel,by decide+kernel,by decide+kernel,by decide+kernel,by decide+kernel⟩
theorem zs4:exH.smE:=⟨by decide+kernel,by decide+kernel,by decide+kernel⟩
theorem exHK:exH.ok:=by have:=zs2;simpa[validB]using this
def zw7:Step:=⟨3,0,1,e31,[⟨0,e31⟩],false,0,0⟩
def zw6:Step:=⟨2,2,3,e31,[⟨2,.mk 2 1 1 []⟩],false,0,0⟩
def zwT:Step:=⟨5,1,2,e31,[],false,0,0⟩
def exX:Thread:=⟨bs [97],4,[e31,e31,e31,e31],[0,0,0,0],[zw7,zw6,zwT],[],false⟩
def exI:Prog:={ exH with threads:=[exX,zs1 98 1] }
set_option maxHeartbeats 4000000
end Rg
end
