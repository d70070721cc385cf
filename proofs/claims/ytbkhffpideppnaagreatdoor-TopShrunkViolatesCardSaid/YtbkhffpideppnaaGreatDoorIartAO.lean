/- Part of the proof of laws of relyguardtop. No condition. -/
import Derived.Test.YtbkhffpideppnaaGreatDoorIartAN
import Derived.Test.YtbkhffpideppnaaGreatDoorIartAK
import Derived.Test.YtbkhffpideppnaaGreatDoorIartAL
set_option linter.unusedSimpArgs false
set_option linter.unusedVariables false
section
namespace Rg
open Go
theorem zh3 {p:Prog} {c:Config} {t:Nat} {x:Thread} {n:Nat} {y:Choice}:y∈zcK p c t x n<-> ∃i s,i<n/\x.steps[i]? =some s/\zb8 p c t s=true/\y=⟨t,i,0⟩:=by
 unfold zcK;rw[List.mem_filterMap];constructor
 ·rintro⟨⟨s,i⟩,hm,h⟩;rw[List.mem_zipIdx_iff_getElem?]at hm;simp only at hm;rw[zO]at hm;split at hm
  ·rename_i hi;split at h
   ·rename_i he;simp only[zA]at h;exact⟨i,s,hi,hm,he,h.symm⟩
   ·simp at h
  ·simp at hm
 ·rintro⟨i,s,hi,hs,he,rfl⟩;refine⟨(s,i),?_,by simp[he]⟩;rw[List.mem_zipIdx_iff_getElem?];simp only;rw[zO,if_pos hi];exact hs
theorem zgH {p:Prog} {c:Config} {y:Choice}:y∈zbt p c<-> ∃(t:Nat) (x:Thread) (i:Nat) (s:Step),p.threads[t]? =some x/\x.steps[i]? =some s/\zb8 p c t s=true/\y=⟨t,i,0⟩:=by
 unfold zbt zcu;rw[List.mem_flatMap];constructor
 ·rintro⟨⟨x,t⟩,hm,h⟩;rw[List.mem_zipIdx_iff_getElem?,List.take_length]at hm;obtain⟨i,s,_,hs,he,rfl⟩:=zh3.1 h;exact⟨t,x,i,s,hm,hs,he,rfl⟩
 ·rintro⟨t,x,i,s,hx,hs,he,rfl⟩;refine⟨(x,t),?_,zh3.2 ⟨i,s,(zH.1 hs).1,hs,he,rfl⟩⟩;rw[List.mem_zipIdx_iff_getElem?,List.take_length];exact hx
def zgb (p:Prog) (c:Config) (t:Nat) (s:Step):Config:=
 ⟨zaG c.mem c.mem s.set,if s.kind=6 then(c.at_.set t s.to).set s.target.toNat 0 else c.at_.set t s.to,p.threads.map fun _=>[]⟩
def zgf (p:Prog) (x:Choice):Option Step:=(p.threads[x.thread.toNat]?).bind fun t=>t.steps[x.step.toNat]?
def zd9:Config:=⟨[],[],[]⟩
def zsS (p:Prog) (c:Config) (x:Choice):Config:=match zgf p x with
 | some s=>zgb p c x.thread.toNat s
 | none=>zd9
def zi0 (p:Prog) (c:Config) (x:Choice):Config×Int:=
 if zak p&&isM p c then(if zwZ (zbt p c) x then(zsS p c x,0)else(zd9,110))else(zd9,1)
theorem zpr (l:List Choice) (x:Choice):zwZ l x=true<->x∈l:=by
 unfold zwZ;rw[List.any_eq_true];constructor
 ·rintro⟨y,hy,h⟩;simp at h;exact h▸hy
 ·intro h;exact⟨x,h,by simp⟩
theorem za5 {α:Type} {l:List α} {n:Nat} (h:n=l.length):l.take n=l:=List.take_of_length_le (by omega)
theorem zs0 {α:Type} {l:List α} {n:Nat} (h:n=l.length):l.drop n=[]:=List.drop_of_length_le (by omega)
theorem zm7 (p:Prog) (hf:zak p=true) (c:Config) (hc:isM p c=true) (t:Nat) (x:Thread) (hx:p.threads[t]? =some x) (i:Nat) (s:Step) (hs:x.steps[i]? =some s) (y:Choice) (hy:y=⟨t,i,0⟩) (E8:s.set.length<2^48):
 Den Γ G 45 [(zP p),(.agg [.t (ints (c).mem),.t (ints (c).at_),.t (.sl ((c).buf.map (fun b=>[.sl (b.map Entry.enc)])))]),(.agg [.t (ti (y).thread),.t (ti (y).step),.t (ti (y).cell)])]=some (.agg [.t (ints (zgb p c t s).mem),.t (ints (zgb p c t s).at_),.t (.sl ((zgb p c t s).buf.map (fun b=>[.sl (b.map Entry.enc)])))]):=by
 subst hy;obtain⟨l1,l2,l3⟩:=zvS hc;obtain⟨⟨m1,m2,m3,m4⟩,_⟩:=zal (zam hf).1;have Bm:=zb7 hf hx hs;have Dd:t<p.threads.length:=(zH.1 hx).1;have e1:(c.mem.length:Int)<=4294967296:=by omega
 have e2:(c.at_.length:Int)<=4294967296:=by omega
 have e3:(c.buf.length:Int)<=4294967296:=by omega
 (refine zag Γ45 rfl ?_;dsimp only[f45])
 have r1:=zaQ c.mem;have r2:=zaQ c.at_;have r3:List.take c.mem.length (zae c.mem)=zae c.mem:=za5 (zab _).symm;have r4:List.take c.at_.length (zae c.at_)=zae c.at_:=za5 (zab _).symm;have r5: ∀(n:Nat) (v:List V),List.drop n (List.replicate n v)=[]:=fun n v=>zs0 (by simp)
 have BI: ∀a∈s.set,0<=a.cell/\a.cell<c.mem.length:=fun a ha=>by
  have:=(Bm.rng.2 a ha).1;simp only[inR,decide_eq_true_eq]at this;omega
 simp -dsimp only[go_sem,seval,e1,e2,e3,Int.le_refl,zlh,r1,r2,r3,r4,r5,zab,List.length_replicate,Nat.le_refl,List.append_nil,Nat.min_self,hx,hs]
 refine zaq 36893206672442393600 s.set.length (fun j f h z=>(f 48).v=vi j/\h 7=some (.rows 1 (zae (zaG c.mem c.mem (s.set.take j))) false)/\h 11=some (.rows 1 (zae c.at_) false)/\h 15=some (.rows 1 (List.replicate c.buf.length [.t .nils]) false)) rfl
  ⟨by simp -dsimp only[go_sem,seval],by simp -dsimp only[go_sem,seval];rfl,by simp -dsimp only[go_sem,seval],by simp -dsimp only[go_sem,seval]⟩ ?_
 rintro j f u H z bs hj ⟨OJ,g7,g11,g15⟩;have hw:=zan j (by omega);simp -dsimp only[go_sem,seval,OJ];refine zac (fun h=> ?_) (fun h=> ?_)<;>(try rw[h])<;>(try simp only[zah]at h)<;>(try simp -dsimp only[go_sem,seval,OJ])
 ·obtain⟨a,ha,Cp⟩:=zai ‹j<s.set.length›;obtain⟨c0,c1⟩:=BI a Cp;have Ak:=zd4 a.to c.mem c.mem;have Ac:(zaG c.mem c.mem (s.set.take j)).length=c.mem.length:=zbL c.mem _ c.mem;have B5:=zbn (l:=zaG c.mem c.mem (s.set.take j)) (i:=a.cell.toNat) (by omega);have AE:=zaI (zaG c.mem c.mem (s.set.take j)) a.cell.toNat (a.to.eval c.mem c.mem);rw[<- zhi ha]at AE;simp -dsimp only[go_sem,seval,OJ,ha,Ak,c0,c1,g7,B5];refine⟨by omega,by simp -dsimp only[go_sem,seval,hw],by simp -dsimp only[go_sem,seval,AE],by simp -dsimp only[go_sem,seval,g11],by simp -dsimp only[go_sem,seval,g15]⟩
 ·have:j=s.set.length:=by omega
  subst this;rw[List.take_length]at g7;have B5:=zbn (l:=c.at_) (i:=t) (by omega);have AE:=zaI c.at_ t s.to;have Ad:(t:Int)<(c.at_.length:Int):=by omega
  have t0:(0:Int)<=(t:Int):=by omega
  have N7:t<c.at_.length:=by omega
  have Cx:List.take p.threads.length (List.replicate p.threads.length [V.t T.nils])=List.replicate p.threads.length [V.t T.nils]:=za5 (by simp);have BM:c.buf.length=p.threads.length:=l3;have H9:=fun h=>zg0 h p.threads.length
  have EG:List.take c.mem.length (zae (zaG c.mem c.mem s.set))=zae (zaG c.mem c.mem s.set):=za5 (by rw[zab,zbL]);have Mu:(zae (zaG c.mem c.mem s.set)).length=c.mem.length:=by rw[zab,zbL]
  simp -dsimp only[go_sem,seval,g11,B5,Ad,N7,AE,zab,List.length_set]
  by_cases hk:s.kind=6
  ·obtain⟨hr,_⟩:=Bm.tgt (.inl hk);simp only[inR,decide_eq_true_eq]at hr;have q1:s.target<(c.at_.length:Int):=by omega
   have q2:=hr.1;have GQ:=zbn (l:=c.at_.set t s.to) (i:=s.target.toNat) (by simp;omega);have Gs:=zaI (c.at_.set t s.to) s.target.toNat 0;have HA:List.take c.at_.length (zae ((c.at_.set t s.to).set s.target.toNat 0))=zae ((c.at_.set t s.to).set s.target.toNat 0):=za5 (by rw[zab];simp);simp -dsimp only[go_sem,seval,hk,q1,q2,GQ,Gs,g7,g15,Cx,H9,EG,Mu,HA,zab,List.length_set,List.length_replicate,Nat.le_refl,zbw,BM];simp[zgb,hk,zdK]
  ·have HA:List.take c.at_.length (zae (c.at_.set t s.to))=zae (c.at_.set t s.to):=za5 (by rw[zab];simp);simp -dsimp only[go_sem,seval,hk,g7,g15,Cx,H9,EG,Mu,HA,zab,List.length_set,List.length_replicate,Nat.le_refl,zbw,BM];simp[zgb,hk,zdK]
theorem zsa (p:Prog) (hs:p.sane) (c:Config) (AL:c.sane) (x:Choice):Den Γ G 18 [(zP p),(.agg [.t (ints (c).mem),.t (ints (c).at_),.t (.sl ((c).buf.map (fun b=>[.sl (b.map Entry.enc)])))]),(.agg [.t (ti (x).thread),.t (ti (x).step),.t (ti (x).cell)])]=some (.tup [(.agg [.t (ints ((zi0 p c x).1).mem),.t (ints ((zi0 p c x).1).at_),.t (.sl (((zi0 p c x).1).buf.map (fun b=>[.sl (b.map Entry.enc)])))]),vi (zi0 p c x).2]):=by
 (refine zag Γ18 rfl ?_;dsimp only[f18])
 have h1:=zdC p hs;simp -dsimp only[go_sem,seval,h1];cases hf:zak p
 ·simp -dsimp only[go_sem,seval];simp[zi0,hf,zd9]
 ·have h2:=zm0 p hf c AL;simp -dsimp only[go_sem,seval,h2];cases hc:isM p c
  ·simp -dsimp only[go_sem,seval];simp[zi0,hf,hc,zd9]
  ·have h3:=zh5 p hf c hc
   have Ac:(zbt p c).length<2^40:=by
    have:=zem hf c p.threads.length;have:=(zal (zam hf).1).1;unfold zbt;omega
   have hN:zi0 p c x=if zwZ (zbt p c) x then(zsS p c x,0)else(zd9,110):=by simp[zi0,hf,hc]
   simp -dsimp only[go_sem,seval,h3];refine zaT 68702700224 (zbt p c).length (fun i f=>(f 24).v=vi i/\(f 6).v= .lb/\(f 6).box=some [.t .nils,.t .nils,.t .nils]/\zwZ (zbt p c) x=((zbt p c).drop i).any fun y=>decide (y=x)) rfl rfl ⟨by simp -dsimp only[go_sem,seval],by simp -dsimp only[go_sem,seval],by simp -dsimp only[go_sem,seval],rfl⟩ ?_;rintro i f u kk bb hi ⟨IL,b1,b2,A9⟩;have hw:=zan i (by omega);simp -dsimp only[go_sem,seval,IL];refine zac (fun h=> ?_) (fun h=> ?_)<;>(try rw[h])<;>(try simp only[zah]at h)<;>(try simp -dsimp only[go_sem,seval,IL])
   ·obtain⟨y,hy,Eq⟩:=zai ‹i<(zbt p c).length›;have he:=zjC x y;simp -dsimp only[go_sem,seval,IL,hy,he,Bool.bne_false];refine zac (fun h=> ?_) (fun h=> ?_)<;>(try rw[h])<;>(try simp only[zah]at h)<;>(try simp -dsimp only[go_sem,seval,IL])
    ·have BW:x=y:=by simpa using h
     rw[zlY hy (by simpa using BW.symm)]at A9;obtain⟨t,tx,j,s,ht,Ng,_,OO⟩:=zgH.1 Eq;have IW:=zL ht;have AP:=zm7 p hf c hc t tx ht j s Ng x (BW.trans OO) (hs.sets tx IW s (zL Ng))
     have hE:zsS p c x=zgb p c t s:=by
      rw[BW,OO];simp[zsS,zgf,ht,Ng]
     rw[A9,if_pos rfl,hE]at hN;rw[hN];simp -dsimp only[go_sem,seval,AP,b1,b2]
    ·refine⟨by omega,by simp -dsimp only[go_sem,seval,hw],by simp -dsimp only[go_sem,seval,b1],by simp -dsimp only[go_sem,seval,b2],?_⟩;rw[A9,zlZ hy (by simpa[eq_comm]using h)]
   ·have:i=(zbt p c).length:=by omega
    subst this;rw[zoz]at A9;rw[A9]at hN;rw[hN];simp -dsimp only[go_sem,seval,b1,b2];simp[zd9]
end Rg
end
section
namespace Rg
open Go
end Rg
end
section
namespace Rg
open Go
end Rg
end
section
-- FULL
namespace Rg
open Go
end Rg
end
section
namespace Rg
open Go
end Rg
end
section
-- FULL
namespace Rg
open Go
end Rg
end
section
-- FULL
namespace Rg
open Go
end Rg
end
section
namespace Rg
open Go
structure IsC (p:Prog) (c:Config):Prop where
 lm:c.mem.length=p.cells.length
 la:c.at_.length=p.threads.length
 lb:c.buf.length=p.threads.length
 mem: ∀(i:Nat) (v:Int) (y:Cell),c.mem[i]? =some v->p.cells[i]? =some y->0<=v/\v<2^y.w.toNat
 at_: ∀(i:Nat) (a:Int) (x:Thread),c.at_[i]? =some a->p.threads[i]? =some x-> -1<=a/\a<x.points/\(a= -1->x.asleep=true)
 buf: ∀b∈c.buf,b=[]
theorem zwa {α β:Type} {l:List α} {m:List β} {f:α×β->Bool}:(l.zip m).all f=true<-> ∀(i:Nat) (a:α) (b:β),l[i]? =some a->m[i]? =some b->f (a,b)=true:=by
 rw[zN];constructor
 ·intro h i a b ha hb;exact h _ (zL (zhh ha hb))
 ·intro h q hq;obtain⟨i,hi⟩:=List.getElem?_of_mem hq;rw[List.getElem?_zip_eq_some]at hi;exact h i _ _ hi.1 hi.2
theorem zhT {p:Prog} {c:Config}:isM p c=true<->IsC p c:=by
 simp only[isM,zhA,zF,decide_eq_true_eq,zwa];simp only[zc9,zgI,zN,zF,decide_eq_true_eq,Bool.not_eq_true',Bool.and_eq_false_iff,decide_eq_false_iff_not,Bool.not_eq_false',List.isEmpty_iff];constructor
 ·rintro⟨⟨⟨⟨⟨h1,h2⟩,h3⟩,h4⟩,h5⟩,h6⟩
  exact⟨h1,h2,h5,h3,fun i a x ha hx=>⟨(h4 i a x ha hx).1.1,(h4 i a x ha hx).1.2,fun h0=>by
   rcases(h4 i a x ha hx).2 with h | h
   ·exact absurd h0 h
   ·exact h⟩,h6⟩
 ·rintro⟨h1,h2,h5,h3,h4,h6⟩;refine⟨⟨⟨⟨⟨h1,h2⟩,h3⟩,fun i a x ha hx=>⟨⟨(h4 i a x ha hx).1,(h4 i a x ha hx).2.1⟩,?_⟩⟩,h5⟩,h6⟩
  by_cases h0:a= -1
  ·exact .inr ((h4 i a x ha hx).2.2 h0)
  ·exact .inl h0
theorem zoO {p:Prog} (hf:zak p=true):isM p (zcm p)=true:=by
 rw[zhT,zcm,if_pos hf];refine⟨by simp,by simp,by simp,?_,?_,?_⟩
 ·intro i v y hv hy;simp only[zJ,hy,Option.map_some,zA]at hv;subst hv;exact(zdm hf (zL hy)).2.2
 ·intro i a x ha hx;simp only[zJ,hx,Option.map_some,zA]at ha;have:=zcQ hf hx;subst ha;split
  ·rename_i h;exact⟨by omega,by omega,fun _=>h⟩
  ·exact⟨by omega,by omega,by omega⟩
 ·intro b hb;simp only[List.mem_map]at hb;obtain⟨_,_,rfl⟩:=hb;rfl
theorem zkT (e:Expr) (old now:List Int):0<=e.eval old now/\e.eval old now<2^e.w.toNat:=by
 unfold Expr.eval;split
 ·rename_i h;exact zix old now 40 e (zcp h)
 ·exact⟨by omega,zcn _⟩
theorem zk6 {p:Prog} {view:List Int}: ∀{set:List Assign} {mem:List Int},
 (∀a∈set,∃y,p.cells[a.cell.toNat]? =some y/\a.to.w=y.w)->
 (∀(i:Nat) (v:Int) (y:Cell),mem[i]? =some v->p.cells[i]? =some y->0<=v/\v<2^y.w.toNat)->
 ∀(i:Nat) (v:Int) (y:Cell),(zaG mem view set)[i]? =some v->p.cells[i]? =some y->0<=v/\v<2^y.w.toNat
 | [],mem,_,hm=>hm
 | a::r,mem,hw,hm=>by
   have:zaG mem view (a::r)=zaG (mem.set a.cell.toNat (a.to.eval view view)) view r:=rfl;rw[this];refine zk6 (fun b hb=>hw b (List.mem_cons_of_mem _ hb)) ?_;intro i v y hv hy;rw[List.getElem?_set]at hv;split at hv
   ·rename_i hi;split at hv
    ·cases hv;obtain⟨z,hz,Pz⟩:=hw a List.mem_cons_self;rw[hi,hy]at hz;cases hz;rw[<- Pz];exact zkT _ _ _
    ·simp at hv
   ·exact hm i v y hv hy
theorem zw4 {p:Prog} (hf:zak p=true) {c:Config} (hc:isM p c=true) {t i:Nat} {x:Thread} {s:Step} (hx:p.threads[t]? =some x) (hs:x.steps[i]? =some s):isM p (zgb p c t s)=true:=by
 rw[zhT]at hc⊢;have Bm:=zb7 hf hx hs;refine⟨by simp only[zgb,zbL];exact hc.lm,?_,by simp[zgb],?_,?_,?_⟩
 ·simp only[zgb];split<;>simp <;>exact hc.la
 ·exact zk6 Bm.wid hc.mem
 ·have key: ∀(j:Nat) (a:Int) (z:Thread),(c.at_.set t s.to)[j]? =some a->p.threads[j]? =some z-> -1<=a/\a<z.points/\(a= -1->z.asleep=true):=by
   intro j a z ha hz;rw[List.getElem?_set]at ha;split at ha
   ·rename_i hj;split at ha
    ·cases ha;subst hj;rw[hx]at hz;cases hz;have:=Bm.to;exact⟨by omega,by omega,by omega⟩
    ·simp at ha
   ·exact hc.at_ j a z ha hz
  intro j a z ha hz;simp only[zgb]at ha;split at ha
  ·rw[List.getElem?_set]at ha;split at ha
   ·split at ha
    ·cases ha;have:=zcQ hf hz;exact⟨by omega,by omega,by omega⟩
    ·simp at ha
   ·exact key j a z ha hz
  ·exact key j a z ha hz
 ·intro b hb;simp only[zgb,List.mem_map]at hb;obtain⟨_,_,rfl⟩:=hb;rfl
theorem zr9 {p:Prog} (hf:zak p=true) {c:Config} (hc:isM p c=true) {y:Choice} (hy:y∈zbt p c):
 ∃(t:Nat) (x:Thread) (i:Nat) (s:Step),p.threads[t]? =some x/\x.steps[i]? =some s/\zb8 p c t s=true/\y=⟨t,i,0⟩/\zi0 p c y=(zgb p c t s,0)/\isM p (zgb p c t s)=true:=by
 obtain⟨t,x,i,s,hx,hs,he,rfl⟩:=zgH.1 hy;refine⟨t,x,i,s,hx,hs,he,rfl,?_,zw4 hf hc hx hs⟩;rw[zi0,hf,hc];simp only[Bool.and_self,if_true,(zpr _ _).2 hy];simp[zsS,zgf,hx,hs]
theorem zIf {p:Prog} (hf:zak p=true) {c:Config} (hc:isM p c=true) {y:Choice} (hy: ¬y∈zbt p c):zi0 p c y=(zd9,110):=by
 rw[zi0,hf,hc];have:zwZ (zbt p c) y=false:=by rw[<- Bool.not_eq_true,zpr];exact hy
 simp[this]
namespace Expr
mutual
def mapL (f:Expr->Expr):Expr->Expr
 | .mk o w n []=>f (.mk o w n [])
 | .mk o w n (k::ks)=> .mk o w n (mapL f k::zyA f ks)
def zyA (f:Expr->Expr):List Expr->List Expr
 | []=>[]
 | e::r=>mapL f e::zyA f r
end
theorem zLY (f:Expr->Expr): ∀l:List Expr,zyA f l=l.map (mapL f)
 | []=>rfl
 | e::r=>by rw[zyA,zLY f r];rfl
theorem mapL_leaf {f:Expr->Expr} {e:Expr} (h:e.kids=[]):e.mapL f=f e:=by
 obtain⟨o,w,n,ks⟩:=e
 cases ks with
 | nil=>rfl
 | cons k ks=>simp[Expr.kids]at h
theorem mapL_node {f:Expr->Expr} {e:Expr} (h:e.kids≠[]):e.mapL f= .mk e.op e.w e.n (e.kids.map (mapL f)):=by
 obtain⟨o,w,n,ks⟩:=e
 cases ks with
 | nil=>simp[Expr.kids]at h
 | cons k ks=>rw[mapL,zLY];rfl
end Expr
def Cut (h:Nat->Option O) (lo hi:Nat) (cs:List V) (e:Expr):Prop:=
 ∃x,cs=[.t (ti e.op),.t (ti e.w),.t (ti e.n),x]/\V.cells x=some [x]/\
  ∀h2 d,e.size<=d->(∀k,lo<=k->k<hi->h2 k=h k)->toT h2 d x=some (.sl (e.kids.map Expr.enc))
theorem Cut.mono {h h':Nat->Option O} {lo hi lo' AK:Nat} {cs:List V} {e:Expr} (c:Cut h lo hi cs e) (h1:lo'<=lo) (h2:hi<=AK) (hh: ∀k,lo<=k->k<hi->h' k=h k):Cut h' lo' AK cs e:=by
 obtain⟨x,hc,hx,ht⟩:=c;exact⟨x,hc,hx,fun g d hd hg=>ht g d hd fun k k1 k2=>(hg k (by omega) (by omega)).trans (hh k k1 k2)⟩
theorem Cut.tree (h:Nat->Option O) (lo hi:Nat) (e:Expr):Cut h lo hi [.t (ti e.op),.t (ti e.w),.t (ti e.n),.t (.sl (e.kids.map Expr.enc))] e:=
 ⟨_,rfl,rfl,fun _ d _ _=>by cases d<;>rfl⟩
theorem zHe {h h2:Nat->Option O} {lo hi d:Nat}: ∀(rows:List (List V)) (ks:List Expr),rows.length=ks.length->(∀(j:Nat) r e,rows[j]? =some r->ks[j]? =some e->Cut h lo hi r e/\e.size<=d)->
 (∀k,lo<=k->k<hi->h2 k=h k)->rows.mapM (fun row=>row.mapM (toT h2 d))=some (ks.map Expr.enc)
 | [],[],_,_,_=>rfl
 | [],_::_,hl,_,_=>by simp at hl
 | _::_,[],hl,_,_=>by simp at hl
 | r::rows,e::ks,hl,hj,hh=>by
   have ih:=zHe rows ks (by simpa using hl) (fun j r e h1 h2=>hj (j+1) r e h1 h2) hh;obtain⟨⟨x,rfl,_,ht⟩,hd⟩:=hj 0 r e rfl rfl;have h0:=ht h2 d hd hh;have hn: ∀n:Int,toT h2 d (.t (ti n))=some (ti n):=fun n=>by cases d<;>rfl
   rw[List.mapM_cons,ih];simp only[List.mapM_cons,List.mapM_nil,hn,h0,Option.pure_def,zC,zD,List.map_cons,Expr.enc_eq]
theorem Cut.node {h:Nat->Option O} {lo hi k:Nat} {rows:List (List V)} {o w n:Int} {ks:List Expr} {fz:Bool} {len:Nat} (hl:rows.length=ks.length) (hn:len=ks.length)
 (hr: ∀(j:Nat) r e,rows[j]? =some r->ks[j]? =some e->Cut h lo hi r e) (hk:h k=some (.rows 4 rows fz)) (h1:lo<=k) (h2:k<hi):
 Cut h lo hi [.t (ti o),.t (ti w),.t (ti n),.ms k 0 len] (.mk o w n ks):=by
 subst hn;refine⟨_,rfl,rfl,fun g d hd hg=> ?_⟩;obtain⟨d,rfl⟩: ∃d',d=d'+1:=⟨d-1,by have:=Expr.size_pos (.mk o w n ks);omega⟩
 have AS:=Expr.size_eq (.mk o w n ks)
 have PW:=zHe (d:=d) rows ks hl (fun j r e a b=>⟨hr j r e a b,by
  have hm:e∈ks:=zL b;have:=Expr.size_kid (e:=.mk o w n ks) (k:=e) hm
  omega⟩) hg
 rw[toT,hg k h1 h2,hk];simp only[rd,Nat.zero_add,<- hl,Nat.le_refl,if_true,List.drop_zero,zC,zD,List.take_length];rw[PW];rfl
theorem zMm (e:Expr):e.mapL (fun x=>x)=e:=by
 induction e using Expr.ind with
 | _ e ih=>
 by_cases hk:e.kids=[]
 ·exact Expr.mapL_leaf hk
 ·rw[Expr.mapL_node hk]
  have:e.kids.map (Expr.mapL fun x=>x)=e.kids:=by
   have:=List.map_congr_left (f:=Expr.mapL fun x=>x) (g:=id) (l:=e.kids) fun k hk=>ih k hk
   simpa using this
  rw[this];obtain⟨o,w,n,ks⟩:=e;rfl
def asg (set:List Assign) (c:Int):Option Expr:=(set.find? fun a=>decide (a.cell=c)).map Assign.to
end Rg
end
section
namespace Rg
open Go
theorem zL9 {e:Expr} (h:zbk e=true) (hk:e.kids≠[]):e.op≠1/\e.op≠2/\e.op≠3:=by
 have ha:=zct h;refine⟨fun ho=> ?_,fun ho=> ?_,fun ho=> ?_⟩<;>rw[ho]at ha<;>simp[zcO]at ha<;>exact hk (List.eq_nil_of_length_eq_zero (by omega))
theorem zM0 {e x:Expr} (h:x∈e.lv):x.kids=[]:=by
 induction e using Expr.ind with
 | _ e ih=>
   rw[Expr.lv_eq]at h;split at h
   ·rename_i hk;rw[List.mem_singleton.1 h];exact hk
   ·obtain⟨k,hk,hx⟩:=List.mem_flatMap.1 h;exact ih k hk hx
theorem zM1 {e k:Expr} (hk:k∈e.kids) {x:Expr} (hx:x∈k.lv):x∈e.lv:=by
 rw[Expr.lv_eq,if_neg (by intro h;rw[h]at hk;simp at hk)];exact List.mem_flatMap.2 ⟨k,hk,hx⟩
theorem zMP {e:Expr} (hk:e.kids=[]):e∈e.lv:=by rw[Expr.lv_eq,if_pos hk];simp
theorem zMQ {x:Expr}: ∀{d:Nat} {e:Expr},e.deep d=true->x∈e.lv->zbk x=true:=by
 intro d
 induction d with
 | zero=>intro e h;simp[Expr.deep]at h
 | succ d ih=>
   intro e h hx;rw[Expr.lv_eq]at hx;split at hx
   ·rw[List.mem_singleton.1 hx];exact zcq h
   ·obtain⟨k,hk,hx⟩:=List.mem_flatMap.1 hx;exact ih (zc7 h hk) hx
theorem zMn {f:Expr->Bool} {x:Expr}: ∀{e:Expr},e.allE f=true->x∈e.lv->f x=true:=by
 intro e
 induction e using Expr.ind with
 | _ e ih=>
   intro h hx;rw[Expr.lv_eq]at hx;split at hx
   ·rw[List.mem_singleton.1 hx];exact Expr.allE_self h
   ·obtain⟨k,hk,hx⟩:=List.mem_flatMap.1 hx;exact ih k hk (Expr.allE_kid h hk) hx
theorem zMO {f:Expr->Expr} {o1 m1 o2 m2:List Int}: ∀{d:Nat} {e:Expr},e.deep d=true->(∀x∈e.lv,(f x).ev o1 m1=x.ev o2 m2)->(e.mapL f).ev o1 m1=e.ev o2 m2:=by
 intro d
 induction d with
 | zero=>intro e h;simp[Expr.deep]at h
 | succ d ih=>
   intro e h hl
   by_cases hk:e.kids=[]
   ·rw[Expr.mapL_leaf hk];exact hl e (zMP hk)
   ·obtain⟨n1,n2,n3⟩:=zL9 (zcq h) hk;rw[Expr.mapL_node hk,Expr.ev_eq,Expr.ev_eq o2 m2 e]
    have:(e.kids.map (Expr.mapL f)).map (Expr.ev o1 m1)=e.kids.map (Expr.ev o2 m2):=by
     rw[List.map_map];exact List.map_congr_left fun k hk=>ih (zc7 h hk) fun x hx=>hl x (zM1 hk hx)
    simp only[go_sem,n1,n2,n3,if_false,this]
structure SetOk (p:Prog) (set:List Assign):Prop where
 rng: ∀a∈set,inR a.cell p.cells.length=true/\a.to.valid p.cells false=true
 wid: ∀a∈set,∃y,p.cells[a.cell.toNat]? =some y/\a.to.w=y.w
 dif: ∀(i j:Nat) (a b:Assign),set[i]? =some a->set[j]? =some b->a.cell=b.cell->i=j
theorem zMx {cells:List Cell} {e x:Expr} (h:e.valid cells false=true) (hx:x∈e.lv):x.kids=[]/\zbk x=true/\(x.op=1\/x.op=2/\0<=x.n/\x.n<32/\ ∃c,cells[x.n.toNat]? =some c/\c.w=x.w):=by
 simp only[Expr.valid,zF]at h;have hk:=zM0 hx;have hn:=zMQ (zcp h.1) hx;have hl:=zMn h.2 hx;have hc:=zMn (zpJ 40 e (zcp h.1)) hx;simp only[lcS,zF,decide_eq_true_eq]at hc;refine⟨hk,hn,?_⟩;have h3:x.op≠3:=fun h3=>by simp[zb3,h3]at hl
 rcases hc.1.2 hk with h1 | ⟨h2 | h2,Ad⟩
 ·exact .inl h1
 ·refine .inr ⟨h2,hc.1.1,Ad,?_⟩;simp only[zb3,h2]at hl
  cases Fs:cells[x.n.toNat]? with
  | none=>simp[Fs]at hl
  | some c=>exact⟨c,rfl,by simpa[Fs]using hl⟩
 ·exact absurd h2 h3
end Rg
end
section
namespace Rg
open Go
theorem zMb (l:List Bool) (m:Nat) (n:Nat):(n:Int)∈zbJ l m<->n<m/\l.getD n false=true:=by
 unfold zbJ;simp only[List.mem_map,List.mem_filter,List.mem_range];constructor
 ·rintro⟨j,⟨hj,hg⟩,he⟩;have:j=n:=by omega
  subst this;exact⟨hj,hg⟩
 ·rintro⟨hj,hg⟩;exact⟨n,⟨hj,hg⟩,rfl⟩
theorem zKM (op:Int) (n:Nat): ∀(l:List Expr) (s:List Bool),s.getD n false=true->(l.foldl (zb2 op) s).getD n false=true
 | [],s,h=>h
 | x::l,s,h=>by
   rw[List.foldl_cons];refine zKM op n l _ ?_;unfold zb2;split
   ·rw[zK,List.getElem?_set];split
    ·split
     ·rfl
     ·rename_i he Ad;subst he;rw[zK,List.getElem?_eq_none (by omega)]at h;simp at h
    ·rw[<- zK];exact h
   ·exact h
theorem zLG (op:Int) {n:Nat}: ∀(l:List Expr) (s:List Bool),n<s.length->(∃x∈l,x.op=op/\x.n.toNat=n)->(l.foldl (zb2 op) s).getD n false=true
 | [],s,_,h=>by obtain⟨x,hx,_⟩:=h;simp at hx
 | y::l,s,hn,h=>by
   rw[List.foldl_cons]
   by_cases hy:y.op=op/\y.n.toNat=n
   ·refine zKM op n l _ ?_;rw[zb2,if_pos hy.1,zK,List.getElem?_set,if_pos hy.2,if_pos (by omega)];rfl
   ·refine zLG op l _ (by rw[zsg];exact hn) ?_;obtain⟨x,hx,h1⟩:=h;rcases List.mem_cons.1 hx with rfl | hx
    ·exact absurd h1 hy
    ·exact⟨x,hx,h1⟩
theorem zMW {e x:Expr} (hf:e.formed=true) (hx:x∈e.lv) (ho:x.op=2) (h0:0<=x.n) (h1:x.n<32):x.n∈e.sup 2:=by
 rw[Expr.sup,if_pos hf];have:=(zMb (e.occ 2) 32 x.n.toNat).2 ⟨by omega,zLG 2 e.lv _ (by simp;omega) ⟨x,hx,ho,rfl⟩⟩;rwa[show((x.n.toNat:Nat):Int)=x.n by omega]at this
def zNH (l:List Int) (m m':List Int):Prop:= ∀n:Nat,(n:Int)∈l->m[n]? =m'[n]?
theorem zLj {cells:List Cell} {e:Expr} (he:e.valid cells false=true) {m m' o o':List Int} (h:zNH (e.sup 2) m m'):e.eval o m=e.eval o' m':=by
 have hv:=he;simp only[Expr.valid,zF]at hv;rw[Expr.eval,Expr.eval,if_pos hv.1,if_pos hv.1]
 have:=zMO (f:=fun x=>x) (o1:=o) (o2:=o') (m1:=m) (m2:=m') (zcp hv.1) (fun x hx=>by
  obtain⟨hk,hn,ho⟩:=zMx he hx;rcases ho with ho | ⟨ho,h0,Ad,_⟩
  ·simp[Expr.ev_eq,ho]
  ·have hm:=zMW hv.1 hx ho h0 Ad;have hg:=h x.n.toNat (by rw[show((x.n.toNat:Nat):Int)=x.n by omega];exact hm);have:atI m x.n=atI m' x.n:=by simp[atI,zK,hg]
   simp[Expr.ev_eq,ho,this])
 rwa[zMm]at this
theorem StepOk.set {p:Prog} {t:Int} {x:Thread} {s:Step} (h:StepOk p t x s):SetOk p s.set:=⟨h.rng.2,h.wid,h.dif⟩
end Rg
end
section
namespace Rg
open Go
end Rg
end
section
set_option maxRecDepth 10000
namespace Rg
open Go
end Rg
end
section
namespace Rg
open Go
end Rg
end
section
set_option maxRecDepth 10000
namespace Rg
open Go
end Rg
end
section
namespace Rg
open Go
structure Proper (p:Prog) (e:Entry):Prop where
 ne:e.cells≠[]
 len:e.values.length=e.cells.length
 nd:e.cells.Nodup
 cell: ∀(i:Nat) (n v:Int),e.cells[i]? =some n->e.values[i]? =some v->0<=n/\ ∃y,p.cells[n.toNat]? =some y/\y.thread= -1/\y.ghost=decide (0<i)/\0<=v/\v<2^y.w.toNat
structure IsB (p:Prog) (c:Config):Prop where
 lm:c.mem.length=p.cells.length
 la:c.at_.length=p.threads.length
 lb:c.buf.length=p.threads.length
 mem: ∀(i:Nat) (v:Int) (y:Cell),c.mem[i]? =some v->p.cells[i]? =some y->0<=v/\v<2^y.w.toNat
 at_: ∀(i:Nat) (a:Int) (x:Thread),c.at_[i]? =some a->p.threads[i]? =some x-> -1<=a/\a<x.points/\(a= -1->x.asleep=true)
 buf: ∀(t:Nat) (b:List Entry),c.buf[t]? =some b->b.length<=3/\(∀e∈b,Proper p e)/\(c.at_[t]? =some (-1)->b=[])
def ziq (m:List Int) (e:Entry):List Int:=(e.cells.zip e.values).foldl (fun m q=>m.set q.1.toNat q.2) m
def za1 (c:Config) (t:Nat):List Entry:=c.buf.getD t []
def zaw (c:Config) (t:Nat):List Int:=(za1 c t).foldl ziq c.mem
def zj0 (a b:Entry):Bool:=b.cells.any fun n=>a.cells.contains n
def zcw (older:List Entry) (e:Entry):Bool:=older.any fun o=>zj0 o e
def zc2 (k:Int) (b:List Entry) (i:Nat) (e:Entry):Bool:=decide (i=0)||(decide (k=2)&& !zcw (b.take i) e)
def zaN (p:Prog) (c:Config) (t:Nat) (s:Step):Bool:=
 decide (atI c.at_ t=s.fr)&&decide (s.guard.eval (zaw c t) (zaw c t)=1)&&
  (if s.kind=3 then(if s.release then decide ((za1 c t).length=0)else decide ((za1 c t).length<3))
   else if s.kind=4\/s.kind=5 then decide ((za1 c t).length=0)
   else if s.kind=6 then decide ((za1 c t).length=0)&&decide (atI c.at_ s.target= -1)
   else if s.kind=7 then decide ((za1 c t).length=0)&&(decide (atI c.at_ s.target=zc1 p s.target-1)&&decide ((za1 c s.target.toNat).length=0))
   else true)
def zcP (p:Prog) (c:Config) (t:Nat) (x:Thread) (i:Nat):List Choice:=
 (x.steps.take i).zipIdx.filterMap fun q=>if zaN p c t q.1 then some ⟨t,q.2,0⟩else none
def zcg (e:Entry):Int:=e.cells.headD 0
def zg7 (k:Int) (t:Nat) (b:List Entry) (i:Nat):List Choice:=
 (b.take i).zipIdx.filterMap fun q=>if zc2 k b q.2 q.1 then some ⟨t,-1,zcg q.1⟩else none
def zaU (p:Prog) (k:Int) (c:Config) (i:Nat):List Choice:=
 (p.threads.take i).zipIdx.flatMap fun q=>zcP p c q.2 q.1 q.1.steps.length++zg7 k q.2 (za1 c q.2) (za1 c q.2).length
def zdt (p:Prog) (k:Int) (c:Config):List Choice:=zaU p k c p.threads.length
def zao (p:Prog) (a:Assign):Bool:=zby p a.cell fun y=>decide (y.thread= -1)
def zfb (p:Prog) (view:List Int) (set:List Assign):Entry:=⟨(set.filter (zao p)).map Assign.cell,(set.filter (zao p)).map fun a=>a.to.eval view view⟩
def zdN (p:Prog) (c:Config) (t:Nat) (s:Step):Config:=
 ⟨zaG c.mem (zaw c t) (if s.kind=3 then s.set.filter (fun a=> !zao p a)else s.set),
  if s.kind=6 then(c.at_.set t s.to).set s.target.toNat 0 else c.at_.set t s.to,
  if s.kind=3 then c.buf.set t (za1 c t++[zfb p (zaw c t) s.set])else c.buf⟩
def za8 (c:Config) (t i:Nat):Config:=match(za1 c t)[i]? with
 | some e=>⟨ziq c.mem e,c.at_,c.buf.set t ((za1 c t).eraseIdx i)⟩
 | none=>zd9
def zlF (k:Int) (b:List Entry) (n:Int):Option Nat:=(List.range b.length).find? fun i=>match b[i]? with
 | some e=>zc2 k b i e&&decide (zcg e=n)
 | none=>false
def zdL (p:Prog) (k:Int) (c:Config) (x:Choice):Config×Int:=
 if x.thread<0\/(p.threads.length:Int)<=x.thread\/x.step< -1 then(zd9,110)
 else if x.step= -1 then(match zlF k (za1 c x.thread.toNat) x.cell with
  | some i=>(za8 c x.thread.toNat i,0)
  | none=>(zd9,110))
 else match zgf p x with
  | some s=>if decide (x.cell=0)&&zaN p c x.thread.toNat s then(zdN p c x.thread.toNat s,0)else(zd9,110)
  | none=>(zd9,110)
theorem zb0 {c:Config} {t:Nat} (h:t<c.buf.length):c.buf[t]? =some (za1 c t):=by simp[za1,List.getD,zI h]
theorem zdM: ∀(l:List (Int×Int)) (m:List Int),(l.foldl (fun m q=>m.set q.1.toNat q.2) m).length=m.length
 | [],m=>rfl
 | q::l,m=>by rw[List.foldl_cons,zdM l];simp
theorem zlm (m:List Int) (e:Entry):(ziq m e).length=m.length:=zdM _ m
theorem zdn: ∀(l:List Entry) (m:List Int),(l.foldl ziq m).length=m.length
 | [],m=>rfl
 | e::l,m=>by rw[List.foldl_cons,zdn l,zlm]
theorem ztP (c:Config) (t:Nat):(zaw c t).length=c.mem.length:=zdn _ _
theorem zhW {p:Prog}: ∀(l:List (Int×Int)) (m:List Int),(∀q∈l,∀y,p.cells[q.1.toNat]? =some y->0<=q.2/\q.2<2^y.w.toNat)->
 (∀(i:Nat) (v:Int) (y:Cell),m[i]? =some v->p.cells[i]? =some y->0<=v/\v<2^y.w.toNat)->
 ∀(i:Nat) (v:Int) (y:Cell),(l.foldl (fun m q=>m.set q.1.toNat q.2) m)[i]? =some v->p.cells[i]? =some y->0<=v/\v<2^y.w.toNat
 | [],m,_,hm=>hm
 | q::l,m,hl,hm=>by
   rw[List.foldl_cons];refine zhW l _ (fun r hr=>hl r (List.mem_cons_of_mem _ hr)) ?_;intro i v y hv hy;rw[List.getElem?_set]at hv;split at hv
   ·rename_i hi;split at hv
    ·cases hv;subst hi;exact hl q List.mem_cons_self y hy
    ·simp at hv
   ·exact hm i v y hv hy
theorem ziY {p:Prog} {e:Entry} (h:Proper p e) {q:Int×Int} (hq:q∈e.cells.zip e.values):0<=q.1/\ ∃y,p.cells[q.1.toNat]? =some y/\y.thread= -1/\0<=q.2/\q.2<2^y.w.toNat:=by
 obtain⟨i,hi⟩:=List.getElem?_of_mem hq;rw[List.getElem?_zip_eq_some]at hi;obtain⟨h0,y,h1,h2,_,h3⟩:=h.cell i q.1 q.2 hi.1 hi.2;exact⟨h0,y,h1,h2,h3⟩
theorem zwC {p:Prog} {e:Entry} (he:Proper p e) {m:List Int} (hm: ∀(i:Nat) (v:Int) (y:Cell),m[i]? =some v->p.cells[i]? =some y->0<=v/\v<2^y.w.toNat):
 ∀(i:Nat) (v:Int) (y:Cell),(ziq m e)[i]? =some v->p.cells[i]? =some y->0<=v/\v<2^y.w.toNat:=by
 refine zhW _ m (fun q hq y hy=> ?_) hm;obtain⟨_,z,hz,_,h⟩:=ziY he hq;rw[hy]at hz;cases hz;exact h
theorem zcG {p:Prog} {e:Entry} (h:Proper p e) {n:Int} (hn:n∈e.cells):0<=n/\n.toNat<p.cells.length/\ ∃y,p.cells[n.toNat]? =some y/\y.thread= -1:=by
 obtain⟨i,hi⟩:=List.getElem?_of_mem hn;have Ad:i<e.values.length:=by rw[h.len];exact(zH.1 hi).1
 obtain⟨h0,y,h1,h2,_⟩:=h.cell i n _ hi (zI Ad);exact⟨h0,(zH.1 h1).1,y,h1,h2⟩
theorem zgX: ∀(n:Nat) (l:List Int),l.Nodup->(∀x∈l,0<=x/\x<n)->l.length<=n
 | 0,[],_,_=>Nat.le_refl _
 | 0,x::l,_,hl=>by have:=hl x List.mem_cons_self;omega
 | n+1,l,Bt,hl=>by
   have h:=zgX n (l.erase (n:Int)) (Bt.erase _) fun x hx=>by
    have h1:=Bt.mem_erase_iff.1 hx;have h2:=hl x h1.2;have h3:=h1.1;omega
   rw[List.length_erase]at h;split at h<;>omega
theorem zbd {p:Prog} {e:Entry} (h:Proper p e):e.cells.length<=p.cells.length:=
 zgX _ _ h.nd fun x hx=>by have:=zcG h hx;omega
theorem zrA {p:Prog} {a:Assign} (h:zao p a=true): ∃y,p.cells[a.cell.toNat]? =some y/\y.thread= -1:=by
 unfold zao zby at h;split at h
 ·rename_i y hy;exact⟨y,hy,by simpa using h⟩
 ·simp at h
theorem znF {p:Prog} {t:Int} {s:Step} (hk:s.kind=3) (h:zbG p t s=true): ∃a r,s.set=a::r/\zbz p s false t=true/\zao p a=true/\zby p a.cell Cell.ghost=false/\
 ∀b∈r,zby p b.cell Cell.ghost=true/\zjW p t b.cell=true:=by
 rw[zbG,if_neg (by omega),if_neg (by omega),if_pos hk,zeY]at h;split at h
 ·simp at h
 ·rename_i a r hs;simp only[zF,Bool.not_eq_true',zN]at h;obtain⟨⟨⟨h1,h2⟩,h3⟩,h4⟩:=h;obtain⟨h0,y,hy,ht⟩:=ziZ h2;exact⟨a,r,hs,h1,by rw[zao,zaZ hy];simpa using ht,h3,h4⟩
theorem zs2 {l:List Assign} (h: ∀(i j:Nat) (a b:Assign),l[i]? =some a->l[j]? =some b->a.cell=b.cell->i=j):(l.map Assign.cell).Nodup:=by
 rw[List.nodup_iff_pairwise_ne,List.pairwise_iff_getElem];intro i j hi hj Av he;simp only[List.length_map]at hi hj;simp only[List.getElem_map]at he;have:=h i j _ _ (zI hi) (zI hj) he;omega
theorem zfH {p:Prog} {t:Int} {x:Thread} {s:Step} (Bm:StepOk p t x s) (hk:s.kind=3) (view:List Int):Proper p (zfb p view s.set):=by
 obtain⟨a,r,hs,hv,ha,hg,hr⟩:=znF hk Bm.row;have hf:s.set.filter (zao p)=a::r.filter (zao p):=by rw[hs,List.filter_cons,if_pos ha]
 refine⟨by simp[zfb,hf],by simp[zfb],?_,?_⟩
 ·exact List.Nodup.sublist ((List.filter_sublist).map _) (zs2 Bm.dif)
 ·intro i n v hn Bs;simp only[zfb,zJ,zE]at hn Bs;obtain⟨b,hb,rfl⟩:=hn;obtain⟨b',Bf,rfl⟩:=Bs;rw[hb]at Bf;cases Bf;have EW:=zL hb;obtain⟨Ay,Bo⟩:=List.mem_filter.1 EW;obtain⟨y,hy,Gj⟩:=zrA Bo;have Aj:=(Bm.rng.2 b Ay).1;simp only[inR,decide_eq_true_eq]at Aj;obtain⟨z,hz,hw⟩:=Bm.wid b Ay;rw[hy]at hz;cases hz;refine⟨Aj.1,y,hy,Gj,?_,by rw[<- hw];exact zkT _ _ _⟩;rw[hf]at hb
  cases i with
  | zero=>
    simp only[List.getElem?_cons_zero,zA]at hb;subst hb;rw[zaZ hy]at hg
    simpa using hg
  | succ i=>
    simp only[List.getElem?_cons_succ]at hb;have:=(hr b (List.mem_filter.1 (zL hb)).1).1;rw[zaZ hy]at this;simpa using this
theorem zw5 {p:Prog} {c:Config} {t i:Nat} {x:Thread} {s:Step} (hf:zak p=true) (hx:p.threads[t]? =some x) (Bm:StepOk p t x s)
 (Bj: ∀(i:Nat) (a:Int) (x:Thread),c.at_[i]? =some a->p.threads[i]? =some x-> -1<=a/\a<x.points/\(a= -1->x.asleep=true)):
 ∀(i:Nat) (a:Int) (z:Thread),(if s.kind=6 then(c.at_.set t s.to).set s.target.toNat 0 else c.at_.set t s.to)[i]? =some a->p.threads[i]? =some z-> -1<=a/\a<z.points/\(a= -1->z.asleep=true):=by
 have key: ∀(j:Nat) (a:Int) (z:Thread),(c.at_.set t s.to)[j]? =some a->p.threads[j]? =some z-> -1<=a/\a<z.points/\(a= -1->z.asleep=true):=by
  intro j a z ha hz;rw[List.getElem?_set]at ha;split at ha
  ·rename_i hj;split at ha
   ·cases ha;subst hj;rw[hx]at hz;cases hz;have:=Bm.to;exact⟨by omega,by omega,by omega⟩
   ·simp at ha
  ·exact Bj j a z ha hz
 intro j a z ha hz;split at ha
 ·rw[List.getElem?_set]at ha;split at ha
  ·split at ha
   ·cases ha;have:=zcQ hf hz;exact⟨by omega,by omega,by omega⟩
   ·simp at ha
  ·exact key j a z ha hz
 ·exact key j a z ha hz
theorem zgC {c:Config} {t j:Nat} {s:Step} (h0:0<=s.to) (h:(if s.kind=6 then(c.at_.set t s.to).set s.target.toNat 0 else c.at_.set t s.to)[j]? =some (-1)):c.at_[j]? =some (-1):=by
 have key:(c.at_.set t s.to)[j]? =some (-1)->c.at_[j]? =some (-1):=by
  intro h;rw[List.getElem?_set]at h;split at h
  ·split at h
   ·simp only[zA]at h;omega
   ·simp at h
  ·exact h
 split at h
 ·rw[List.getElem?_set]at h;split at h
  ·split at h
   ·simp at h
   ·simp at h
  ·exact key h
 ·exact key h
theorem zpE {p:Prog} (hf:zak p=true) {c:Config} (hc:IsB p c) {t i:Nat} {x:Thread} {s:Step} (hx:p.threads[t]? =some x) (hs:x.steps[i]? =some s) (he:zaN p c t s=true):IsB p (zdN p c t s):=by
 have Bm:=zb7 hf hx hs;have Dd:t<c.buf.length:=by rw[hc.lb];exact(zH.1 hx).1
 refine⟨by simp only[zdN,zbL];exact hc.lm,?_,?_,?_,zw5 (i:=i) hf hx Bm hc.at_,?_⟩
 ·show(if s.kind=6 then _ else _:List Int).length=_;split
  ·rw[List.length_set,List.length_set];exact hc.la
  ·rw[List.length_set];exact hc.la
 ·show(if s.kind=3 then _ else _:List (List Entry)).length=_;split
  ·rw[List.length_set];exact hc.lb
  ·exact hc.lb
 ·refine zk6 (fun a ha=> ?_) hc.mem;refine Bm.wid a ?_
  try simp only at ha
  split at ha
  ·exact(List.mem_filter.1 ha).1
  ·exact ha
 ·intro t' b hb;simp only[zdN]at hb⊢
  by_cases hk:s.kind=3
  ·rw[if_pos hk,List.getElem?_set]at hb;split at hb
   ·rename_i MW;subst MW
    try rw[if_pos Dd]at hb
    simp only[zA]at hb;subst hb;have C2:=hc.buf t _ (zb0 Dd);refine⟨?_,?_,?_⟩
    ·simp only[zaN,zF,hk,if_true]at he;have h3:=he.2;split at h3
     ·have:(za1 c t).length=0:=by simpa using h3
      simp[this]
     ·have:(za1 c t).length<3:=by simpa using h3
      simp;omega
    ·intro e Cn;rcases List.mem_append.1 Cn with h | h
     ·exact C2.2.1 e h
     ·rw[List.mem_singleton]at h;subst h;exact zfH Bm hk _
    ·intro ha;have:=zgC Bm.to.1 ha;simp only[zaN,zF,decide_eq_true_eq]at he;have h1:atI c.at_ t= -1:=zdF (by simpa using this);have:=Bm.fr.1;omega
   ·obtain⟨q1,q2,q3⟩:=hc.buf t' b hb;exact⟨q1,q2,fun ha=>q3 (zgC Bm.to.1 ha)⟩
  ·rw[if_neg hk]at hb;obtain⟨q1,q2,q3⟩:=hc.buf t' b hb;exact⟨q1,q2,fun ha=>q3 (zgC Bm.to.1 ha)⟩
theorem zkY {p:Prog} {c:Config} (hc:IsB p c) {t i:Nat} {e:Entry} (hi:(za1 c t)[i]? =some e):IsB p (za8 c t i):=by
 have Dd:t<c.buf.length:=by
  rcases Nat.lt_or_ge t c.buf.length with h | h
  ·exact h
  ·simp[za1,List.getD,List.getElem?_eq_none h]at hi
 have C2:=hc.buf t _ (zb0 Dd);have hC:za8 c t i=⟨ziq c.mem e,c.at_,c.buf.set t ((za1 c t).eraseIdx i)⟩:=by simp only[za8,hi]
 rw[hC];refine⟨by simp only[zlm];exact hc.lm,hc.la,by simp;exact hc.lb,zwC (C2.2.1 e (zL hi)) hc.mem,hc.at_,?_⟩;intro t' b hb;rw[List.getElem?_set]at hb;split at hb
 ·rename_i MW;subst MW
  try rw[if_pos Dd]at hb
  simp only[zA]at hb;subst hb;refine⟨Nat.le_trans (List.length_eraseIdx_le _ _) C2.1,fun e he=>C2.2.1 e (List.mem_of_mem_eraseIdx he),fun ha=> ?_⟩;have:=C2.2.2 ha;rw[this]at hi;simp at hi
 ·exact hc.buf t' b hb
theorem zrv {p:Prog} (hf:zak p=true):IsB p (zcm p):=by
 have h:=zhT.1 (zoO hf);refine⟨h.lm,h.la,h.lb,h.mem,h.at_,fun t b hb=> ?_⟩;have:=h.buf b (zL hb);subst this;exact⟨by simp,by simp,fun _=>rfl⟩
theorem zvT {p:Prog} {c:Config} (h:IsC p c):IsB p c:=
 ⟨h.lm,h.la,h.lb,h.mem,h.at_,fun t b hb=>by
   have:=h.buf b (zL hb);subst this
   exact⟨by simp,by simp,fun _=>rfl⟩⟩
theorem zyJ {p:Prog} {c:Config} (h:IsB p c) (hq: ∀b∈c.buf,b=[]):IsC p c:=⟨h.lm,h.la,h.lb,h.mem,h.at_,hq⟩
theorem zkh {p:Prog} {c:Config} {t:Nat} {x:Thread} {n:Nat} {y:Choice}:y∈zcP p c t x n<-> ∃i s,i<n/\x.steps[i]? =some s/\zaN p c t s=true/\y=⟨t,i,0⟩:=by
 unfold zcP;rw[List.mem_filterMap];constructor
 ·rintro⟨⟨s,i⟩,hm,h⟩;rw[List.mem_zipIdx_iff_getElem?]at hm;simp only at hm;rw[zO]at hm;split at hm
  ·rename_i hi;split at h
   ·rename_i he;simp only[zA]at h;exact⟨i,s,hi,hm,he,h.symm⟩
   ·simp at h
  ·simp at hm
 ·rintro⟨i,s,hi,hs,he,rfl⟩;refine⟨(s,i),?_,by simp[he]⟩;rw[List.mem_zipIdx_iff_getElem?];simp only;rw[zO,if_pos hi];exact hs
theorem zna {k:Int} {t:Nat} {b:List Entry} {n:Nat} {y:Choice}:y∈zg7 k t b n<-> ∃i e,i<n/\b[i]? =some e/\zc2 k b i e=true/\y=⟨t,-1,zcg e⟩:=by
 unfold zg7;rw[List.mem_filterMap];constructor
 ·rintro⟨⟨e,i⟩,hm,h⟩;rw[List.mem_zipIdx_iff_getElem?]at hm;simp only at hm;rw[zO]at hm;split at hm
  ·rename_i hi;split at h
   ·rename_i he;simp only[zA]at h;exact⟨i,e,hi,hm,he,h.symm⟩
   ·simp at h
  ·simp at hm
 ·rintro⟨i,e,hi,hs,he,rfl⟩;refine⟨(e,i),?_,by simp[he]⟩;rw[List.mem_zipIdx_iff_getElem?];simp only;rw[zO,if_pos hi];exact hs
theorem zh7 {p:Prog} {k:Int} {c:Config} {y:Choice}:y∈zdt p k c<->
 (∃(t:Nat) (x:Thread) (i:Nat) (s:Step),p.threads[t]? =some x/\x.steps[i]? =some s/\zaN p c t s=true/\y=⟨t,i,0⟩)\/
 (∃(t i:Nat) (e:Entry),t<p.threads.length/\(za1 c t)[i]? =some e/\zc2 k (za1 c t) i e=true/\y=⟨t,-1,zcg e⟩):=by
 unfold zdt zaU;rw[List.mem_flatMap];constructor
 ·rintro⟨⟨x,t⟩,hm,h⟩;rw[List.mem_zipIdx_iff_getElem?,List.take_length]at hm;rcases List.mem_append.1 h with h | h
  ·obtain⟨i,s,_,hs,he,rfl⟩:=zkh.1 h;exact .inl ⟨t,x,i,s,hm,hs,he,rfl⟩
  ·obtain⟨i,e,_,hs,he,rfl⟩:=zna.1 h;exact .inr ⟨t,i,e,(zH.1 hm).1,hs,he,rfl⟩
 ·rintro(⟨t,x,i,s,hx,hs,he,rfl⟩ | ⟨t,i,e,ht,hi,ho,rfl⟩)
  ·refine⟨(x,t),?_,List.mem_append_left _ (zkh.2 ⟨i,s,(zH.1 hs).1,hs,he,rfl⟩)⟩;rw[List.mem_zipIdx_iff_getElem?,List.take_length];exact hx
  ·refine⟨(p.threads[t],t),?_,List.mem_append_right _ (zna.2 ⟨i,e,(zH.1 hi).1,hi,ho,rfl⟩)⟩;rw[List.mem_zipIdx_iff_getElem?,List.take_length];exact zI ht
theorem ziv {p:Prog} {e:Entry} (h:Proper p e):zcg e∈e.cells:=by
 have:=h.ne;unfold zcg
 cases hc:e.cells with
 | nil=>exact absurd hc this
 | cons a r=>simp
theorem zls {p:Prog} {k:Int} {b:List Entry} (hb: ∀e∈b,Proper p e) {i j:Nat} {e f:Entry} (hi:b[i]? =some e) (hj:b[j]? =some f) (ho:zc2 k b j f=true) (Av:i<j):zcg e≠zcg f:=by
 intro he;unfold zc2 at ho;simp only[Bool.or_eq_true,decide_eq_true_eq,zF,Bool.not_eq_true']at ho;rcases ho with h | ⟨_,h⟩
 ·omega
 ·have Ce:e∈b.take j:=by
   have:(b.take j)[i]? =some e:=by rw[zO,if_pos Av];exact hi
   exact zL this
  have:zcw (b.take j) f=true:=by
   rw[zcw,List.any_eq_true];refine⟨e,Ce,?_⟩;rw[zj0,List.any_eq_true];refine⟨zcg f,ziv (hb f (zL hj)),?_⟩;rw[<- he];simpa using ziv (hb e (zL hi))
  rw[this]at h;simp at h
theorem zqG {k:Int} {b:List Entry} {n:Int} {i:Nat} (h:zlF k b n=some i): ∃e,b[i]? =some e/\zc2 k b i e=true/\zcg e=n:=by
 have:=List.find?_some h
 try simp only at this
 split at this
 ·rename_i e he;simp only[zF,decide_eq_true_eq]at this;exact⟨e,he,this.1,this.2⟩
 ·simp at this
theorem zpA {p:Prog} {k:Int} {b:List Entry} (hb: ∀e∈b,Proper p e) {i:Nat} {e:Entry} (hi:b[i]? =some e) (ho:zc2 k b i e=true):zlF k b (zcg e)=some i:=by
 have AV:=(zH.1 hi).1
 cases hf:zlF k b (zcg e)with
 | none=>
   unfold zlF at hf;rw[List.find?_eq_none]at hf;have:=hf i (List.mem_range.2 AV);rw[hi]at this
   simp[ho]at this
 | some j=>
   obtain⟨f,hj,Pa,hh⟩:=zqG hf;rcases Nat.lt_trichotomy i j with h | h | h
   ·exact absurd hh.symm (zls hb hi hj Pa h)
   ·rw[h]
   ·exact absurd hh (zls hb hj hi ho h)
theorem zkE {p:Prog} {k:Int} {c:Config} {t i:Nat} {x:Thread} {s:Step} (hx:p.threads[t]? =some x) (hs:x.steps[i]? =some s) (he:zaN p c t s=true):zdL p k c ⟨t,i,0⟩=(zdN p c t s,0):=by
 have ht:=(zH.1 hx).1;have e1:zgf p ⟨t,i,0⟩=some s:=by simp[zgf,hx,hs]
 rw[zdL,if_neg (by simp only;omega),if_neg (by simp only;omega),e1];simp[he]
theorem zhR {p:Prog} {k:Int} {c:Config} (hc:IsB p c) {t i:Nat} {e:Entry} (ht:t<p.threads.length) (hi:(za1 c t)[i]? =some e) (ho:zc2 k (za1 c t) i e=true):zdL p k c ⟨t,-1,zcg e⟩=(za8 c t i,0):=by
 have hb:=(hc.buf t _ (zb0 (by rw[hc.lb];exact ht))).2.1;rw[zdL,if_neg (by simp only;omega),if_pos rfl];simp only[Int.toNat_natCast,zpA hb hi ho]
theorem zHX {p:Prog} {k:Int} {c:Config} {y:Choice} (h:y∉ zdt p k c):zdL p k c y=(zd9,110):=by
 unfold zdL;split
 ·rfl
 ·rename_i h1;simp only[not_or,Int.not_lt,Int.not_le]at h1;obtain⟨h1,h2,h3⟩:=h1;have ht:((y.thread.toNat:Nat):Int)=y.thread:=by omega
  split
  ·rename_i hs;split
   ·rename_i i hi;obtain⟨e,he,ho,hh⟩:=zqG hi;refine absurd (zh7.2 (.inr ⟨y.thread.toNat,i,e,by omega,he,ho,?_⟩)) h;cases y;simp_all
   ·rfl
  ·rename_i hs;split
   ·rename_i s Ff;split
    ·rename_i Ch;simp only[zF,decide_eq_true_eq]at Ch;simp only[zgf,zB]at Ff;obtain⟨x,hx,DW⟩:=Ff;refine absurd (zh7.2 (.inl ⟨y.thread.toNat,x,y.step.toNat,s,hx,DW,Ch.2,?_⟩)) h;cases y;simp_all;omega
    ·rfl
   ·rfl
theorem zuw {p:Prog} (hf:zak p=true) {k:Int} {c:Config} (hc:IsB p c) {y:Choice} (hy:y∈zdt p k c): ∃d,zdL p k c y=(d,0)/\IsB p d:=by
 rcases zh7.1 hy with⟨t,x,i,s,hx,hs,he,rfl⟩ | ⟨t,i,e,ht,hi,ho,rfl⟩
 ·exact⟨_,zkE hx hs he,zpE hf hc hx hs he⟩
 ·exact⟨_,zhR hc ht hi ho,zkY hc hi⟩
def zaK (p:Prog) (k:Int) (c:Config):List Choice:=if k=0 then zbt p c else zdt p k c
def zdk (p:Prog) (k:Int) (c:Config) (x:Choice):Config×Int:=if k=0 then zi0 p c x else zdL p k c x
structure IsK (p:Prog) (k:Int) (c:Config):Prop where
 b:IsB p c
 q:k=0-> ∀b∈c.buf,b=[]
theorem IsK.c {p:Prog} {c:Config} {k:Int} (h:IsK p k c) (hk:k=0):isM p c=true:=zhT.2 (zyJ h.b (h.q hk))
theorem zgY {p:Prog} (hf:zak p=true) {k:Int} {c:Config} (hc:IsK p k c) {y:Choice} (hy:y∈zaK p k c): ∃d,zdk p k c y=(d,0)/\IsK p k d:=by
 unfold zaK at hy;unfold zdk;split at hy
 ·rename_i hk;obtain⟨t,x,i,s,hx,hs,he,rfl,hn,hd⟩:=zr9 hf (hc.c hk) hy;rw[if_pos hk];have:=zhT.1 hd;exact⟨_,hn,zvT this,fun _=>this.buf⟩
 ·rename_i hk;rw[if_neg hk];obtain⟨d,hn,hd⟩:=zuw hf hc.b hy;exact⟨d,hn,hd,fun h=>absurd h hk⟩
theorem zG9 {p:Prog} (hf:zak p=true) {k:Int} {c:Config} (hc:IsK p k c) {y:Choice} (hy:y∉ zaK p k c):zdk p k c y=(zd9,110):=by
 unfold zaK at hy;unfold zdk;split at hy
 ·rename_i hk;rw[if_pos hk];exact zIf hf (hc.c hk) hy
 ·rename_i hk;rw[if_neg hk];exact zHX hy
theorem zfq {p:Prog} (hf:zak p=true) (k:Int):IsK p k (zcm p):=⟨zrv hf,fun _=>(zhT.1 (zoO hf)).buf⟩
end Rg
end
section
namespace Rg
open Go
theorem zeN {c:Config} (hq: ∀b∈c.buf,b=[]) (t:Nat):za1 c t=[]:=by
 unfold za1;rw[zK]
 cases h:c.buf[t]? with
 | none=>rfl
 | some b=>exact hq b (zL h)
theorem zkw {c:Config} (hq: ∀b∈c.buf,b=[]) (t:Nat):zaw c t=c.mem:=by rw[zaw,zeN hq];rfl
theorem zgU {p:Prog} {c:Config} (hq: ∀b∈c.buf,b=[]) (t:Nat) (s:Step):zaN p c t s=zb8 p c t s:=by
 unfold zaN zb8;rw[zkw hq,zeN hq,zeN hq]
 congr 1
 by_cases h3:s.kind=3
 ·rw[if_pos h3,if_neg (show ¬s.kind=6 by omega),if_neg (show ¬s.kind=7 by omega)];split<;>simp
 ·rw[if_neg h3]
  by_cases Gh:s.kind=4\/s.kind=5
  ·rw[if_pos Gh,if_neg (show ¬s.kind=6 by omega),if_neg (show ¬s.kind=7 by omega)];simp
  ·rw[if_neg Gh]
   by_cases h6:s.kind=6
   ·rw[if_pos h6,if_pos h6];simp
   ·rw[if_neg h6,if_neg h6];split<;>simp
theorem zll {p:Prog} {c:Config} (hq: ∀b∈c.buf,b=[]) (k:Int):zdt p k c=zbt p c:=by
 unfold zdt zaU zbt zcu
 congr 1
 funext q
 rw[zeN hq];have e1:zg7 k q.2 [] ([]:List Entry).length=[]:=rfl;rw[e1,List.append_nil];unfold zcP zcK
 congr 1
 funext r
 rw[zgU hq]
section
end
theorem zd6 {p:Prog} {k:Int} {c:Config} (h:IsK p k c):zaK p k c=zdt p k c:=by
 unfold zaK;split
 ·rename_i hk;exact(zll (h.q hk) k).symm
 ·rfl
def zm8 (p:Prog) (k:Int) (c:Config) (t:Nat) (s:Step):Config:=if k=0 then zgb p c t s else zdN p c t s
theorem zsb {p:Prog} (hf:zak p=true) {k:Int} {c:Config} (hc:IsK p k c) {y:Choice} (hy:y∈zaK p k c):
 (∃(t:Nat) (x:Thread) (i:Nat) (s:Step),p.threads[t]? =some x/\x.steps[i]? =some s/\zaN p c t s=true/\y=⟨t,i,0⟩/\zdk p k c y=(zm8 p k c t s,0)/\IsK p k (zm8 p k c t s))\/
 (k≠0/\ ∃(t i:Nat) (e:Entry),t<p.threads.length/\(za1 c t)[i]? =some e/\zc2 k (za1 c t) i e=true/\y=⟨t,-1,zcg e⟩/\zdk p k c y=(za8 c t i,0)/\IsK p k (za8 c t i)):=by
 have OP:=hy;rw[zd6 hc]at OP;rcases zh7.1 OP with⟨t,x,i,s,hx,hs,he,rfl⟩ | ⟨t,i,e,ht,hi,ho,rfl⟩
 ·refine .inl ⟨t,x,i,s,hx,hs,he,rfl,?_⟩
  by_cases hk:k=0
  ·have hq:=hc.q hk;rw[zgU hq]at he;have hm:(⟨t,i,0⟩:Choice)∈zbt p c:=zgH.2 ⟨t,x,i,s,hx,hs,he,rfl⟩;obtain⟨t',x',i',s',Dc,F4,_,Fq,hn,hd⟩:=zr9 hf (hc.c hk) hm;simp only[Choice.mk.injEq,Int.natCast_inj,and_true]at Fq;obtain⟨rfl,rfl⟩:=Fq;rw[hx]at Dc;cases Dc;rw[hs]at F4;cases F4;have h1:=zhT.1 hd;simp only[zdk,zm8,if_pos hk];exact⟨hn,zvT h1,fun _=>h1.buf⟩
  ·simp only[zdk,zm8,if_neg hk];exact⟨zkE hx hs he,zpE hf hc.b hx hs he,fun h=>absurd h hk⟩
 ·have hk:k≠0:=by
   intro hk;rw[zeN (hc.q hk)]at hi;simp at hi
  refine .inr ⟨hk,t,i,e,ht,hi,ho,rfl,?_⟩;simp only[zdk,if_neg hk];exact⟨zhR hc.b ht hi ho,zkY hc.b hi,fun h=>absurd h hk⟩
def zwW (l:List Int) (v:Int):Int:=match l.findIdx? (fun x=>decide (x=v))with
 | some i=>i
 | none=> -1
theorem zwT {l:List Int} {v:Int} {i:Nat} (h:l[i]? =some v) (hn: ∀j,j<i->l[j]? ≠some v):zwW l v=i:=by
 have hi:=(zH.1 h).1
 have:l.findIdx? (fun x=>decide (x=v))=some i:=by
  rw[List.findIdx?_eq_some_iff_getElem];refine⟨hi,by simpa using(zH.1 h).2,fun j hj=> ?_⟩;have:=hn j hj;rw[zI (by omega)]at this;simpa using this
 rw[zwW,this]
theorem zuT {l:List Int} {v:Int} (hn: ∀j,j<l.length->l[j]? ≠some v):zwW l v= -1:=by
 have:l.findIdx? (fun x=>decide (x=v))=none:=by
  rw[List.findIdx?_eq_none_iff];intro x hx;obtain⟨j,hj⟩:=List.getElem?_of_mem hx;have:=hn j (zH.1 hj).1;rw[hj]at this;simpa using this
 rw[zwW,this]
theorem zwU (l:List Int) (v:Int):decide (zwW l v>=0)=l.contains v:=by
 unfold zwW
 cases h:l.findIdx? (fun x=>decide (x=v))with
 | some i=>
   have hm:v∈l:=by
    rw[List.findIdx?_eq_some_iff_getElem]at h;obtain⟨h1,h2,_⟩:=h;exact(by simpa using h2:l[i]=v)▸List.getElem_mem h1
   simp[hm]
 | none=>
   have hm:v∉ l:=by
    intro hm;rw[List.findIdx?_eq_none_iff]at h;have:=h v hm;simp at this
   simp[hm]
theorem zq0 (l:List Int) (v:Int) (hl:l.length<2^48):Den Γ G 207 [.t (ints l),vi v]=some (vi (zwW l v)):=by
 (refine zag Γ207 rfl ?_;dsimp only[zIQ])
 simp -dsimp only[go_sem,seval];refine zaT 524080 l.length (fun i f=>(f 8).v=vi i/\ ∀j,j<i->l[j]? ≠some v) rfl rfl ⟨by simp -dsimp only[go_sem,seval],fun j hj=>by omega⟩ ?_;rintro i f u kk bb hi ⟨h8,hn⟩;have hw:=zan i (by omega);simp -dsimp only[go_sem,seval,h8];refine zac (fun h=> ?_) (fun h=> ?_)<;>(try rw[h])<;>(try simp only[zah]at h)<;>(try simp -dsimp only[go_sem,seval,h8])
 ·obtain⟨y,hy,_⟩:=zai ‹i<l.length›;simp -dsimp only[go_sem,seval,h8,hy];refine zac (fun h=> ?_) (fun h=> ?_)<;>(try rw[h])<;>(try simp only[zah]at h)<;>(try simp -dsimp only[go_sem,seval,h8])
  ·rw[zwT (by rw[hy,h]) hn]
  ·refine⟨by omega,by simp -dsimp only[go_sem,seval,hw],fun j hj=> ?_⟩;rcases Nat.lt_or_ge j i with h1 | h1
   ·exact hn j h1
   ·have:j=i:=by omega
    subst this;rw[hy];intro he;cases he;exact absurd rfl h
 ·have:i=l.length:=by omega
  subst this;rw[zuT hn]
theorem zff (l:List Int) (v:Int) (hl:l.length<2^48):Den Γ G 206 [.t (ints l),vi v]=some (vb (l.contains v)):=by
 (refine zag Γ206 rfl ?_;dsimp only[zIR])
 have h1:=zq0 l v hl;have h2:=zwU l v;simp -dsimp only[go_sem,seval,h1,h2]
theorem zow (l:List Entry) (e:Entry) (hl:l.length<2^40) (he:e.cells.length<2^40) (hc: ∀o∈l,o.cells.length<2^40):
 Den Γ G 201 [.t (.sl (l.map Entry.enc)),.agg [.t (ints e.cells),.t (ints e.values)]]=some (vb (zcw l e)):=by
 (refine zag Γ201 rfl ?_;dsimp only[zIS])
 simp -dsimp only[go_sem,seval];refine zaT 268433744 l.length (fun i f=>(f 11).v=vi i/\zcw l e=(l.drop i).any fun o=>zj0 o e) rfl rfl ⟨by simp -dsimp only[go_sem,seval],rfl⟩ ?_;rintro i f u kk bb hi ⟨h11,A9⟩;have hw:=zan i (by omega);simp -dsimp only[go_sem,seval,h11];refine zac (fun h=> ?_) (fun h=> ?_)<;>(try rw[h])<;>(try simp only[zah]at h)<;>(try simp -dsimp only[go_sem,seval,h11])
 ·obtain⟨y,hy,Eq⟩:=zai ‹i<l.length›;have Hs:=hc y Eq;simp -dsimp only[go_sem,seval,h11,hy,Entry.enc];refine zaT 133955856 e.cells.length (fun j f'=>(f' 18).v=vi j/\(e.cells.take j).any (fun n=>y.cells.contains n)=false) rfl rfl ⟨by simp -dsimp only[go_sem,seval],by simp⟩ ?_;rintro j f' u' kk' bb' hj ⟨Ep,Be⟩;have Aw:=zan j (by omega);simp -dsimp only[go_sem,seval,Ep];refine zac (fun h=> ?_) (fun h=> ?_)<;>(try rw[h])<;>(try simp only[zah]at h)<;>(try simp -dsimp only[go_sem,seval,Ep,h11])
  ·obtain⟨n,hn,GE⟩:=zai ‹j<e.cells.length›;have E0:=zff y.cells n (by omega);simp -dsimp only[go_sem,seval,Ep,h11,hn,E0];refine zac (fun h=> ?_) (fun h=> ?_)<;>(try rw[h])<;>(try simp only[zah]at h)<;>(try simp -dsimp only[go_sem,seval,Ep,h11])
   ·rw[A9,zlY hy (by rw[zj0,List.any_eq_true];exact⟨n,GE,by simpa using h⟩)]
   ·refine⟨by omega,by simp -dsimp only[go_sem,seval,Aw],?_⟩;rw[zaf hn,List.any_append,Be];simpa using h
  ·have:j=e.cells.length:=by omega
   subst this;refine⟨by omega,by simp -dsimp only[go_sem,seval,hw],?_⟩;rw[A9,zlZ hy (by rw[List.take_length]at Be;exact Be)]
 ·have:i=l.length:=by omega
  subst this;rw[A9,zoz]
def zB1 (h:Nat->Option O) (x:Nat) (v:V) (rows:List (List V)):Prop:=
 (v= .t (.sl [])/\rows=[])\/ ∃k,v= .ms k 0 rows.length/\k<x/\h k=some (.rows 1 rows false)
theorem zoa (l:List Int):zd2 (zae l)=some l:=by
 induction l with
 | nil=>rfl
 | cons n l ih=>
   show(zd2 (zae l)).map (n:: ·)=_;rw[ih];rfl
theorem znX (l:List Int):za9 l=zae l:=by simp[za9,zae]
theorem zni {h:Nat->Option O} {key:Nat} {l:List Int} {K:V->List (Nat×O)->Prop} {w:WK K} (hl:l.length<2^40)
 (hK: ∀v hp,zB1 (At h hp) (key+1) v (zae l)->(∀j,j≠key->At h hp j=h j)->(∀j,j≠key->zbg v j)->(Rg.valOf v=some v/\V.cells v=some [v])->K v hp):zyL (Γ:=Γ) (G:=G) false h key 198 [.t (ints l)] K w:=by
 refine⟨rfl,rfl,[.t (ints l)],rfl,?_⟩
 cases l with
 | nil=>
   refine⟨.t (.sl []),fun _=>none,0,zf6 Γ198 rfl rfl rfl,{ val:=.t (.sl []) },rfl,hK _ _ (.inl ⟨rfl,rfl⟩) (fun j _=>by rw[zaA]) (fun j _ i n h=>by cases h) ⟨rfl,rfl⟩⟩
 | cons a l=>
   have hd:zd3 .cloneI [.t (ints (a::l))] (fun _=>none) 0=some (.ms 0 0 (a::l).length,upd (fun _=>none) 0 (some (.rows 1 (za9 (a::l)) false)),1):=by
    show((zd2 (zae (a::l))).bind fun zs=>if zs.length<1099511627776 then some (V.ms 0 0 zs.length,upd (fun _=>none) 0 (some (O.rows 1 (za9 zs) false)),0+1)else none)=_;rw[zoa,zD,if_pos hl]
   rw[znX]at hd;have Aa:(zae (a::l)).all (fun row=>row.all V.isTr)=true:=by simp[zae,V.isTr]
   refine⟨_,_,_,zf6 Γ198 rfl rfl hd,{ val:=.ms key 0 (zae (a::l)).length,hp:=[(key,.rows 1 (zae (a::l)) false)] },?_,hK _ _ (.inr ⟨key,rfl,by omega,by simp[zaC,zaA,zaa]⟩) (fun j hj=>by simp[zaC,zaA,zaa,hj]) (fun j hj=>za3 (by omega) _ _) ⟨rfl,rfl⟩⟩;simp only[zqm,zaz];rw[if_pos ⟨trivial,by rw[zab],Aa⟩,zab]
theorem zB1.reify {h:Nat->Option O} {x:Nat} {v:V} {l:List Int} (o:zB1 h x v (zae l)):Rg.reify h v=some (.t (ints l)):=by
 rcases o with⟨rfl,he⟩ | ⟨k,rfl,_,hh⟩
 ·have:l=[]:=by
   have:=congrArg List.length he;rw[zab]at this;exact List.eq_nil_of_length_eq_zero this
  subst this;rfl
 ·have:toT h 1000 (.ms k 0 (zae l).length)=some (.sl (l.map fun n=>[ti n])):=zcc (h:=h) (x:=k+1) (es:=l.map fun n=>[ti n]) (.inr ⟨k,rfl,by omega,hh⟩) (zbP _);simp only[Rg.reify,toT1,this,Option.map_some]
def zig (m:List Int) (e:Entry) (i:Nat):List Int:=((e.cells.zip e.values).take i).foldl (fun m q=>m.set q.1.toNat q.2) m
theorem zo8 (m:List Int) (e:Entry) (i:Nat):(zig m e i).length=m.length:=zdM _ m
theorem zmC {m:List Int} {e:Entry} {i:Nat} {c v:Int} (hc:e.cells[i]? =some c) (hv:e.values[i]? =some v):zig m e (i+1)=(zig m e i).set c.toNat v:=by
 have hz:(e.cells.zip e.values)[i]? =some (c,v):=by rw[List.getElem?_zip_eq_some];exact⟨hc,hv⟩
 unfold zig;rw[zaf hz,List.foldl_append];rfl
theorem zo9 {m:List Int} {e:Entry} (hl:e.values.length=e.cells.length):zig m e e.cells.length=ziq m e:=by
 unfold zig ziq;rw[List.take_of_length_le (by rw[List.length_zip];omega)]
theorem zp0 (m:List Int) (e:Entry) (hl:e.values.length=e.cells.length) (hs:e.cells.length<2^40) (hc: ∀n∈e.cells,0<=n/\n.toNat<m.length) (H:Nat->Option O) (nx k:Nat) (hk:H k=some (.rows 1 (zae m) false)):
 ∃r h' n',DenR Γ G 199 [.ms k 0 m.length,.agg [.t (ints e.cells),.t (ints e.values)]] H nx=some (r,h',n')/\(r= .tup []/\h' k=some (.rows 1 (zae (ziq m e)) false)/\(∀j,j≠k->h' j=H j)/\nx<=n'):=by
 (refine zay Γ199 rfl ?_;dsimp only[zIt])
 simp -dsimp only[go_sem,seval];refine zaq 8388144 e.cells.length (fun i f h x=>(f 9).v=vi i/\h k=some (.rows 1 (zae (zig m e i)) false)/\(∀j,j≠k->h j=H j)/\nx<=x) rfl ⟨by simp -dsimp only[go_sem,seval],by simp -dsimp only[go_sem,seval,hk,zig,List.take_zero,List.foldl_nil],fun j _=>rfl,by simp -dsimp only[go_sem,seval];omega⟩ ?_;rintro i f u h x bs hi ⟨h9,hh,hj,hx⟩;have hw:=zan i (by omega);simp -dsimp only[go_sem,seval,h9];refine zac (fun h=> ?_) (fun h=> ?_)<;>(try rw[h])<;>(try simp only[zah]at h)<;>(try simp -dsimp only[go_sem,seval,h9])
 ·obtain⟨c,Fs,BI⟩:=zai ‹i<e.cells.length›;obtain⟨v,hv,_⟩:=zai (show i<e.values.length by omega);obtain⟨c0,c1⟩:=hc c BI;have A7:=zmC (m:=m) Fs hv;have Ac:=zo8 m e i;have B5:=zbn (l:=zig m e i) (i:=c.toNat) (by omega);have AE:=zaI (zig m e i) c.toNat v;have c2:c<(m.length:Int):=by omega
  simp -dsimp only[go_sem,seval,h9,Fs,hv,hh,c0,c2,B5];refine⟨by omega,by simp -dsimp only[go_sem,seval,hw],?_,?_,by simp -dsimp only[go_sem,seval];omega⟩
  ·rw[A7];simp -dsimp only[go_sem,seval,AE]
  ·intro j Lv;simp -dsimp only[go_sem,seval,Lv,hj]
 ·have:i=e.cells.length:=by omega
  subst this;rw[zo9 hl]at hh;refine⟨rfl,hh,hj,by simp -dsimp only[go_sem,seval];omega⟩
theorem zoH (p:Prog) (hf:zak p=true) (c:Config) (hc:IsB p c) (t:Nat) (ht:t<p.threads.length):Den Γ G 188 [(.agg [.t (ints (c).mem),.t (ints (c).at_),.t (.sl ((c).buf.map (fun b=>[.sl (b.map Entry.enc)])))]),vi t]=some (.t (ints (zaw c t))):=by
 obtain⟨⟨m1,m2,m3,m4⟩,_⟩:=zal (zam hf).1;have l1:=hc.lm;have l3:=hc.lb;have Ag:=zb0 (c:=c) (t:=t) (by omega);obtain⟨b1,b2,_⟩:=hc.buf t _ Ag
 (refine zag Γ188 rfl ?_;dsimp only[zIZ])
 simp -dsimp only[go_sem,seval];refine zni (by omega) ?_;rintro v hp ho M0 HP ⟨AX,_⟩;simp -dsimp only[go_sem,seval,Ag,AX];rcases ho with⟨rfl,he⟩ | ⟨k,rfl,hk,hh⟩
 ·have hm:c.mem=[]:=by
   have:=congrArg List.length he;rw[zab]at this;exact List.eq_nil_of_length_eq_zero this
  have hb:za1 c t=[]:=by
   cases Om:za1 c t with
   | nil=>rfl
   | cons e r=>
     have hp:=b2 e (by rw[Om];exact List.mem_cons_self);have:=zcG hp (ziv hp);have hl:p.cells.length=0:=by rw[<- l1,hm];rfl
     omega
  have KB:zaw c t=[]:=by rw[zaw,hb,hm];rfl
  refine zaq 33423488 (za1 c t).length (fun i f h x=>(f 17).v=vi i) rfl (by simp -dsimp only[go_sem,seval]) ?_;rintro i f u h x bs hi JZ;simp -dsimp only[go_sem,seval,JZ];refine zac (fun h=> ?_) (fun h=> ?_)<;>(try rw[h])<;>(try simp only[zah]at h)<;>(try simp -dsimp only[go_sem,seval,JZ])
  ·have:(za1 c t).length=0:=by rw[hb];rfl
   omega
  ·rw[KB];rfl
 ·rw[zab]at *;refine zaq 33423488 (za1 c t).length (fun i f h x=>(f 17).v=vi i/\h k=some (.rows 1 (zae (((za1 c t).take i).foldl ziq c.mem)) false)) rfl ⟨by simp -dsimp only[go_sem,seval],by simp -dsimp only[go_sem,seval,hh,List.take_zero,List.foldl_nil]⟩ ?_;rintro i f u H2 x bs hi ⟨JZ,NP⟩;have hw:=zan i (by omega);simp -dsimp only[go_sem,seval,JZ];refine zac (fun h=> ?_) (fun h=> ?_)<;>(try rw[h])<;>(try simp only[zah]at h)<;>(try simp -dsimp only[go_sem,seval,JZ])
  ·obtain⟨e,he,Cn⟩:=zai ‹i<(za1 c t).length›;have BH:=b2 e Cn;have Ac:(((za1 c t).take i).foldl ziq c.mem).length=c.mem.length:=zdn _ _;simp -dsimp only[go_sem,seval,JZ,he,Entry.enc];refine zas (by rw[<- Ac];exact zp0 _ e BH.len (by have:=zbd BH;omega) (fun n hn=>by have:=zcG BH hn;omega) _ _ k (by simp -dsimp only[go_sem,seval,NP])) ?_;rintro r h' n' ⟨rfl,g1,g2,g3⟩;simp -dsimp only[go_sem,seval,JZ];refine⟨by omega,by simp -dsimp only[go_sem,seval,hw],?_⟩;rw[zaf he,List.foldl_append];simp -dsimp only[go_sem,seval,g1,List.foldl_cons,List.foldl_nil]
  ·have:i=(za1 c t).length:=by omega
   subst this;rw[List.take_length]at NP;have Cl:H2 k=some (.rows 1 (zae (zaw c t)) false):=NP;have I3:(zae (zaw c t)).length=c.mem.length:=by rw[zab,ztP]
   have Dv:List.take c.mem.length (zae (zaw c t))=zae (zaw c t):=za5 I3.symm;simp -dsimp only[go_sem,seval,Cl,I3,Dv,Nat.le_refl,zbw]
end Rg
end
section
-- FULL
namespace Rg
open Go
def stV (p:Prog) (k:Int) (c:Config):V:=.agg [.t (ints c.mem),.t (ints c.at_),.t (.sl (c.buf.map fun b=>[.sl (b.map Entry.enc)])),.t (.sl (p.cells.map Cell.enc)),.t (.sl (p.modules.map Contract.enc)),.t (.sl (p.locks.map Lock.enc)),.t (.sl (p.threads.map Thread.enc)),vi k]
theorem zh2 (p:Prog) (hf:zak p=true) (k:Int) (c:Config) (hc:IsB p c) (t:Nat) (x:Thread) (hx:p.threads[t]? =some x) (i:Nat) (s:Step) (hs:x.steps[i]? =some s):
 Den Γ G 189 [stV p k c,vi t,vi i,.t (ints (zaw c t))]=some (vb (zaN p c t s)):=by
 have l1:=hc.lm;have l2:=hc.la;have l3:=hc.lb;have Bm:=zb7 hf hx hs;have Dd:t<p.threads.length:=(zH.1 hx).1;obtain⟨a,ha,_⟩:=zai (show t<c.at_.length by omega);have Gd:atI c.at_ t=a:=zdF (by simpa using ha);have Ak:=zd4 s.guard (zaw c t) (zaw c t);have Ag:=zb0 (c:=c) (t:=t) (by omega);unfold stV
 (refine zag Γ189 rfl ?_;dsimp only[zIY])
 by_cases h1:a=s.fr
 ·by_cases h2:s.guard.eval (zaw c t) (zaw c t)=1
  ·have hE:zaN p c t s=(if s.kind=3 then(if s.release then decide ((za1 c t).length=0)else decide ((za1 c t).length<3))
    else if s.kind=4\/s.kind=5 then decide ((za1 c t).length=0)
    else if s.kind=6 then decide ((za1 c t).length=0)&&decide (atI c.at_ s.target= -1)
    else if s.kind=7 then decide ((za1 c t).length=0)&&(decide (atI c.at_ s.target=zc1 p s.target-1)&&decide ((za1 c s.target.toNat).length=0))
    else true):=by
    simp[zaN,Gd,h1,h2]
   rw[h2]at Ak;rw[hE];have e0:((za1 c t).length:Int)=0<->(za1 c t).length=0:=by omega
   have e3:((za1 c t).length:Int)<3<->(za1 c t).length<3:=by omega
   by_cases hk:s.kind=6\/s.kind=7
   ·obtain⟨hr,_⟩:=Bm.tgt hk;simp only[inR,decide_eq_true_eq]at hr;obtain⟨b,hb,_⟩:=zai (show s.target.toNat<c.at_.length by omega);obtain⟨y,hy,_⟩:=zai (show s.target.toNat<p.threads.length by omega);have Ml:=zcQ hf hy;have hw:IntKind.i64.wrap (y.points-1)=y.points-1:=zaH (by omega);have Bf:=zdF hb;have G6:zc1 p s.target=y.points:=by simp[zc1,hy]
    have CV:=zb0 (c:=c) (t:=s.target.toNat) (by omega);have e4:((za1 c s.target.toNat).length:Int)=0<->(za1 c s.target.toNat).length=0:=by omega
    by_cases hn:(za1 c t).length=0
    ·rcases hk with hk | hk
     ·simp -dsimp [go_sem,hx,hs,ha,h1,Ak,Ag,hn,hk,hr.1,hb,Bf]
     ·by_cases EV:b=y.points-1
      ·simp -dsimp [go_sem,hx,hs,ha,h1,Ak,Ag,hn,hk,hr.1,hb,hy,hw,Bf,G6,CV,EV,e4]
      ·simp -dsimp [go_sem,hx,hs,ha,h1,Ak,Ag,hn,hk,hr.1,hb,hy,hw,Bf,G6,CV,EV,e4]
    ·rcases hk with hk | hk
     ·simp -dsimp [go_sem,hx,hs,ha,h1,Ak,Ag,hn,hk,hr.1,hb,Bf,e0]
     ·simp -dsimp [go_sem,hx,hs,ha,h1,Ak,Ag,hn,hk,hr.1,hb,hy,hw,Bf,G6,CV,e0]
   ·have k6: ¬s.kind=6:=by omega
    have k7: ¬s.kind=7:=by omega
    by_cases B4:s.kind=3
    ·cases Bb:s.release
     ·simp -dsimp [go_sem,hx,hs,ha,h1,Ak,Ag,B4,Bb,e3]
     ·simp -dsimp [go_sem,hx,hs,ha,h1,Ak,Ag,B4,Bb,e0]
    ·by_cases GN:s.kind=4
     ·simp -dsimp [go_sem,hx,hs,ha,h1,Ak,Ag,GN,e0]
     ·by_cases Ko:s.kind=5
      ·simp -dsimp [go_sem,hx,hs,ha,h1,Ak,Ag,Ko,e0]
      ·simp -dsimp [go_sem,hx,hs,ha,h1,Ak,Ag,k6,k7,B4,GN,Ko]
  ·have hE:zaN p c t s=false:=by simp[zaN,h2]
   rw[hE];simp -dsimp [go_sem,hx,hs,ha,h1,Ak,h2]
 ·have hE:zaN p c t s=false:=by simp[zaN,Gd,h1]
  rw[hE];simp -dsimp [go_sem,hx,hs,ha,h1]
def zoD (h:Nat->Option O) (lo hi:Nat) (v:V) (rows:List (List V)):Prop:=
 (v= .t (.sl [])/\rows=[])\/ ∃k,v= .ms k 0 rows.length/\lo<=k/\k<hi/\h k=some (.rows 1 rows false)
theorem zoD.keep {h h':Nat->Option O} {lo hi:Nat} {v:V} {rows:List (List V)} (o:zoD h lo hi v rows) (hh: ∀k,lo<=k->k<hi->h' k=h k):zoD h' lo hi v rows:=by
 rcases o with o | ⟨k,h1,h2,h3,h4⟩
 ·exact .inl o
 ·exact .inr ⟨k,h1,h2,h3,by rw[hh k h2 h3];exact h4⟩
theorem zoD.val {h:Nat->Option O} {lo hi:Nat} {v:V} {rows:List (List V)} (o:zoD h lo hi v rows):Rg.valOf v=some v/\V.cells v=some [v]:=by
 rcases o with⟨rfl,_⟩ | ⟨k,rfl,_⟩<;>exact⟨rfl,rfl⟩
theorem zoD.tree {h:Nat->Option O} {lo hi:Nat} {v:V} {l:List Int} (o:zoD h lo hi v (zae l)) (d:Nat):toT h (d+1) v=some (ints l):=by
 rcases o with⟨rfl,he⟩ | ⟨k,rfl,_,_,hh⟩
 ·have:l=[]:=by
   have:=congrArg List.length he;rw[zab]at this;exact List.eq_nil_of_length_eq_zero this
  subst this;rfl
 ·have Dv:List.take (zae l).length (zae l)=zae l:=za5 rfl;simp only[toT,hh,rd,Nat.zero_add,Nat.le_refl,if_true,List.drop_zero,Dv,zC,zD,zbw]
def zv9 (h:Nat->Option O) (lo hi:Nat) (r:List V) (e:Entry):Prop:=
 ∃kc kv,r=[.ms kc 0 e.cells.length,.ms kv 0 e.values.length]/\lo<=kc/\kc<hi/\lo<=kv/\kv<hi/\h kc=some (.rows 1 (zae e.cells) false)/\h kv=some (.rows 1 (zae e.values) false)
theorem zv9.keep {h h':Nat->Option O} {lo hi lo' AK:Nat} {r:List V} {e:Entry} (o:zv9 h lo hi r e) (h1:lo'<=lo) (h2:hi<=AK) (hh: ∀k,lo<=k->k<hi->(∀rs fz,h k≠some (.rows 2 rs fz))->h' k=h k):zv9 h' lo' AK r e:=by
 obtain⟨kc,kv,e1,a1,a2,a3,a4,a5,a6⟩:=o;exact⟨kc,kv,e1,by omega,by omega,by omega,by omega,by rw[hh kc a1 a2 (by rw[a5];simp)];exact a5,by rw[hh kv a3 a4 (by rw[a6];simp)];exact a6⟩
theorem zv9.tree {h:Nat->Option O} {lo hi:Nat} {r:List V} {e:Entry} (o:zv9 h lo hi r e) (d:Nat):r.mapM (toT h (d+1))=some (Entry.enc e):=by
 obtain⟨kc,kv,rfl,a1,a2,a3,a4,a5,a6⟩:=o;have h1:=zoD.tree (h:=h) (lo:=lo) (hi:=hi) (v:=.ms kc 0 e.cells.length) (l:=e.cells) (.inr ⟨kc,by rw[zab],a1,a2,a5⟩) d;have h2:=zoD.tree (h:=h) (lo:=lo) (hi:=hi) (v:=.ms kv 0 e.values.length) (l:=e.values) (.inr ⟨kv,by rw[zab],a3,a4,a6⟩) d;rw[List.mapM_cons,h1,List.mapM_cons,h2,List.mapM_nil];rfl
def znv (h:Nat->Option O) (lo hi:Nat) (v:V) (b:List Entry):Prop:=
 ∃rows,((v= .t .nils/\rows=[])\/ ∃k,v= .ms k 0 rows.length/\lo<=k/\k<hi/\h k=some (.rows 2 rows false))/\rows.length=b.length/\(∀r∈rows,r.length=2)/\
  ∀(j:Nat) (e:Entry),b[j]? =some e-> ∃r,rows[j]? =some r/\zv9 h lo hi r e
theorem znv.keep {h h':Nat->Option O} {lo hi AK:Nat} {v:V} {b:List Entry} (o:znv h lo hi v b) (h2:hi<=AK) (hh: ∀k,lo<=k->k<hi->h' k=h k):znv h' lo AK v b:=by
 obtain⟨rows,h1,h3,h4,h5⟩:=o;refine⟨rows,?_,h3,h4,fun j e he=> ?_⟩
 ·rcases h1 with h1 | ⟨k,a1,a2,a3,a4⟩
  ·exact .inl h1
  ·exact .inr ⟨k,a1,a2,by omega,by rw[hh k a2 a3];exact a4⟩
 ·obtain⟨r,hr,hE⟩:=h5 j e he;exact⟨r,hr,hE.keep (Nat.le_refl _) h2 fun k k1 k2 _=>hh k k1 k2⟩
theorem zhr {h:Nat->Option O} {d:Nat}: ∀(rows:List (List V)) (b:List Entry),rows.length=b.length->(∀(j:Nat) (e:Entry),b[j]? =some e-> ∃r,rows[j]? =some r/\r.mapM (toT h d)=some (Entry.enc e))->
 rows.mapM (fun row=>row.mapM (toT h d))=some (b.map Entry.enc)
 | [],[],_,_=>rfl
 | [],_::_,hl,_=>by simp at hl
 | _::_,[],hl,_=>by simp at hl
 | r::rows,e::b,hl,hj=>by
   have ih:=zhr rows b (by simpa using hl) fun j e he=>hj (j+1) e he
   obtain⟨r',hr,ht⟩:=hj 0 e rfl;simp only[List.getElem?_cons_zero,zA]at hr;subst hr;rw[List.mapM_cons,ht,ih];rfl
theorem znv.tree {h:Nat->Option O} {lo hi:Nat} {v:V} {b:List Entry} (o:znv h lo hi v b) (d:Nat):toT h (d+2) v=some (.sl (b.map Entry.enc)):=by
 obtain⟨rows,h1,h3,h4,h5⟩:=o;rcases h1 with⟨rfl,rfl⟩ | ⟨k,rfl,a2,a3,a4⟩
 ·have:b=[]:=List.eq_nil_of_length_eq_zero (by simpa using h3.symm);subst this;rfl
 ·have Dv:List.take rows.length rows=rows:=za5 rfl
  have hr:=zhr (h:=h) (d:=d+1) rows b h3 fun j e he=>by
   obtain⟨r,hr,hE⟩:=h5 j e he;exact⟨r,hr,hE.tree d⟩
  simp only[toT,a4,rd,Nat.zero_add,Nat.le_refl,if_true,List.drop_zero,Dv,zC,zD,hr]
theorem znv.val {h:Nat->Option O} {lo hi:Nat} {v:V} {b:List Entry} (o:znv h lo hi v b):Rg.valOf v=some v/\V.cells v=some [v]:=by
 obtain⟨rows,⟨rfl,_⟩ | ⟨k,rfl,_⟩,_⟩:=o<;>exact⟨rfl,rfl⟩
structure BufsV (h:Nat->Option O) (bd:Nat->Nat) (vs:List (List V)) (bs:List (List Entry)):Prop where
 len:vs.length=bs.length
 mono: ∀q,q<bs.length->bd q<=bd (q+1)
 at_: ∀(q:Nat) (b:List Entry),bs[q]? =some b-> ∃v,vs[q]? =some [v]/\znv h (bd q) (bd (q+1)) v b
theorem BufsV.le {h:Nat->Option O} {bd:Nat->Nat} {vs:List (List V)} {bs:List (List Entry)} (o:BufsV h bd vs bs) {q r:Nat} (hq:q<=r) (hr:r<=bs.length):bd q<=bd r:=by
 induction r with
 | zero=>have:q=0:=by omega
         subst this;exact Nat.le_refl _
 | succ r ih=>
   rcases Nat.lt_or_ge q (r+1)with h | h
   ·exact Nat.le_trans (ih (by omega) (by omega)) (o.mono r (by omega))
   ·have:q=r+1:=by omega
    subst this;exact Nat.le_refl _
theorem BufsV.snoc {h h':Nat->Option O} {bd:Nat->Nat} {vs:List (List V)} {bs:List (List Entry)} (o:BufsV h bd vs bs) {x:Nat} {v:V} {b:List Entry} (hx:bd bs.length<=x)
 (hh: ∀k,bd 0<=k->k<bd bs.length->h' k=h k) (hv:znv h' (bd bs.length) x v b):BufsV h' (fun q=>if q<=bs.length then bd q else x) (vs++[[v]]) (bs++[b]):=by
 refine⟨by simp[o.len],fun q hq=> ?_,fun q b' hb=> ?_⟩
 ·rw[zM,List.length_singleton]at hq;rcases Nat.lt_or_ge q bs.length with h1 | h1
  ·rw[if_pos (by omega),if_pos (by omega)];exact o.mono q h1
  ·have:q=bs.length:=by omega
   subst this;rw[if_pos (Nat.le_refl _),if_neg (by omega)];exact hx
 ·rcases Nat.lt_or_ge q bs.length with h1 | h1
  ·rw[List.getElem?_append_left h1]at hb;obtain⟨u,hu,hB⟩:=o.at_ q b' hb;refine⟨u,by rw[List.getElem?_append_left (by rw[o.len];exact h1)];exact hu,?_⟩;rw[if_pos (by omega),if_pos (by omega)];refine hB.keep (Nat.le_refl _) fun k k1 k2=>hh k ?_ ?_
   ·have:=o.le (Nat.zero_le q) (by omega);omega
   ·have:=o.le (show q+1<=bs.length by omega) (Nat.le_refl _);omega
  ·have hq:q=bs.length:=by
    have:=(zH.1 hb).1;rw[zM,List.length_singleton]at this;omega
   subst hq;rw[List.getElem?_append_right (Nat.le_refl _),Nat.sub_self]at hb;simp only[List.getElem?_cons_zero,zA]at hb;subst hb;refine⟨v,by rw[List.getElem?_append_right (by rw[o.len];exact Nat.le_refl _),o.len,Nat.sub_self];rfl,?_⟩;rw[if_pos (Nat.le_refl _),if_neg (by omega)];exact hv
def zFj (h:Nat->Option O) (x:Nat) (vM vA:V) (kB:Nat) (c:Config):Prop:=
 ∃x1 x2 bd vs,zoD h 0 x1 vM (zae c.mem)/\zoD h x1 x2 vA (zae c.at_)/\x1<=x2/\x2<=kB/\kB<bd 0/\h kB=some (.rows 1 vs false)/\BufsV h bd vs c.buf/\bd c.buf.length<=x
theorem zhD (p:Prog) (hf:zak p=true) (c:Config) (hc:IsB p c) (nx:Nat):
 ∃r h' n',DenR Γ G 202 [(.agg [.t (ints (c).mem),.t (ints (c).at_),.t (.sl ((c).buf.map (fun b=>[.sl (b.map Entry.enc)])))])] (fun _=>none) nx=some (r,h',n')/\ ∃vM vA kB,r= .agg [vM,vA,.ms kB 0 c.buf.length]/\zFj h' n' vM vA kB c:=by
 obtain⟨⟨m1,m2,m3,m4⟩,_⟩:=zal (zam hf).1;have l1:=hc.lm;have l2:=hc.la;have l3:=hc.lb;have e3:(c.buf.length:Int)<=4294967296:=by omega
 (refine zay Γ202 rfl ?_;dsimp only[zAD])
 simp -dsimp only[go_sem,seval];refine zni (by omega) ?_;rintro vM DN KZ DC H6 ⟨AX,Dr⟩;simp -dsimp only[go_sem,seval,AX];refine zni (by omega) ?_;rintro vA D0 KY Cl Cv ⟨DT,CG⟩;unfold V.cells at Dr CG;simp -dsimp only[go_sem,seval,AX,Dr,DT,CG,e3,Int.le_refl]
 generalize Rh:At (At (fun _=>none) DN) D0=H0 at *
 have n1:c.buf.length=c.buf.length:=rfl;refine zaq 9007199250546864 c.buf.length (fun i f h x=>(f 22).v=vi i/\ ∃bd vs,h (nx+2+9)=some (.rows 1 (vs++List.replicate (c.buf.length-i) [.t .nils]) false)/\BufsV h bd vs (c.buf.take i)/\bd 0=nx+2+10/\bd i<=x/\(∀k,k<nx+2+9->h k=H0 k)) rfl ?_ ?_
 ·refine⟨by simp -dsimp only[go_sem,seval],fun _=>nx+2+10,[],by simp -dsimp only[go_sem,seval,List.nil_append,Nat.sub_zero],⟨rfl,fun q hq=>Nat.le_refl _,fun q b hb=>by simp at hb⟩,rfl,by simp -dsimp only[go_sem,seval];omega,?_⟩;intro k hk;have:k≠nx+2+9:=by omega
  simp -dsimp only[go_sem,seval,this]
 rintro i f u Ho x bs hi ⟨DR,bd,vs,hB,Ay,Co,He,AG⟩;have hw:=zan i (by omega);simp -dsimp only[go_sem,seval,DR];refine zac (fun h=> ?_) (fun h=> ?_)<;>(try rw[h])<;>(try simp only[zah]at h)<;>(try simp -dsimp only[go_sem,seval,DR])
 ·obtain⟨b,hb,EW⟩:=zai ‹i<c.buf.length›;obtain⟨b1,b2,_⟩:=hc.buf i b hb;simp -dsimp only[go_sem,seval,DR,hb]
  have Ae:List.replicate (c.buf.length-i) [V.t T.nils]=[V.t T.nils]::List.replicate (c.buf.length-i-1) [V.t T.nils]:=by
   rw[<- List.replicate_succ];congr 1;omega
  have E6:vs.length=i:=by rw[Ay.len,List.length_take];omega
  have Do:nx+2+9<x:=by have:=Ay.le (q:=0) (r:=i) (by omega) (by rw[List.length_take];omega);omega
  refine zaq 4503599090499712 b.length (fun j f' h' x'=>(f' 29).v=vi j/\ ∃v,h' (nx+2+9)=some (.rows 1 (vs++[v]::List.replicate (c.buf.length-i-1) [.t .nils]) false)/\znv h' x x' v (b.take j)/\x<=x'/\(∀k,k<x->k≠nx+2+9->h' k=Ho k)) rfl ?_ ?_
  ·refine⟨by simp -dsimp only[go_sem,seval],.t .nils,by simp -dsimp only[go_sem,seval,hB,Ae],⟨[],.inl ⟨rfl,rfl⟩,by simp,by simp,by simp⟩,by simp -dsimp only[go_sem,seval];omega,fun k _ _=>rfl⟩
  rintro j f' u' Hi x' bs' hj ⟨Ik,v,EX,EU,PA,DD⟩;have Aw:=zan j (by omega);simp -dsimp only[go_sem,seval,Ik];refine zac (fun h=> ?_) (fun h=> ?_)<;>(try rw[h])<;>(try simp only[zah]at h)<;>(try simp -dsimp only[go_sem,seval,Ik,DR])
  ·obtain⟨e,he,Cn⟩:=zai ‹j<b.length›;have BH:=b2 e Cn;have BL:=zbd BH
   have B5:(vs++[v]::List.replicate (c.buf.length-i-1) [V.t T.nils])[i]? =some [v]:=by
    rw[List.getElem?_append_right (by omega),E6,Nat.sub_self];rfl
   obtain⟨Bs,Fc⟩:=EU.val;have C8:(i:Int)<(c.buf.length:Int):=by omega
   have Dq:(0:Int)<=(i:Int):=by omega
   simp -dsimp only[go_sem,seval,Ik,DR,he,Entry.enc,EX,B5,C8,Dq,Bs];refine zni (by omega) ?_;rintro vc EB Ny NQ Kv ⟨Bu,Bi⟩;simp -dsimp only[go_sem,seval,Bu];refine zni (by have:=BH.len;omega) ?_;rintro vv F5 HQ L7 LD ⟨Di,CL⟩;unfold V.cells at Bi CL;obtain⟨rows,B1,Bb,BC,Bh⟩:=EU
   have hG: ∀k,k<x'->updC (At (At Hi EB) F5) (x'+1+4+15) (some (O.rows 2 [[vc,vv]] false)) k=Hi k:=fun k hk=>by
    rw[zaa,if_neg (by omega),L7 k (by omega),NQ k (by omega)]
   have I1:zaF (updC (At (At Hi EB) F5) (x'+1+4+15) (some (O.rows 2 [[vc,vv]] false))) (x'+1+4+16) v 2 rows:=by
    rcases B1 with h | ⟨k,h1,h2,h3,h4⟩
    ·exact .inl h
    ·exact .inr ⟨k,h1,by omega,by rw[hG k h3];exact h4⟩
   have AD:=I1.rowsS;simp -dsimp only[go_sem,seval,Bs,Bu,Bi,Di,CL,AD];have Aa:(rows.all fun r=>decide (r.length=2))=true:=by simpa using BC
   refine zav I1 (Nat.le_refl _) (by have:=Ay.len;rw[Bb,List.length_take];omega) (by decide) rfl Aa ?_;intro v2 hp hO Bp Aq;rcases hO with⟨_,CY⟩ | ⟨k2,rfl,AF,C4⟩
   ·simp at CY
   have FA:x'+1+4+16<=k2:=by
    rcases Nat.lt_or_ge k2 (x'+1+4+16)with h1 | h1
    ·exact absurd rfl (Bp k2 h1 0 _)
    ·exact h1
   have AM: ∀k,(k<x\/x'<=k\/ ∀rs fz,Hi k≠some (O.rows 2 rs fz))->zbg v k:=by
    intro k hk;rcases B1 with⟨rfl,_⟩ | ⟨k',rfl,h2,h3,h4⟩
    ·intro i n h0;cases h0
    ·refine za3 ?_ _ _;rintro rfl;rcases hk with hk | hk | hk
     ·omega
     ·omega
     ·exact hk _ _ h4
   have A8: ∀k,k<x'->(k<x\/ ∀rs fz,Hi k≠some (O.rows 2 rs fz))->At (updC (At (At Hi EB) F5) (x'+1+4+15) (some (O.rows 2 [[vc,vv]] false))) hp k=Hi k:=by
    intro k hk Ah;rw[Aq k (by omega) (AM k (by rcases Ah with h | h;exact .inl h;exact .inr (.inr h))),hG k hk]
   have Ij:=A8 (nx+2+9) (by omega) (.inl (by omega));rw[EX]at Ij
   have E8:(vs++[v]::List.replicate (c.buf.length-i-1) [V.t T.nils]).set i [V.ms k2 0 (rows++[[vc,vv]]).length]=vs++[V.ms k2 0 (rows++[[vc,vv]]).length]::List.replicate (c.buf.length-i-1) [V.t T.nils]:=by
    rw[List.set_append_right _ _ (by omega),E6,Nat.sub_self];rfl
   simp -dsimp only[go_sem,seval,Ik,DR,Ij,B5,C8,Dq,E8];have CJ: ∀(o:Option O) k,k≠nx+2+9->updC (At (updC (At (At Hi EB) F5) (x'+1+4+15) (some (O.rows 2 [[vc,vv]] false))) hp) (nx+2+9) o k=At (updC (At (At Hi EB) F5) (x'+1+4+15) (some (O.rows 2 [[vc,vv]] false))) hp k:=fun o k hk=>by rw[zaa,if_neg hk]
   have Hb: ∀(o:Option O) x'',k2<x''->znv (updC (At (updC (At (At Hi EB) F5) (x'+1+4+15) (some (O.rows 2 [[vc,vv]] false))) hp) (nx+2+9) o) x x'' (.ms k2 0 (rows++[[vc,vv]]).length) (b.take (j+1)):=by
    intro o x'' IQ;refine⟨rows++[[vc,vv]],.inr ⟨k2,rfl,by omega,IQ,by rw[CJ _ _ (by omega)];exact C4⟩,by rw[zM,Bb,List.length_take,List.length_take];simp;omega,?_,?_⟩
    ·intro r hr;rcases List.mem_append.1 hr with hr | hr
     ·exact BC r hr
     ·rw[List.mem_singleton]at hr;rw[hr];rfl
    ·intro q e0 hq;rw[zaf he]at hq;have AN:(b.take j).length=j:=by rw[List.length_take];omega
     rcases Nat.lt_or_ge q j with h1 | h1
     ·rw[List.getElem?_append_left (by omega)]at hq;obtain⟨r,hr,hE⟩:=Bh q e0 hq;refine⟨r,by rw[List.getElem?_append_left (by rw[Bb];omega)];exact hr,hE.keep (Nat.le_refl _) (by omega) fun k a1 a2 a3=> ?_⟩;rw[CJ _ _ (by omega),A8 k a2 (.inr a3)]
     ·have Cc:q=j:=by
       have:=(zH.1 hq).1;rw[zM,AN,List.length_singleton]at this;omega
      subst Cc;rw[List.getElem?_append_right (by omega),AN,Nat.sub_self]at hq;simp only[List.getElem?_cons_zero,zA]at hq;subst hq;refine⟨[vc,vv],by rw[List.getElem?_append_right (by rw[Bb,AN];exact Nat.le_refl _),Bb,AN,Nat.sub_self];rfl,?_⟩;have NZ:zae e.cells≠[]:=fun h0=>BH.ne (List.eq_nil_of_length_eq_zero (by rw[<- zab,h0];rfl))
      have Ak:zae e.values≠[]:=fun h0=>BH.ne (List.eq_nil_of_length_eq_zero (by rw[<- BH.len,<- zab,h0];rfl))
      rcases Ny with⟨_,h0⟩ | ⟨kc,rfl,DO,J8⟩
      ·exact absurd h0 NZ
      rcases HQ with⟨_,h0⟩ | ⟨kv,rfl,Eh,J2⟩
      ·exact absurd h0 Ak
      have qc:kc=x'+1+4+10:=by
       rcases Nat.decEq kc (x'+1+4+10)with h1 | h1
       ·exact absurd rfl (Kv kc h1 0 _)
       ·exact h1
      have qv:kv=x'+1+4+13:=by
       rcases Nat.decEq kv (x'+1+4+13)with h1 | h1
       ·exact absurd rfl (LD kv h1 0 _)
       ·exact h1
      refine⟨kc,kv,by rw[zab,zab],by omega,by omega,by omega,by omega,?_,?_⟩
      ·rw[CJ _ _ (by omega),Aq kc (by omega) (AM kc (.inr (.inl (by omega)))),zaa,if_neg (by omega),L7 kc (by omega)];exact J8
      ·rw[CJ _ _ (by omega),Aq kv (by omega) (AM kv (.inr (.inl (by omega)))),zaa,if_neg (by omega)];exact J2
   refine⟨by omega,by simp -dsimp only[go_sem,seval,Aw],.ms k2 0 (rows++[[vc,vv]]).length,by simp -dsimp only[go_sem,seval],?_,by simp -dsimp only[go_sem,seval];omega,?_⟩
   ·simp -dsimp only[go_sem,seval];exact Hb _ _ (by omega)
   intro k hk Ls;simp -dsimp only[go_sem,seval,CJ _ k Ls];rw[A8 k (by omega) (.inl hk)];exact DD k hk Ls
  ·have:j=b.length:=by omega
   subst this;rw[List.take_length]at EU;have Dv:c.buf.take (i+1)=c.buf.take i++[b]:=zaf hb;have BX:(c.buf.take i).length=i:=by rw[List.length_take];omega
   have C6:=Ay.snoc (h':=Hi) (x:=x') (v:=v) (b:=b) (by rw[BX];omega) (fun k k1 k2=>by rw[BX]at k2;exact DD k (by omega) (by omega)) (by
    rw[BX];obtain⟨rows,B1,Bb,BC,Bh⟩:=EU;refine⟨rows,?_,Bb,BC,fun q e0 hq=> ?_⟩
    ·rcases B1 with h | ⟨k,h1,h2,h3,h4⟩
     ·exact .inl h
     ·exact .inr ⟨k,h1,by omega,h3,h4⟩
    ·obtain⟨r,hr,hE⟩:=Bh q e0 hq
     exact⟨r,hr,hE.keep He (Nat.le_refl _) fun _ _ _ _=>rfl⟩)
   rw[BX,<- Dv]at C6;refine⟨by omega,by simp -dsimp only[go_sem,seval,hw,DR],_,vs++[[v]],?_,C6,by rw[if_pos (Nat.zero_le _)];exact Co,by rw[if_neg (by omega)];simp -dsimp only[go_sem,seval];omega,?_⟩
   ·simp -dsimp only[go_sem,seval,EX];rw[zQ];rfl
   ·intro k hk;simp -dsimp only[go_sem,seval,DD k (by omega) (by omega)];exact AG k hk
 ·have Cq:i=c.buf.length:=by omega
  subst Cq;rw[Nat.sub_self,List.replicate_zero,List.append_nil]at hB;rw[List.take_length]at Ay
  have hM:zoD Ho 0 (nx+5) vM (zae c.mem):=by
   rcases KZ with h1 | ⟨k,h1,h2,h3⟩
   ·exact .inl h1
   ·exact .inr ⟨k,h1,by omega,by omega,by rw[AG k (by omega),Cl k (by omega)];exact h3⟩
  have hA:zoD Ho (nx+5) (nx+8) vA (zae c.at_):=by
   rcases KY with h1 | ⟨k,h1,h2,h3⟩
   ·exact .inl h1
   ·have hk:k=nx+2+5:=by
     rcases Nat.decEq k (nx+2+5)with h4 | h4
     ·subst h1;exact absurd rfl (Cv k h4 0 _)
     ·exact h4
    exact .inr ⟨k,h1,by omega,by omega,by rw[AG k (by omega)];exact h3⟩
  refine⟨vM,vA,nx+2+9,rfl,nx+5,nx+8,bd,vs,hM,hA,by omega,by omega,by omega,hB,Ay,by simp -dsimp only[go_sem,seval];omega⟩
end Rg
end
