/- Part of the proof of laws of relyguardlaw31. No condition. -/
import Derived.Test.YtcmeofagpechdaaGreatDoorPartAZ
import Derived.Test.YtcmeofagpechdaaGreatDoorPartAU
import Derived.Test.YtcmeofagpechdaaGreatDoorPartAV
set_option linter.unusedSimpArgs false
set_option linter.unusedVariables false
section
namespace Rg
open Go
theorem zl1 (k j:Nat):(1<<< k).testBit j=decide (k=j):=by rw[Nat.one_shiftLeft,Nat.testBit_two_pow]
theorem zcE {α:Type} (P:α->Bool) (k:α->Nat) (j:Nat): ∀(l:List α) (m:Nat),(l.foldl (fun m q=>if P q then m ||| 1<<< k q else m) m).testBit j=(m.testBit j||l.any fun q=>P q&&decide (k q=j))
 | [],m=>by simp
 | x::l,m=>by
   rw[List.foldl_cons,zcE P k j l,List.any_cons];cases h:P x
   ·simp
   ·rw[if_pos rfl,Nat.testBit_or,zl1];simp[Bool.or_assoc]
theorem za8 {m:Nat}:m≠0<-> ∃j,m.testBit j=true:=by
 constructor
 ·intro h;exact Nat.exists_testBit_of_ne_zero h
 ·rintro⟨j,hj⟩ rfl;simp at hj
theorem zeI {a b:Nat} {r:List Nat}:meetsM a b r=true<-> ∃i j,i<64/\a.testBit i=true/\(r.getD i 0).testBit j=true/\b.testBit j=true:=by
 simp only[meetsM,List.any_eq_true,List.mem_range,zF,bne_iff_ne];constructor
 ·rintro⟨i,hi,ha,hb⟩;obtain⟨j,hj⟩:=za8.1 hb;rw[Nat.testBit_and,zF]at hj;exact⟨i,j,hi,ha,hj.1,hj.2⟩
 ·rintro⟨i,j,hi,ha,h1,h2⟩;exact⟨i,hi,ha,za8.2 ⟨j,by rw[Nat.testBit_and,h1,h2];rfl⟩⟩
def zmc (a b:Nat):Prop:= ∀j,a.testBit j=true->b.testBit j=true
theorem zmc.ne {a b:Nat} (h:zmc a b) (ha:a≠0):b≠0:=by
 obtain⟨j,hj⟩:=za8.1 ha;exact za8.2 ⟨j,h j hj⟩
theorem zdR {a a' b b':Nat} {r r':List Nat} (ha:zmc a a') (hb:zmc b b') (hr: ∀i,a.testBit i=true->zmc (r.getD i 0) (r'.getD i 0)) (h:meetsM a b r=true):meetsM a' b' r'=true:=by
 obtain⟨i,j,hi,h1,h2,h3⟩:=zeI.1 h;exact zeI.2 ⟨i,j,hi,ha i h1,hr i h1 j h2,hb j h3⟩
namespace Gr
variable {g:Gr}
theorem maskF_bit (f:Acc->Bool) (c i j:Nat):(g.maskF f c i).testBit j=true<-> ∃q∈(g.all.zip g.cls).take i,f q.1=true/\q.2=c/\q.1.st=j:=by
 rw[maskF,zcE (fun q:Acc×Nat=>f q.1&&decide (q.2=c)) (fun q=>q.1.st)];simp only[Nat.zero_testBit,Bool.false_or,List.any_eq_true,zF,decide_eq_true_eq];constructor
 ·rintro⟨q,h1,⟨h2,h3⟩,h4⟩;exact⟨q,h1,h2,h3,h4⟩
 ·rintro⟨q,h1,h2,h3,h4⟩;exact⟨q,h1,⟨h2,h3⟩,h4⟩
theorem mem_pairs {c d:Nat}:(c,d)∈g.pairs<->c<g.msk.length/\d<g.msk.length/\g.isPair c d=true:=by
 simp only[pairs,List.mem_flatMap,List.mem_range,List.mem_map,List.mem_filter,Prod.mk.injEq];constructor
 ·rintro⟨c',h1,d',⟨h2,h3⟩,rfl,rfl⟩;exact⟨h1,h2,h3⟩
 ·rintro⟨h1,h2,h3⟩;exact⟨c,h1,d,⟨h2,h3⟩,rfl,rfl⟩
theorem isPair_iff {c d:Nat}:g.isPair c d=true<->g.eaM c≠0/\g.laM d≠0/\g.thr c=g.thr d/\c/ 2≠d/ 2/\meetsM (g.eaM c) (g.laM d) (g.qk.getD (g.thr c) [])=true:=by
 simp only[isPair,zF,decide_eq_true_eq]
theorem shortest_none:g.shortest=none<-> ∀r,1<=r->r<=2*(g.nt-1)->g.atRest r=false:=by
 simp only[shortest,List.find?_eq_none,List.mem_map,List.mem_range];constructor
 ·intro h r h1 h2;have:=h r ⟨r-1,by omega,by omega⟩;simpa using this
 ·rintro h x ⟨a,ha,rfl⟩;rw[h _ (by omega) (by omega)];simp
theorem atRest_iff {r:Nat}:g.atRest r=true<-> ∃c d,c<g.msk.length/\d<g.msk.length/\g.isPair c d=true/\g.ends r c d (1<<< g.thr d)=true:=by
 simp only[atRest,List.any_eq_true];constructor
 ·rintro⟨⟨c,d⟩,h1,h2⟩;obtain⟨a,b,e⟩:=mem_pairs.1 h1;exact⟨c,d,a,b,e,h2⟩
 ·rintro⟨c,d,a,b,e,h2⟩;exact⟨(c,d),mem_pairs.2 ⟨a,b,e⟩,h2⟩
theorem ac_mem {i:Nat} (h:i<g.all.length):g.ac i∈g.all:=by
 unfold ac;rw[List.getD_eq_getElem?_getD,zI h];exact List.getElem_mem h
end Gr
end Rg
end
section
namespace Rg
open Go
theorem zqV {x:Nat} (hx:x<2^64):(BitVec.ofInt 64 (x:Int)).toNat=x:=by simp[BitVec.toNat_ofInt];omega
theorem zj2 {x:Nat} (hx:x<2^64):IntKind.u64.wrap (x:Int)=(x:Int):=by
 unfold IntKind.wrap;simp[IntKind.bits,IntKind.signed];omega
theorem zpd {a b:Nat} (ha:a<2^64) (hb:b<2^64):IntKind.u64.wrap ((BitVec.ofInt IntKind.u64.bits (a:Int) ||| BitVec.ofInt IntKind.u64.bits (b:Int)).toNat:Int)=((a ||| b:Nat):Int):=by
 show IntKind.u64.wrap ((BitVec.ofInt 64 (a:Int) ||| BitVec.ofInt 64 (b:Int)).toNat:Int)=_;rw[BitVec.toNat_or,zqV ha,zqV hb,zj2 (Nat.or_lt_two_pow ha hb)]
theorem zmo {i:Nat} (h:i<64):(if(i:Int)<0 then none else some (T.int .u64 (IntKind.u64.wrap (1*2^min i 64))))=some (T.int .u64 ((1<<< i:Nat):Int)):=by
 rw[if_neg (by omega),Nat.min_eq_left (by omega)];have e:(1*2^i:Int)=((1<<< i:Nat):Int):=by rw[Nat.one_shiftLeft];push_cast;omega
 rw[e,zj2 (by rw[Nat.one_shiftLeft];exact Nat.pow_lt_pow_right (by omega) h)]
theorem one_lt {i:Nat} (h:i<64):1<<< i<2^64:=by rw[Nat.one_shiftLeft];exact Nat.pow_lt_pow_right (by omega) h
def arr (l:List Nat):List V:=l.map fun x:Nat=> .t (.int .u64 x)
theorem zbb (l:List Nat):(arr l).length=l.length:=by simp[arr]
theorem zhq {l:List Nat} {i x:Nat} (h:l[i]? =some x):List.take 1 (List.drop i (arr l))=[.t (.int .u64 x)]:=zpE _ h
theorem zi8 {l:List Nat} {i:Nat} (h:i<l.length) (x:Nat):List.take i (arr l)++[.t (.int .u64 x)]++List.drop (i+1) (arr l)=arr (l.set i x):=by
 rw[List.set_eq_take_append_cons_drop,if_pos h];simp[arr]
theorem zij (h:Nat->Option O) (d:Nat) (l:List Nat):(arr l).mapM (toT h d)=some (l.map fun x:Nat=>T.int .u64 x):=by
 refine zbd _ _ _ (fun i a ha=> ?_) (by simp[arr]);simp only[arr,zJ,zE]at ha⊢;obtain⟨x,hx,rfl⟩:=ha;exact⟨.int .u64 x,⟨x,hx,rfl⟩,by cases d<;>rfl⟩
def IsS (g:Nat) (P:Step->Bool):Prop:= ∀s:Step,Den Γ G g [(.agg [.t (ti (s).kind),.t (ti (s).fr),.t (ti (s).to),.t (ti ((s).guard).op),.t (ti ((s).guard).w),.t (ti ((s).guard).n),.t (.sl (((s).guard).kids.map Expr.enc)),.t (.sl ((s).set.map Assign.enc)),.t (tb (s).release),.t (ti (s).target),.t (ti (s).module)])]=some (vb (P s))
theorem zjT:IsS 312 (fun _=>true):=by
 intro s
 (refine den_ofY Γ312 rfl ?_;dsimp only[zrE])
 simp -dsimp only[go_sem,seval]
theorem zjS:IsS 313 innerM:=by
 intro s
 (refine den_ofY Γ313 rfl ?_;dsimp only[zrD])
 simp -dsimp only[go_sem,seval]
 repeat'(refine csplit (fun h=> ?_) (fun h=> ?_)<;>(try simp only[zab]at h)<;>(try simp -dsimp only[go_sem,seval, *]))
 all_goals(simp_all [innerM])
def maskSN (f:Step->Bool) (l:List Step) (j:Nat):Nat:=((l.zipIdx).take j).foldl (fun m q=>if f q.1 then m ||| 1<<< q.2 else m) 0
theorem zipI_get {α:Type} {l:List α} {i:Nat} {x:α} (h:l[i]? =some x):l.zipIdx[i]? =some (x,i):=by
 rw[List.getElem?_zipIdx,h];simp
theorem zeK {f:Step->Bool} {l:List Step} {j:Nat} {s:Step} (h:l[j]? =some s):maskSN f l (j+1)=if f s then maskSN f l j ||| 1<<< j else maskSN f l j:=by
 unfold maskSN;rw[zae (zipI_get h),List.foldl_append];rfl
theorem zfz (f:Step->Bool) (l:List Step):maskSN f l l.length=maskS f l:=by
 unfold maskSN maskS;rw[List.take_of_length_le (by simp)]
theorem maskSN_lt {f:Step->Bool} {l:List Step} (hl:l.length<=64): ∀j,j<=l.length->maskSN f l j<2^64
 | 0,_=>by simp[maskSN]
 | j+1,h=>by
   obtain⟨s,hs,_⟩:=zaf (show j<l.length by omega);rw[zeK hs];have:=maskSN_lt (f:=f) hl j (by omega);split
   ·exact Nat.or_lt_two_pow this (one_lt (by omega))
   ·exact this
def pad (r:List Nat):List Nat:=r++List.replicate (64-r.length) 0
theorem zf9 {r:List Nat} (h:r.length<=64):(pad r).length=64:=by simp[pad];omega
theorem pad_at {r:List Nat} {i x:Nat} (h:r[i]? =some x):(pad r)[i]? =some x:=by
 have:=(zH.1 h).1;rw[pad,List.getElem?_append_left this];exact h
theorem zoA {r:List Nat} {i x:Nat} (h:i<r.length):(pad r).set i x=pad (r.set i x):=by
 simp only[pad,List.length_set];rw[List.set_append_left _ _ h]
theorem zmR {r:List Nat} {i x:Nat} (hr:r.length<=64) (h:r[i]? =some x):(pad (r.take i)).set i x=pad (r.take (i+1)):=by
 have hi:=(zH.1 h).1;rw[zae h];have hl:(r.take i).length=i:=by simp;omega
 simp only[pad,List.length_append,hl,List.length_cons,List.length_nil];rw[List.set_append_right _ _ (by omega),hl,Nat.sub_self,show 64-i=(64-(i+1))+1 by omega,List.replicate_succ];simp
theorem zmQ {r:List Nat} {i:Nat} (hr:r.length<=64) (h:i<r.length):(pad (r.take i))[i]? =some 0:=by
 have hl:(r.take i).length=i:=by simp;omega
 simp only[pad];rw[List.getElem?_append_right (by omega),hl,Nat.sub_self];rw[List.getElem?_replicate,if_pos (by omega)]
theorem zix {l:List Nat} {i x:Nat} (h:l[i]? =some x):l.set i x=l:=by
 obtain⟨hi,rfl⟩:=zH.1 h;exact List.set_getElem_self hi
theorem set_at {l:List Nat} {i x y:Nat} (h:l[i]? =some x):(l.set i y)[i]? =some y:=by
 have:=(zH.1 h).1;simp[this]
theorem zcU (l:List Step):(reach0 l).length=l.length:=by simp[reach0]
theorem zbo (k:Nat) (r:List Nat):(reachS k r).length=r.length:=by simp[reachS]
theorem zdh {inner:Step->Bool} {l:List Step} {k:Nat} {s:Step} (h:l[k]? =some s):reachN inner l (k+1)=if inner s then reachS k (reachN inner l k)else reachN inner l k:=by
 unfold reachN;rw[zae (zipI_get h),List.foldl_append];rfl
theorem zb2 (inner:Step->Bool) (l:List Step): ∀k,k<=l.length->(reachN inner l k).length=l.length
 | 0,_=>by simp[reachN,reach0]
 | k+1,h=>by
   obtain⟨s,hs,_⟩:=zaf (show k<l.length by omega);rw[zdh hs];have:=zb2 inner l k (by omega);split
   ·rw[zbo];exact this
   ·exact this
theorem zeC {inner:Step->Bool} {l:List Step} (hl:l.length<=64): ∀k,k<=l.length-> ∀x∈reachN inner l k,x<2^64
 | 0,_,x,hx=>by
   simp only[reachN,List.take_zero,List.foldl_nil,reach0,List.mem_map]at hx;obtain⟨s,_,rfl⟩:=hx
   rw[<- zfz];exact maskSN_lt hl _ (Nat.le_refl _)
 | k+1,h,x,hx=>by
   obtain⟨s,hs,_⟩:=zaf (show k<l.length by omega);rw[zdh hs]at hx;have ih:=zeC (inner:=inner) hl k (by omega);split at hx
   ·simp only[reachS,List.mem_map]at hx;obtain⟨y,hy,rfl⟩:=hx;split
    ·refine Nat.or_lt_two_pow (ih y hy) ?_;rw[List.getD_eq_getElem?_getD]
     cases hq:(reachN inner l k)[k]? with
     | none=>simp
     | some q=>exact ih q (List.mem_of_getElem? hq)
    ·exact ih y hy
   ·exact ih x hx
def mixS (k:Nat) (r:List Nat) (i:Nat):List Nat:=(reachS k r).take i++r.drop i
theorem zmY {k:Nat} {r:List Nat} {i:Nat} (h:i<=r.length):(mixS k r i).length=r.length:=by simp[mixS,zbo];omega
theorem mixS_at {k:Nat} {r:List Nat} {i x:Nat} (h:r[i]? =some x):(mixS k r i)[i]? =some x:=by
 have hi:=(zH.1 h).1;have hl:((reachS k r).take i).length=i:=by simp[zbo];omega
 rw[mixS,List.getElem?_append_right (by omega),hl,Nat.sub_self,List.getElem?_drop];simpa using h
theorem mixS_k {k:Nat} {r:List Nat} {i x:Nat} (hi:i<=r.length) (h:r[k]? =some x):(mixS k r i)[k]? =some x:=by
 have hl:((reachS k r).take i).length=i:=by simp[zbo];omega
 rcases Nat.lt_or_ge k i with h1 | h1
 ·rw[mixS,List.getElem?_append_left (by omega),List.getElem?_take,if_pos h1,reachS,zJ,h];simp only[Option.map_some,List.getD_eq_getElem?_getD,h,Option.getD_some,Nat.or_self];split<;>rfl
 ·rw[mixS,List.getElem?_append_right (by omega),hl,List.getElem?_drop,show i+(k-i)=k by omega];exact h
theorem zkY {k:Nat} {r:List Nat} {i x y:Nat} (hx:r[i]? =some x) (hy:r[k]? =some y):mixS k r (i+1)=(mixS k r i).set i (if x.testBit k then x ||| y else x):=by
 have hi:=(zH.1 hx).1;have hl:((reachS k r).take i).length=i:=by simp[zbo];omega
 have he:(reachS k r)[i]? =some (if x.testBit k then x ||| y else x):=by
  simp only[reachS,zJ,hx,Option.map_some,List.getD_eq_getElem?_getD,hy,Option.getD_some]
 rw[mixS,zae he,mixS,List.set_append_right _ _ (by omega),hl,Nat.sub_self,zba hx];simp
theorem zkX (k:Nat) (r:List Nat):mixS k r 0=r:=by simp[mixS]
theorem zmZ (k:Nat) (r:List Nat):mixS k r r.length=reachS k r:=by
 simp[mixS,zbo];exact List.take_of_length_le (by simp[zbo])
theorem zpx {a i:Nat} (hi:i<=64):(((a>>> i&&& 1:Nat):Int)=1)=(a.testBit i=true):=by
 rw[Nat.testBit,Nat.and_comm];simp only[Nat.one_and_eq_mod_two,bne_iff_ne,ne_eq,eq_iff_iff];omega
theorem u_shrlt {a i:Nat} (h:a<2^64):a>>> i<2^64:=Nat.lt_of_le_of_lt (Nat.shiftRight_le _ _) h
set_option maxHeartbeats 2000000
theorem zgT (g:Nat) (inner:Step->Bool) (hg:IsS g inner) (l:List Step) (hl:l.length<=64):Den Γ G 311 [.t (.sl (l.map Step.enc)),.t (.fn g [] [])]=some (.agg (arr (reachM inner l))):=by
 (refine den_ofY Γ311 rfl ?_;dsimp only[zrF])
 simp -dsimp only[go_sem,seval];have hz: ∀i,i<=l.length->((reach0 l).take i).length<=64:=fun i hi=>by simp;omega
 refine zaz 2199023223776 l.length (fun i f=>(f 15).v=vi i/\(f 5).v= .lb/\(f 5).box=some (arr (pad ((reach0 l).take i)))) rfl rfl ⟨by simp -dsimp only[go_sem,seval],by simp -dsimp only[go_sem,seval],by simp -dsimp only[go_sem,seval];rfl⟩ ?_;rintro i f u kk bb hi ⟨h15,hv,h5⟩;have hw:=zah i (by omega);simp -dsimp only[go_sem,seval,h15];refine csplit (fun h=> ?_) (fun h=> ?_)<;>(try rw[h])<;>(try simp only[zab]at h)<;>(try simp -dsimp only[go_sem,seval,h15])
 ·obtain⟨x,hx,_⟩:=zaf ‹i<l.length›;simp -dsimp only[go_sem,seval,h15,hx];have hr0:(reach0 l)[i]? =some (maskS (fun y=>decide (x.to=y.fr)) l):=by simp only[reach0,zJ,hx,Option.map_some]
  have hzi:=zmQ (r:=reach0 l) (by rw[zcU];exact hl) (i:=i) (by rw[zcU];assumption);have hpl:=zf9 (hz i hi);refine zaz 1099507434272 l.length (fun j f=>(f 22).v=vi j/\(f 5).v= .lb/\(f 5).box=some (arr ((pad ((reach0 l).take i)).set i (maskSN (fun y=>decide (x.to=y.fr)) l j)))) rfl rfl ⟨by simp -dsimp only[go_sem,seval],by simp -dsimp only[go_sem,seval,hv],by simp -dsimp only[go_sem,seval,h5];rw[show maskSN (fun y=>decide (x.to=y.fr)) l 0=0 from rfl,zix hzi]⟩ ?_;rintro j f2 u2 kk2 bb2 hj ⟨h22,hv2,h25⟩;have hw2:=zah j (by omega);simp -dsimp only[go_sem,seval,h22];refine csplit (fun h=> ?_) (fun h=> ?_)<;>(try rw[h])<;>(try simp only[zab]at h)<;>(try simp -dsimp only[go_sem,seval,h22])
  ·obtain⟨y,hy,_⟩:=zaf ‹j<l.length›;have hsucc:=zeK (f:=fun y=>decide (x.to=y.fr)) hy;simp -dsimp only[go_sem,seval,h22,hy];refine csplit (fun h=> ?_) (fun h=> ?_)<;>(try rw[h])<;>(try simp only[zab]at h)<;>(try simp -dsimp only[go_sem,seval,h22])
   ·have hat:=zhq (set_at (y:=maskSN (fun y=>decide (x.to=y.fr)) l j) hzi);have hal:(arr ((pad ((reach0 l).take i)).set i (maskSN (fun y=>decide (x.to=y.fr)) l j))).length=64:=by rw[zbb,List.length_set,hpl]
    have hs1:=zmo (i:=j) (by omega);have ho:=zpd (maskSN_lt (f:=fun y=>decide (x.to=y.fr)) hl j hj) (one_lt (i:=j) (by omega));have hwr:=zi8 (l:=(pad ((reach0 l).take i)).set i (maskSN (fun y=>decide (x.to=y.fr)) l j)) (i:=i) (by rw[List.length_set,hpl];omega) (maskSN (fun y=>decide (x.to=y.fr)) l j ||| 1<<< j);rw[List.set_set]at hwr;rw[if_pos (by simpa using h)]at hsucc;have hi64:((i:Int)<64)=True:=by simp;omega
    have hi63:(i<=63)=True:=by simp;omega
    have hm1:i*1=i:=by omega
    simp -dsimp only[go_sem,seval,h22,h25,hv2,hat,hs1,ho,hal,hi64,hi63,hm1];refine⟨by omega,by simp -dsimp only[go_sem,seval,h22,hw2],by simp -dsimp only[go_sem,seval,hv2],?_⟩;simp -dsimp only[go_sem,seval,hsucc];exact hwr
   ·refine⟨by omega,by simp -dsimp only[go_sem,seval,h22,hw2],by simp -dsimp only[go_sem,seval,hv2],?_⟩;rw[if_neg (by simpa using h)]at hsucc;simp -dsimp only[go_sem,seval,h25];rw[hsucc]
  ·have:j=l.length:=by omega
   subst this;rw[zfz,zmR (by rw[zcU];exact hl) hr0]at h25;simp -dsimp only[go_sem,seval,h15,hw];refine⟨by omega,by simp -dsimp only[go_sem,seval,h15,hw],by simp -dsimp only[go_sem,seval,hv2],by simp -dsimp only[go_sem,seval,h25]⟩
 ·have hil:i=l.length:=by omega
  subst hil;have e0:(reach0 l).take l.length=reachN inner l 0:=by rw[List.take_of_length_le (by rw[zcU];exact Nat.le_refl _)];rfl
  rw[e0]at h5;clear h15 h hi hz hw e0;refine zaz 18889465922682487839776 l.length (fun k f=>(f 43).v=vi k/\(f 5).v= .lb/\(f 5).box=some (arr (pad (reachN inner l k)))) rfl rfl ⟨by simp -dsimp only[go_sem,seval],by simp -dsimp only[go_sem,seval,hv],by simp -dsimp only[go_sem,seval,h5]⟩ ?_;rintro k f3 u3 kk3 bb3 hk ⟨h43,hv3,h35⟩;have hw3:=zah k (by omega);simp -dsimp only[go_sem,seval,h43];refine csplit (fun h=> ?_) (fun h=> ?_)<;>(try rw[h])<;>(try simp only[zab]at h)<;>(try simp -dsimp only[go_sem,seval,h43])
  ·obtain⟨x,hx,_⟩:=zaf ‹k<l.length›;have hgx:=hg x;have hrs:=zdh (inner:=inner) hx;have hRl:=zb2 inner l k hk;have hRb:=zeC (inner:=inner) hl k hk;simp -dsimp only[go_sem,seval,h43,hx,hgx];refine csplit (fun h=> ?_) (fun h=> ?_)<;>(try rw[h])<;>(try simp only[zab]at h)<;>(try simp -dsimp only[go_sem,seval,h43])
   ·refine⟨by omega,by simp -dsimp only[go_sem,seval,h43,hw3],by simp -dsimp only[go_sem,seval,hv3],?_⟩;rw[if_neg (by simpa using h)]at hrs;simp -dsimp only[go_sem,seval,h35];rw[hrs]
   ·rw[if_pos (by simpa using h)]at hrs
    generalize reachN inner l k=R at hRl hRb h35 hrs
    refine zaz 9444714951340780949536 l.length (fun i f=>(f 54).v=vi i/\(f 5).v= .lb/\(f 5).box=some (arr (pad (mixS k R i)))) rfl rfl ⟨by simp -dsimp only[go_sem,seval],by simp -dsimp only[go_sem,seval,hv3],by simp -dsimp only[go_sem,seval,h35];rw[zkX]⟩ ?_;rintro i f4 u4 kk4 bb4 hi ⟨h54,hv4,h45⟩;have hw4:=zah i (by omega);simp -dsimp only[go_sem,seval,h54];refine csplit (fun h=> ?_) (fun h=> ?_)<;>(try rw[h])<;>(try simp only[zab]at h)<;>(try simp -dsimp only[go_sem,seval,h54])
    ·obtain⟨a,ha,ham⟩:=zaf (show i<R.length by omega);obtain⟨b,hb,hbm⟩:=zaf (show k<R.length by omega);have hsu:=zkY ha hb;have hml:=zmY (k:=k) (r:=R) (i:=i) (by omega);have hat:=zhq (pad_at (mixS_at (k:=k) ha));have hbt:=zhq (pad_at (mixS_k (i:=i) (by omega) hb));have hal:(arr (pad (mixS k R i))).length=64:=by rw[zbb,zf9 (by omega)]
     have hi64:((i:Int)<64)=True:=by simp;omega
     have hk64:((k:Int)<64)=True:=by simp;omega
     have hi63:(i<=63)=True:=by simp;omega
     have hk63:(k<=63)=True:=by simp;omega
     have hm1:i*1=i:=by omega
     have hk1:k*1=k:=by omega
     have hs:=zpw a k (by omega);have h1:=znQ (u_shrlt (i:=k) (hRb a ham));have hb1:=zpx (a:=a) (i:=k) (by omega);have ho:=zpd (hRb a ham) (hRb b hbm);simp -dsimp only[go_sem,seval,h54,hv4,h45,hat,hal,hi64,hi63,hm1,h43,hs,h1,hb1];refine csplit (fun h=> ?_) (fun h=> ?_)<;>(try rw[h])<;>(try simp only[zab]at h)<;>(try simp -dsimp only[go_sem,seval,h54])
     ·rw[if_pos (by simpa using h)]at hsu;have hwr:=zi8 (l:=pad (mixS k R i)) (i:=i) (by rw[zf9 (by omega)];omega) (a ||| b);rw[zoA (by omega)]at hwr;simp -dsimp only[go_sem,seval,h54,hv4,h45,hat,hbt,hal,hi64,hi63,hm1,hk64,hk63,hk1,h43,ho];refine⟨by omega,by simp -dsimp only[go_sem,seval,h54,hw4],by simp -dsimp only[go_sem,seval,hv4],?_⟩;simp -dsimp only[go_sem,seval,hsu];exact hwr
     ·rw[if_neg (by simpa using h)]at hsu;refine⟨by omega,by simp -dsimp only[go_sem,seval,h54,hw4],by simp -dsimp only[go_sem,seval,hv4],?_⟩;simp -dsimp only[go_sem,seval,h45];rw[hsu,zix (mixS_at ha)]
    ·have hil:i=R.length:=by omega
     subst hil;rw[zmZ,<- hrs]at h45;simp -dsimp only[go_sem,seval,h43];exact⟨by omega,by simp -dsimp only[go_sem,seval,hw3],by simp -dsimp only[go_sem,seval,hv4],by simp -dsimp only[go_sem,seval,h45]⟩
  ·have hkl:k=l.length:=by omega
   subst hkl;have e:pad (reachN inner l l.length)=reachM inner l:=by rw[pad,zb2 _ _ _ (Nat.le_refl _)];rfl
   rw[e]at h35;have hal:(arr (reachM inner l)).length=64:=by rw[<- e,zbb,zf9 (by rw[zb2 _ _ _ (Nat.le_refl _)];exact hl)]
   have htk:List.take 64 (arr (reachM inner l))=arr (reachM inner l):=List.take_of_length_le (by omega);have htt:=zij (fun _=>none) 1000 (reachM inner l);simp -dsimp only[go_sem,seval,hv3,h35,hal,htk,htt];simp[arr]
theorem reachM_len (inner:Step->Bool) {l:List Step} (hl:l.length<=64):(reachM inner l).length=64:=by
 rw[reachM,List.length_append,zb2 _ _ _ (Nat.le_refl _),List.length_replicate];omega
theorem zkA (inner:Step->Bool) {l:List Step} (hl:l.length<=64): ∀x∈reachM inner l,x<2^64:=by
 intro x hx;rcases List.mem_append.1 hx with h | h
 ·exact zeC hl _ (Nat.le_refl _) x h
 ·rw[(List.mem_replicate.1 h).2];omega
end Rg
end
section
set_option maxRecDepth 100000
namespace Rg
open Go
structure Prog.lite7 (p:Prog):Prop where
 cname: ∀c∈p.cells,c.name.size<2^50
 mname: ∀m∈p.modules,m.name.size<2^50/\m.owner.size<2^50
 tname: ∀t∈p.threads,t.name.size<2^50
structure Prog.SmallP (p:Prog) (L:Int):Prop where
 cells:p.cells.length<=40
 modules:p.modules.length<=10
 locks:p.locks.length<=10
 threads:p.threads.length<=8
 mods: ∀m∈p.modules,m.frame.length<=60/\(m.rely.size:Int)<=L/\(m.guar.size:Int)<=L
 lcks: ∀l∈p.locks,(l.inv.size:Int)<=L
 thr: ∀t∈p.threads,t.asserts.length<=60/\t.modules.length<=60/\t.steps.length<=80/\t.loops.length<=12/\(∀e∈t.asserts,(e.size:Int)<=L)
 steps: ∀t∈p.threads,∀s∈t.steps,s.set.length<=40/\(s.guard.size:Int)<=L/\ ∀a∈s.set,(a.to.size:Int)<=L
 loops: ∀t∈p.threads,∀l∈t.loops,l.body.length<=60/\(l.variant.size:Int)<=L
theorem Prog.SmallP.sane {L:Int} {p:Prog} (hl:p.lite7) (h:p.SmallP L):p.sane:=by
 have h1:=h.cells;have h2:=h.modules;have h3:=h.locks;have h4:=h.threads;refine⟨by omega,by omega,by omega,by omega,hl.cname,?_,?_,?_,?_⟩
 ·intro m hm;have:=h.mods m hm;exact⟨(hl.mname m hm).1,(hl.mname m hm).2,by omega⟩
 ·intro t ht;have:=h.thr t ht;exact⟨hl.tname t ht,by omega,by omega,by omega,by omega⟩
 ·intro t ht s hs;have:=(h.steps t ht s hs).1;omega
 ·intro t ht l hl;have:=(h.loops t ht l hl).1;omega
end Rg
end
section
namespace Rg
open Go
end Rg
end
section
namespace Rg
open Go
theorem zec (zs:List Int) (hs:zs.Pairwise (· <= ·)) (m:Nat) (hm:m<=zs.length):(Go.Lib.compactUpTo zs.toArray m).Pairwise (· < ·):=by
 have hget: ∀i j:Nat,i<=j->j<zs.length->zs.toArray[i]! <=zs.toArray[j]! :=by
  intro i j hij hj;rw[getElem!_pos zs.toArray i (by simp;omega),getElem!_pos zs.toArray j (by simp;omega)];simp only[List.getElem_toArray];rcases Nat.lt_or_eq_of_le hij with h | h
  ·exact List.pairwise_iff_getElem.1 hs i j (by omega) hj h
  ·subst h;exact Int.le_refl _
 unfold Go.Lib.compactUpTo;rw[List.pairwise_map];have h0:=(List.pairwise_lt_range (n:=m)).filter (Go.Lib.keeps zs.toArray);refine h0.imp_of_mem ?_;intro a b ha hb hab;have hb1:=List.mem_range.1 (List.mem_filter.1 hb).1;have hk:=(List.mem_filter.1 hb).2;have h1:=hget a (b-1) (by omega) (by omega);have h2:=hget (b-1) b (by omega) (by omega);simp only[Go.Lib.keeps,Bool.or_eq_true,decide_eq_true_eq,bne_iff_ne,ne_eq]at hk;rcases hk with hk | hk
 ·omega
 ·omega
theorem sortedM_sorted (l:List Int):(sortedM l).Pairwise (· < ·):=by
 unfold sortedM Go.Lib.compact;refine zec _ ?_ _ (Nat.le_refl _);have:=List.pairwise_mergeSort (le:=fun x y:Int=>decide (x<=y)) (by intro a b c h1 h2;simp at *;omega) (by intro a b;simp;omega) l;exact this.imp (by intro a b h;simpa using h)
end Rg
end
section
namespace Rg
open Go
structure Like (p q:Prog):Prop where
 cells:p.cells=q.cells
 mods:p.modules.length=q.modules.length
 thr:p.threads.length=q.threads.length
 asl: ∀t,zbS p t=zbS q t
variable {p q:Prog}
end Rg
end
section
namespace Rg
open Go
theorem zcz {p:Prog} {t c:Int}:ofThread p t c=true<->0<=c/\ ∃x,p.cells[c.toNat]? =some x/\x.thread=t:=by
 unfold ofThread
 cases h:p.cells[c.toNat]? with
 | none=>simp
 | some x=>simp
structure KindFacts (p:Prog) (t:Int) (s:Step):Prop where
 r: ∀c∈readsM s,sees p t c=true
 w: ∀c∈writesM s,sees p t c=true
 k1:s.kind=1->(∀c∈readsM s,ofThread p t c=true)/\ ∀c∈writesM s,ofThread p t c=true
 k2:s.kind=2->(∃n∈readsM s,ofThread p (-1) n=true/\ ∀c∈readsM s,ofThread p (-1) c=true->ofThread p t c=false->c=n)/\(∀c∈writesM s,ofThread p t c=true)/\writesM s≠[]
 k3:s.kind=3->(∀c∈readsM s,ofThread p t c=true)/\ ∃n∈writesM s,ofThread p (-1) n=true/\zaJ p n Cell.ghost=false/\ ∀c∈writesM s,zaJ p c Cell.ghost=false->c=n
 k5:4<s.kind->readsM s=[]/\writesM s=[]
end Rg
end
section
set_option maxRecDepth 100000
namespace Rg
open Go
def exE:Expr:=.mk 1 1 1 []
def exP (nm:ByteArray) (fr:Int) (to as1:Expr):Prog:=
 ⟨[⟨nm,2,0,-1,false,0⟩,⟨bs [114],2,0,0,false,0⟩],
  [⟨bs [77],bs [65,110,110],.mk 0 0 0 [],exE,[0]⟩],[],
  [⟨bs [116],2,[exE,as1],[0,0],[⟨2,fr,1,exE,[⟨1,to⟩],false,0,0⟩],[],false⟩]⟩
def zpO (e:Expr):List V:=[.t (ti e.op),.t (ti e.w),.t (ti e.n),.t (.sl (e.kids.map Expr.enc))]
structure Ex7 (z:Nat->Bool) (h:Nat->Option O) (a:Nat) (nm:ByteArray) (fr:Int) (to as1:Expr):Prop where
 k7:h (a+7)=some (.rows 5 [.t (ti 1)::zpO to] (z 0))
 k13:h (a+13)=some (.rows 6 [[.t (.str nm),.t (ti 2),.t (ti 0),.t (ti (-1)),.t (tb false),.t (ti 0)],[.t (.str (bs [114])),.t (ti 2),.t (ti 0),.t (ti 0),.t (tb false),.t (ti 0)]] (z 1))
 k15:h (a+15)=some (.rows 1 [[.t (ti 0)]] (z 2))
 k17:h (a+17)=some (.rows 11 [[.t (.str (bs [77])),.t (.str (bs [65,110,110])),.t (ti 0),.t (ti 0),.t (ti 0),.t .nils,.t (ti 1),.t (ti 1),.t (ti 1),.t (.sl []),.ms (a+15) 0 1]] (z 3))
 k20:h (a+20)=some (.rows 4 [zpO exE,zpO as1] (z 4))
 k21:h (a+21)=some (.rows 1 [[.t (ti 0)],[.t (ti 0)]] (z 5))
 k23:h (a+23)=some (.rows 11 [[.t (ti 2),.t (ti fr),.t (ti 1),.t (ti 1),.t (ti 1),.t (ti 1),.t (.sl []),.ms (a+7) 0 1,.t (tb false),.t (ti 0),.t (ti 0)]] (z 6))
 k25:h (a+25)=some (.rows 7 [[.t (.str (bs [116])),.t (ti 2),.ms (a+20) 0 2,.ms (a+21) 0 2,.ms (a+23) 0 1,.t .nils,.t (tb false)]] (z 7))
theorem zc4 {h:Nat->Option O} {k i len d sz:Nat} {rs r:List (List V)} {fz:Bool} {es:List (List T)} (hk:h k=some (.rows sz rs fz)) (hr:rd rs i len=some r) (he:r.mapM (fun row=>row.mapM (toT h d))=some es):
 toT h (d+1) (.ms k i len)=some (.sl es):=by
 simp[toT,hk,hr,he]
theorem zfX (h:Nat->Option O) (d:Nat) (x:T):toT h d (.t x)=some x.norm:=by cases d<;>rfl
section
variable {z:Nat->Bool} {h:Nat->Option O} {a:Nat} {nm:ByteArray} {fr:Int} {to as1:Expr}
theorem Ex7.stree (hx:Ex7 z h a nm fr to as1) (d:Nat):toT h (d+1) (.ms (a+7) 0 1)=some (.sl [Assign.enc ⟨1,to⟩]):=by
 refine zc4 hx.k7 (by rfl) ?_;simp[zfX,zpO,Assign.enc,Expr.enc_eq,T.norm]
theorem Ex7.tree (hx:Ex7 z h a nm fr to as1):
 toT1 h (V.agg [.ms (a+13) 0 2,.ms (a+17) 0 1,.t .nils,.ms (a+25) 0 1])=some (.agg [.t (.sl ((exP nm fr to as1).cells.map (Cell.enc))),.t (.sl ((exP nm fr to as1).modules.map (Contract.enc))),.t (.sl ((exP nm fr to as1).locks.map (Lock.enc))),.t (.sl ((exP nm fr to as1).threads.map (Thread.enc)))]):=by
 have e13:toT h 1000 (.ms (a+13) 0 2)=some (.sl ((exP nm fr to as1).cells.map Cell.enc)):=by
  refine zc4 hx.k13 (by rfl) ?_;simp[zfX,exP,Cell.enc,T.norm]
 have e15:toT h 999 (.ms (a+15) 0 1)=some (ints [0]):=by
  refine zc4 hx.k15 (by rfl) ?_;simp[zfX,T.norm]
 have e17:toT h 1000 (.ms (a+17) 0 1)=some (.sl ((exP nm fr to as1).modules.map Contract.enc)):=by
  refine zc4 hx.k17 (by rfl) ?_;simp[zfX,e15,exP,Contract.enc,Expr.enc_eq,T.norm,exE,Expr.op,Expr.w,Expr.n,Expr.kids]
 have e20:toT h 999 (.ms (a+20) 0 2)=some (.sl ([exE,as1].map Expr.enc)):=by
  refine zc4 hx.k20 (by rfl) ?_;simp[zfX,zpO,Expr.enc_eq,T.norm]
 have e21:toT h 999 (.ms (a+21) 0 2)=some (ints [0,0]):=by
  refine zc4 hx.k21 (by rfl) ?_;simp[zfX,T.norm]
 have e7:=hx.stree 997
 have e23:toT h 999 (.ms (a+23) 0 1)=some (.sl ([⟨2,fr,1,exE,[⟨1,to⟩],false,0,0⟩].map Step.enc)):=by
  refine zc4 hx.k23 (by rfl) ?_;simp[zfX,e7,Step.enc,exE,Expr.enc_eq,T.norm,Expr.op,Expr.w,Expr.n,Expr.kids]
 have e25:toT h 1000 (.ms (a+25) 0 1)=some (.sl ((exP nm fr to as1).threads.map Thread.enc)):=by
  refine zc4 hx.k25 (by rfl) ?_;simp[zfX,e20,e21,e23,exP,Thread.enc,T.norm]
 simp[toT1,e13,e17,e25,zfX,T.norm,exP]
theorem zbP {h:Nat->Option O} {k sz:Nat} {rs:List (List V)} {z:Bool} (hk:h k=some (.rows sz rs z)) (l:List Nat): ∃z',hpC h (freezes h l) k=some (.rows sz rs z'):=by
 suffices hs: ∀(l:List Nat) (g:Nat->Option O) (y:Bool),g k=some (.rows sz rs y)-> ∃z',hpC g (freezes h l) k=some (.rows sz rs z')from hs l h z hk
 intro l
 induction l with
 | nil=>intro g y hg;exact⟨y,by simp only[freezes,List.filterMap_nil,zaq];exact hg⟩
 | cons q r ih=>
   intro g y hg;unfold freezes at ih⊢;rw[List.filterMap_cons];split
   ·exact ih g y hg
   ·rename_i b hb;split at hb
    ·rename_i s1 r1 y1 hq;cases hb;rw[zau]
     by_cases hkq:k=q
     ·subst hkq;rw[hk]at hq;cases hq;exact ih _ true (by rw[zac,if_pos rfl])
     ·exact ih _ y (by rw[zac,if_neg hkq];exact hg)
    ·cases hb
theorem Ex7.frz (hx: ∃z,Ex7 z h a nm fr to as1) (l:List Nat): ∃z,Ex7 z (hpC h (freezes h l)) a nm fr to as1:=by
 obtain⟨z,hx⟩:=hx;obtain⟨z0,f0⟩:=zbP hx.k7 l;obtain⟨z1,f1⟩:=zbP hx.k13 l;obtain⟨z2,f2⟩:=zbP hx.k15 l;obtain⟨z3,f3⟩:=zbP hx.k17 l;obtain⟨z4,f4⟩:=zbP hx.k20 l;obtain⟨z5,f5⟩:=zbP hx.k21 l;obtain⟨z6,f6⟩:=zbP hx.k23 l;obtain⟨z7,f7⟩:=zbP hx.k25 l;exact⟨fun i=>[z0,z1,z2,z3,z4,z5,z6,z7].getD i false,f0,f1,f2,f3,f4,f5,f6,f7⟩
theorem Ex7.upd (hx: ∃z,Ex7 z h a nm fr to as1) {k:Nat} (hk:a+26<=k) (o:Option O): ∃z,Ex7 z (updC h k o) a nm fr to as1:=by
 obtain⟨z,hx⟩:=hx;exact⟨z,by constructor<;>(rw[zac,if_neg (by omega)])<;>first | exact hx.k7 | exact hx.k13 | exact hx.k15 | exact hx.k17 | exact hx.k20 | exact hx.k21 | exact hx.k23 | exact hx.k25⟩
end
def frzK (h:Nat->Option O) (vs:List V) (r:V) (K:V->(Nat->Option O)->Prop):Prop:=K r (hpC h (freezes h (vs.flatMap (reach1 h))))
theorem znn (a:List T) (l:List (List T)) (h:Nat->Option O) (vs:List V) (K:V->(Nat->Option O)->Prop) (w:WK K):zid (some (.t (.sl (a::l)))) false h vs K w=frzK h vs (.t (.sl (a::l))) K:=by
 simp[zid,frzK,V.scalar,V.scalar2,V.scalar1,T.scalar]
theorem zjB {h:Nat->Option O} {vs:List V} {r:V} {K:V->(Nat->Option O)->Prop} {a:Nat} {nm:ByteArray} {fr:Int} {to as1:Expr} (hx: ∃z,Ex7 z h a nm fr to as1)
 (hk: ∀H,(∃z,Ex7 z H a nm fr to as1)->K r H):frzK h vs r K:=hk _ (Ex7.frz hx _)
theorem zxC {h:Nat->Option O} {q sz bytes k0 n0:Nat} {a b:List (List V)} {K:V->List (Nat×O)->Prop} {w:WK K}
 (hh:h k0=some (.rows sz a false)) (hlen:a.length+b.length<=2^32) (hby:bytes<=2^12) (hb:(b.all fun r=>decide (r.length=sz))=true) (ha:(a.all fun r=>decide (r.length=sz))=true) (hne:b≠[])
 (hK:K (.ms q 0 (a.length+b.length)) [(k0,.dead),(q,.rows sz (a++b) false)]):zft false (appS h q sz bytes (.ms k0 0 n0) a b) K w:=by
 unfold appS;rw[if_pos ⟨⟨hlen,hby⟩,hb,ha⟩]
 cases b with
 | nil=>exact absurd rfl hne
 | cons r rs=>
   simp only[List.isEmpty_cons,zG,if_false,hh,and_self,if_true,zbK,zcM];exact hK
def X7 (H:Nat->Option O):Prop:= ∃z,Ex7 z H 4 (bs [120]) 0 (.mk 2 2 0 []) exE
theorem X7.upd {H:Nat->Option O} (hx:X7 H) {k:Nat} (hk:30<=k) (o:Option O):X7 (updC H k o):=Ex7.upd hx hk o
theorem X7.frz {H:Nat->Option O} {vs:List V} {r:V} {K:V->(Nat->Option O)->Prop} (hx:X7 H) (hk: ∀H,X7 H->K r H):frzK H vs r K:=zjB hx hk
section
variable {z:Nat->Bool} {h:Nat->Option O} {a:Nat} {nm:ByteArray} {fr:Int} {to as1:Expr}
end
end Rg
end
section
set_option maxRecDepth 100000
namespace Rg
open Go
theorem Prog.ok.cell {p:Prog} (h:p.ok) {c:Nat} {x:Cell} (hx:p.cells[c]? =some x): -1<=x.thread/\x.thread<p.threads.length:=by
 have:=(cellErr_iff.1 ((ok_iff.1 h).cells c x hx)).1;simp only[zaY,Bool.or_eq_false_iff,decide_eq_false_iff_not]at this;omega
theorem Prog.ok.thr {p:Prog} (h:p.ok) {t:Nat} {x:Thread} (hx:p.threads[t]? =some x):1<=x.points/\x.points<=48:=by
 have h1:=(threadErr_iff.1 ((ok_iff.1 h).threads t x hx)).2.2.1.1;have h2:=((limits_iff.1 (ok_iff.1 h).lim).2 x (List.mem_of_getElem? hx)).1;exact⟨h1,h2⟩
theorem Prog.ok.step {p:Prog} (h:p.ok) {t s:Nat} {x:Thread} {y:Step} (hx:p.threads[t]? =some x) (hy:x.steps[s]? =some y):0<=y.fr/\y.fr<x.points-1:=by
 have h1:=(threadErr_iff.1 ((ok_iff.1 h).threads t x hx)).2.2.2.2.2.1 s y hy;have h2:=(stepErr_iff.1 h1).1;simp only[zbl,Bool.or_eq_false_iff,decide_eq_false_iff_not,Bool.not_eq_false',inR,decide_eq_true_eq]at h2;omega
end Rg
end
section
set_option maxRecDepth 100000
namespace Rg
open Go
end Rg
end
section
namespace Rg
open Go
structure Gr.Ok (g:Gr):Prop where
 cl_len:g.cls.length=g.all.length
 msk_len:g.msk.length=g.nt*g.sz
 ld_len:g.ld.length=g.nt
 qk_len:g.qk.length=g.nt
 ld_lt: ∀t i,g.ldAt t i<2^64
 qk_lt: ∀t i,g.qkAt t i<2^64
 ld_row: ∀t,t<g.nt->(g.ld.getD t []).length=64
 qk_row: ∀t,t<g.nt->(g.qk.getD t []).length=64
 th_lt: ∀i,i<g.all.length->(g.ac i).th<g.nt
 st_lt: ∀i,i<g.all.length->(g.ac i).st<64
 thr_cl: ∀i,i<g.all.length->g.thr (g.cl i)=(g.ac i).th
 cl_lt: ∀i,i<g.all.length->g.cl i<g.msk.length
 mk_bit: ∀c j,(g.mks c).testBit j=true<-> ∃i,i<g.all.length/\g.cl i=c/\(g.ac i).st=j
theorem zg2 {p:Prog} {t:Nat} {l:List Step} {i:Nat} {a:Acc}:a∈accsT p t l i<-> ∃k s,k<i/\l[k]? =some s/\a∈accsS p t k s:=by
 simp only[accsT,List.mem_flatMap];constructor
 ·rintro⟨⟨s,k⟩,h1,h2⟩;rw[List.mem_zipIdx_iff_getElem?]at h1;simp only at h1 h2;rw[List.getElem?_take]at h1;split at h1
  ·exact⟨k,s,by assumption,h1,h2⟩
  ·cases h1
 ·rintro⟨k,s,h1,h2,h3⟩;refine⟨(s,k),?_,h3⟩;rw[List.mem_zipIdx_iff_getElem?];simp only;rw[List.getElem?_take,if_pos h1,h2]
theorem zk2 {p:Prog} {k:Nat} {a:Acc}:a∈accsN p k<-> ∃t x i s,t<k/\p.threads[t]? =some x/\x.steps[i]? =some s/\a∈accsS p t i s:=by
 simp only[accsN,List.mem_flatMap];constructor
 ·rintro⟨⟨x,t⟩,h1,h2⟩;rw[List.mem_zipIdx_iff_getElem?]at h1;simp only at h1 h2;rw[List.getElem?_take]at h1;split at h1
  ·obtain⟨i,s,_,h4,h5⟩:=zg2.1 h2;exact⟨t,x,i,s,by assumption,h1,h4,h5⟩
  ·cases h1
 ·rintro⟨t,x,i,s,h1,h2,h3,h4⟩;refine⟨(x,t),?_,zg2.2 ⟨i,s,(zH.1 h3).1,h3,h4⟩⟩;rw[List.mem_zipIdx_iff_getElem?];simp only;rw[List.getElem?_take,if_pos h1,h2]
theorem zg3 {p:Prog} {t i:Nat} {s:Step} {a:Acc}:a∈accsS p t i s<->a.th=t/\a.st=i/\
 (((s.kind=6\/s.kind=7)/\a.wr=true/\a.ce=p.cells.length+s.target.toNat)\/
  (¬(s.kind=6\/s.kind=7)/\ ∃c,c∈ofM p (-1)/\a.ce=c.toNat/\c∈(if a.wr then writesM s else readsM s))):=by
 obtain⟨th,st,ce,w⟩:=a;unfold accsS;split
 ·rename_i h;simp only[List.mem_singleton,Acc.mk.injEq];constructor
  ·rintro⟨rfl,rfl,rfl,rfl⟩;exact⟨rfl,rfl,.inl ⟨h,rfl,rfl⟩⟩
  ·rintro⟨rfl,rfl,h1⟩;rcases h1 with⟨_,rfl,rfl⟩ | ⟨hn,_⟩
   ·exact⟨rfl,rfl,rfl,rfl⟩
   ·exact absurd h hn
 ·rename_i h;simp only[accsC,List.mem_flatMap,List.mem_append];constructor
  ·rintro⟨c,hc,h1 | h1⟩
   ·split at h1
    ·simp only[List.mem_singleton,Acc.mk.injEq]at h1;obtain⟨rfl,rfl,rfl,rfl⟩:=h1;exact⟨rfl,rfl,.inr ⟨h,c,hc,rfl,by simpa⟩⟩
    ·cases h1
   ·split at h1
    ·simp only[List.mem_singleton,Acc.mk.injEq]at h1;obtain⟨rfl,rfl,rfl,rfl⟩:=h1;exact⟨rfl,rfl,.inr ⟨h,c,hc,rfl,by simpa⟩⟩
    ·cases h1
  ·rintro⟨rfl,rfl,h1⟩;rcases h1 with⟨h2,_⟩ | ⟨_,c,hc,rfl,h3⟩
   ·exact absurd h2 h
   ·cases w
    ·exact⟨c,hc,.inl (by simp only[zG,if_false]at h3;rw[if_pos h3];simp)⟩
    ·exact⟨c,hc,.inr (by simp only[if_true]at h3;rw[if_pos h3];simp)⟩
theorem zet {p:Prog} {t i:Nat} {x:Thread} {s:Step} (h1:p.threads[t]? =some x) (h2:x.steps[i]? =some s):p.stepAt t i=s:=by
 unfold Prog.stepAt;rw[List.getD_eq_getElem?_getD,List.getD_eq_getElem?_getD,h1];simp[h2]
theorem zel {p:Prog} {a:Acc}:a∈accsM p<-> ∃x s,p.threads[a.th]? =some x/\x.steps[a.st]? =some s/\a∈accsS p a.th a.st s:=by
 unfold accsM;rw[zk2];constructor
 ·rintro⟨t,x,i,s,_,h1,h2,h3⟩;obtain⟨rfl,rfl,_⟩:=zg3.1 h3;exact⟨x,s,h1,h2,h3⟩
 ·rintro⟨x,s,h1,h2,h3⟩;exact⟨a.th,x,a.st,s,(zH.1 h1).1,h1,h2,h3⟩
theorem zk1 {p:Prog} {t c:Int}:c∈ofM p t<->ofThread p t c=true:=by
 rw[zcz];simp only[ofM,zsT,idxN,List.take_length,List.mem_map,List.mem_filter,decide_eq_true_eq];constructor
 ·rintro⟨⟨x,i⟩,⟨h1,h2⟩,rfl⟩;rw[List.mem_zipIdx_iff_getElem?]at h1;exact⟨by simp,x,by simpa using h1,h2⟩
 ·rintro⟨h0,x,h1,h2⟩;exact⟨(x,c.toNat),⟨by rw[List.mem_zipIdx_iff_getElem?];exact h1,h2⟩,by simp;omega⟩
theorem ok_acc {p:Prog} (h:p.ok) {a:Acc} (ha:a∈accsM p):a.th<p.threads.length/\a.st<64/\a.ce<p.cells.length+p.threads.length:=by
 obtain⟨x,s,h1,h2,h3⟩:=zel.1 ha;have hp:=ok_iff.1 h;have hi1:=(zH.1 h1).1;have hi2:=(zH.1 h2).1;have hl:=(limits_iff.1 hp.lim).2 x (List.mem_of_getElem? h1);refine⟨hi1,by omega,?_⟩;obtain⟨_,_,h4 | h4⟩:=zg3.1 h3
 ·obtain⟨hk,_,hc⟩:=h4;have ht:=hp.threads _ x h1;rw[threadErr_iff]at ht;have hs:=ht.2.2.2.2.2.1 _ s h2;obtain⟨hb,_,hset,hko⟩:=stepErr_iff.1 hs
  have hj:joinOk p a.th s=true:=by
   unfold kindOk at hko;rcases hk with hk | hk<;>rw[hk]at hko<;>simp at hko
   ·exact hko.1
   ·exact hko
  simp only[joinOk,inR,zF,decide_eq_true_eq]at hj;rw[hc];omega
 ·obtain⟨_,c,hc,he,_⟩:=h4;rw[zk1,zcz]at hc;obtain⟨h0,y,hy,_⟩:=hc;have:=(zH.1 hy).1;omega
theorem clsM_bounds {p:Prog} (h:p.ok) {a:Acc} (ha:a∈accsM p):clsM p a/ (2*(p.cells.length+p.threads.length))=a.th/\clsM p a<p.threads.length*(2*(p.cells.length+p.threads.length)):=by
 obtain⟨h1,_,h2⟩:=ok_acc h ha;unfold clsM
 generalize hb:(if(a.wr&&decide (a.ce<p.cells.length))||decide ((p.stepAt a.th a.st).kind=7)then 1 else 0)=b
 have hb1:b<=1:=by rw[<- hb];split<;>omega
 generalize hS:p.cells.length+p.threads.length=S at h2⊢
 constructor
 ·rw[Nat.add_assoc,Nat.mul_comm,Nat.mul_add_div (by omega)];rw[Nat.div_eq_of_lt (by omega)];rfl
 ·have:(a.th+1)*(2*S)<=p.threads.length*(2*S):=Nat.mul_le_mul_right _ h1;rw[Nat.add_mul]at this;omega
theorem zkr {p:Prog} (h:p.ok) (inner:Step->Bool) (t i:Nat):((p.threads.map fun x=>reachM inner x.steps).getD t []).getD i 0<2^64:=by
 have hp:=(limits_iff.1 (ok_iff.1 h).lim).2;rw[List.getD_eq_getElem?_getD,List.getD_eq_getElem?_getD,zJ]
 cases hx:p.threads[t]? with
 | none=>simp
 | some x=>
   simp only[Option.map_some,Option.getD_some]
   cases hy:(reachM inner x.steps)[i]? with
   | none=>simp
   | some y=>exact zkA inner (hp x (List.mem_of_getElem? hx)).2.1 y (List.mem_of_getElem? hy)
theorem ziD {p:Prog} (h:p.ok) (inner:Step->Bool) {t:Nat} (ht:t<p.threads.length):((p.threads.map fun x=>reachM inner x.steps).getD t []).length=64:=by
 have hp:=(limits_iff.1 (ok_iff.1 h).lim).2;rw[List.getD_eq_getElem?_getD,zJ,zI ht];exact reachM_len inner (hp _ (List.getElem_mem ht)).2.1
theorem grM_ok {p:Prog} (h:p.ok) (model:Int):(grM p model).Ok:=by
 have hac: ∀i,i<(accsM p).length->(grM p model).ac i∈accsM p:=fun i hi=>Gr.ac_mem (g:=grM p model) hi
 have hcl: ∀i,i<(accsM p).length->(grM p model).cl i=clsM p ((grM p model).ac i):=by
  intro i hi;simp only[Gr.cl,Gr.ac,grM,List.getD_eq_getElem?_getD,zJ,zI hi];rfl
 refine⟨by simp[grM],by simp[grM,Gr.sz],by simp[grM],by simp[grM],zkr h _,zkr h _,fun t ht=>ziD h _ ht,fun t ht=>ziD h _ ht,fun i hi=>(ok_acc h (hac i hi)).1,fun i hi=>(ok_acc h (hac i hi)).2.1,fun i hi=> ?_,fun i hi=> ?_,fun c j=> ?_⟩
 ·rw[hcl i hi];exact(clsM_bounds h (hac i hi)).1
 ·rw[hcl i hi];simpa[grM]using(clsM_bounds h (hac i hi)).2
 ·have e:(grM p model).mks c=if c<p.threads.length*(2*(p.cells.length+p.threads.length))then(accsM p).foldl (fun m a=>if decide (clsM p a=c)then m ||| 1<<< a.st else m) 0 else 0:=by
   simp only[Gr.mks,grM,List.getD_eq_getElem?_getD,zJ];split
   ·rename_i h1;rw[List.getElem?_range h1];simp
   ·rename_i h1;rw[List.getElem?_eq_none (by simpa using h1)];rfl
  rw[e];constructor
  ·intro hj;split at hj
   ·rw[zcE (fun a:Acc=>decide (clsM p a=c)) (fun a=>a.st)]at hj;simp only[Nat.zero_testBit,Bool.false_or,List.any_eq_true,zF,decide_eq_true_eq]at hj;obtain⟨a,h1,h2,h3⟩:=hj;obtain⟨i,hi,rfl⟩:=List.mem_iff_getElem.1 h1
    have e2:(grM p model).ac i=(accsM p)[i]:=by
     simp[Gr.ac,grM,List.getD_eq_getElem?_getD,zI hi]
    exact⟨i,hi,by rw[hcl i hi,e2];exact h2,by rw[e2];exact h3⟩
   ·simp at hj
  ·rintro⟨i,hi,h1,h2⟩;rw[hcl i hi]at h1;have hb:=(clsM_bounds h (hac i hi)).2;rw[h1]at hb;rw[if_pos hb,zcE (fun a:Acc=>decide (clsM p a=c)) (fun a=>a.st)];simp only[Nat.zero_testBit,Bool.false_or,List.any_eq_true,zF,decide_eq_true_eq];exact⟨_,hac i hi,h1,h2⟩
theorem Gr.Ok.alone {g:Gr} (ho:g.Ok) {t:Nat} (h: ∀i,i<g.all.length->(g.ac i).th=t):g.shortest=none:=by
 rw[Gr.shortest_none];intro r h1 _;cases hr:g.atRest r
 ·rfl
 ·obtain⟨c,d,_,_,k3,k4⟩:=Gr.atRest_iff.1 hr;obtain⟨i1,i2,i3,_⟩:=Gr.isPair_iff.1 k3
  have hthr: ∀f c,g.maskF f c g.all.length≠0->g.thr c=t:=by
   intro f c hc;obtain⟨j,hj⟩:=za8.1 hc;obtain⟨⟨a,c'⟩,hq,_,rfl,_⟩:=(Gr.maskF_bit f c _ j).1 hj;obtain⟨n,hn,he⟩:=List.mem_iff_getElem.1 (List.mem_of_mem_take hq);have hn1:n<g.all.length:=by rw[List.length_zip]at hn;omega
   have hn2:n<g.cls.length:=by rw[ho.cl_len];exact hn1
   have e:g.cl n=c':=by
    rw[List.getElem_zip]at he;simp only[Gr.cl,List.getD_eq_getElem?_getD,zI hn2,Option.getD_some];exact(Prod.mk.inj he).2
   rw[<- e,ho.thr_cl n hn1,h n hn1]
  obtain⟨r,rfl⟩: ∃k,r=k+1:=⟨r-1,by omega⟩
  rw[Gr.ends_succ,List.any_eq_true]at k4;obtain⟨e,_,h5⟩:=k4;simp only[Gr.ok,zF,decide_eq_true_eq,Bool.not_eq_true']at h5;obtain⟨⟨h6,h7,_⟩,_⟩:=h5;obtain⟨j,hj⟩:=za8.1 h6;obtain⟨n,hn,h8,_⟩:=(ho.mk_bit e j).1 hj;rw[hthr g.lat d i2,zl1]at h7;rw[<- h8,ho.thr_cl n hn,h n hn]at h7;simp at h7
theorem Gr.Ok.mk_lt {g:Gr} (h:g.Ok) (c:Nat):g.mks c<2^64:=by
 refine Nat.lt_pow_two_of_testBit _ fun i hi=> ?_
 cases hb:(g.mks c).testBit i
 ·rfl
 ·obtain⟨n,h1,_,h2⟩:=(h.mk_bit c i).1 hb;have:=h.st_lt n h1;omega
def rowsT (f:Nat->Nat->Nat):List T:=(List.range 256).map fun j=> .int .u64 (f (j/ 64) (j % 64):Nat)
def restT (g:Gr):List T:=rowsT g.ldAt++rowsT g.qkAt++[.opq]
abbrev zpz (l:List Nat):T:=.sl (l.map fun m:Nat=>[.int .u64 m])
theorem zb0 (f:Nat->Nat->Nat):(rowsT f).length=256:=by simp[rowsT]
theorem zf3 (f:Nat->Nat->Nat) {t i:Nat} (ht:t<4) (hi:i<64):(rowsT f)[t*64+i]? =some (.int .u64 (f t i)):=by
 simp only[rowsT,zJ];rw[List.getElem?_range (by omega)];simp only[Option.map_some];rw[show(t*64+i)/ 64=t by omega,show(t*64+i) % 64=i by omega]
theorem zmp {α:Type} {l:List α} {i:Nat} {x:α} (h:l[i]? =some x):List.take 1 (List.drop i l)=[x]:=by
 have hi:=(zH.1 h).1;rw[zba h];rfl
theorem zoo (g:Gr) {t i:Nat} (ht:t<4) (hi:i<64):List.take 1 (List.drop i (List.drop (t*64) (restT g)))=[.int .u64 (g.ldAt t i)]:=by
 rw[List.drop_drop];refine zmp ?_;rw[restT,List.append_assoc,List.getElem?_append_left (by rw[zb0];omega),zf3 _ ht hi]
theorem zeg (g:Gr):(restT g).length=513:=by simp[restT,zb0]
theorem zoH (a b:Nat):((a:Int)=(b:Int))=(a=b):=propext Int.ofNat_inj
abbrev grT (cs ms ls ts:List (List T)) (model:Int) (g:Gr):T:=.ip (.sl cs:: .sl ms:: .sl ls:: .sl ts:: .int .i64 model:: .sl (g.all.map Acc.enc)::ints (g.cls.map fun c:Nat=>(c:Int))::zpz g.msk::restT g)
end Rg
end
