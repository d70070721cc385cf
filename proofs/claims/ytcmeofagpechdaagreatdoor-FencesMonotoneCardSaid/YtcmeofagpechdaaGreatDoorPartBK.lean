/- Part of the proof of laws of relyguardlaw31. No condition. -/
import Derived.Test.YtcmeofagpechdaaGreatDoorPartBA
import Derived.Test.YtcmeofagpechdaaGreatDoorPartBE
import Derived.Test.YtcmeofagpechdaaGreatDoorPartBD
import Derived.Test.YtcmeofagpechdaaGreatDoorPartBH
import Derived.Test.YtcmeofagpechdaaGreatDoorPartBI
set_option linter.unusedSimpArgs false
set_option linter.unusedVariables false
section
namespace Rg
open Go
inductive Pth (inner:Step->Bool) (J:Int->Prop) (l:List Step) (i:Nat):Nat->Prop
 | one {j:Nat} {x y:Step} (hx:l[i]? =some x) (hy:l[j]? =some y) (h:x.to=y.fr) (hj:J x.to):Pth inner J l i j
 | snoc {k j:Nat} {x y:Step} (hp:Pth inner J l i k) (hx:l[k]? =some x) (hi:inner x=true) (hy:l[j]? =some y) (h:x.to=y.fr) (hj:J x.to):Pth inner J l i j
theorem Pth.trans {inner:Step->Bool} {J:Int->Prop} {l:List Step} {i k j:Nat} {x:Step} (h1:Pth inner J l i k) (hx:l[k]? =some x) (hi:inner x=true) (h2:Pth inner J l k j):Pth inner J l i j:=by
 induction h2 with
 | one hx' hy h hj=>rw[hx]at hx';cases hx';exact .snoc h1 hx hi hy h hj
 | snoc _ hx' hi' hy h hj ih=>exact .snoc ih hx' hi' hy h hj
theorem Pth.mono {inner:Step->Bool} {J K:Int->Prop} (hJ: ∀f,J f->K f) {l:List Step} {i j:Nat} (h:Pth inner J l i j):Pth inner K l i j:=by
 induction h with
 | one hx hy h hj=>exact .one hx hy h (hJ _ hj)
 | snoc _ hx hi hy h hj ih=>exact .snoc ih hx hi hy h (hJ _ hj)
def rbit (r:List Nat) (i j:Nat):Prop:=(r.getD i 0).testBit j=true
theorem zxJ (f:Step->Bool) (l:List Step) (j:Nat):(maskS f l).testBit j=true<-> ∃y,l[j]? =some y/\f y=true:=by
 unfold maskS;rw[zcE (fun q:Step×Nat=>f q.1) (fun q=>q.2)];simp only[Nat.zero_testBit,Bool.false_or,List.any_eq_true,zF,decide_eq_true_eq];constructor
 ·rintro⟨⟨y,k⟩,h1,h2,rfl⟩;rw[List.mem_zipIdx_iff_getElem?]at h1;exact⟨y,h1,h2⟩
 ·rintro⟨y,h1,h2⟩;exact⟨(y,j),by rw[List.mem_zipIdx_iff_getElem?];exact h1,h2,rfl⟩
theorem rbit_0 {l:List Step} {i j:Nat}:rbit (reach0 l) i j<-> ∃x y,l[i]? =some x/\l[j]? =some y/\x.to=y.fr:=by
 unfold rbit reach0;rw[List.getD_eq_getElem?_getD,zJ]
 cases hx:l[i]? with
 | none=>simp
 | some x=>
   simp only[Option.map_some,Option.getD_some];rw[zxJ];constructor
   ·rintro⟨y,hy,h⟩;exact⟨x,y,rfl,hy,of_decide_eq_true h⟩
   ·rintro⟨x',y,hx',hy,h⟩;cases hx';exact⟨y,hy,decide_eq_true h⟩
theorem zxS {r:List Nat} {k i j:Nat}:rbit (reachS k r) i j<->rbit r i j\/(rbit r i k/\rbit r k j):=by
 unfold rbit reachS;rw[List.getD_eq_getElem?_getD,zJ]
 cases hr:r[i]? with
 | none=>
   have e:r.getD i 0=0:=by rw[List.getD_eq_getElem?_getD,hr];rfl
   rw[e];simp
 | some m=>
   have e:r.getD i 0=m:=by rw[List.getD_eq_getElem?_getD,hr];rfl
   rw[e];simp only[Option.map_some,Option.getD_some]
   by_cases hk:m.testBit k=true
   ·rw[if_pos hk,Nat.testBit_or,Bool.or_eq_true];simp[hk]
   ·rw[if_neg hk];simp[hk]
section
variable {inner:Step->Bool} {l:List Step}
theorem rbit_N {k:Nat} {s:Step} (h:l[k]? =some s) {i j:Nat}:rbit (reachN inner l (k+1)) i j<->rbit (reachN inner l k) i j\/(inner s=true/\rbit (reachN inner l k) i k/\rbit (reachN inner l k) k j):=by
 rw[zdh h]
 by_cases hi:inner s=true
 ·rw[if_pos hi,zxS];simp[hi]
 ·rw[if_neg hi];simp[hi]
theorem reach_pth: ∀n,n<=l.length-> ∀i j,rbit (reachN inner l n) i j->Pth inner (fun _=>True) l i j
 | 0,_,i,j,h=>by
   obtain⟨x,y,hx,hy,he⟩:=rbit_0.1 (show rbit (reach0 l) i j from h)
   exact .one hx hy he trivial
 | n+1,hn,i,j,h=>by
   obtain⟨s,hs,_⟩:=zaf (show n<l.length by omega);rcases(rbit_N hs).1 h with h | ⟨hi,h1,h2⟩
   ·exact reach_pth n (by omega) i j h
   ·exact(reach_pth n (by omega) i n h1).trans hs hi (reach_pth n (by omega) n j h2)
theorem reach_base {i j:Nat} (h:rbit (reach0 l) i j): ∀n,n<=l.length->rbit (reachN inner l n) i j
 | 0,_=>h
 | n+1,hn=>by
   obtain⟨s,hs,_⟩:=zaf (show n<l.length by omega);exact(rbit_N hs).2 (.inl (reach_base h n (by omega)))
theorem zxq: ∀n,n<=l.length-> ∀i j k s,k<n->l[k]? =some s->inner s=true->rbit (reachN inner l n) i k->rbit (reachN inner l n) k j->rbit (reachN inner l n) i j
 | 0,_,i,j,k,s,hk,_,_,_,_=>by omega
 | n+1,hn,i,j,k,s,hk,hs,hi,h1,h2=>by
   obtain⟨t,ht,_⟩:=zaf (show n<l.length by omega);have ih:=zxq n (by omega);rw[rbit_N ht]at h1 h2⊢
   by_cases hkn:k=n
   ·subst hkn;rw[hs]at ht;cases ht;have g1:rbit (reachN inner l k) i k:=by rcases h1 with h | ⟨_,h,_⟩<;>exact h
    have g2:rbit (reachN inner l k) k j:=by rcases h2 with h | ⟨_,_,h⟩<;>exact h
    exact .inr ⟨hi,g1,g2⟩
   ·have hk':k<n:=by omega
    rcases h1 with h1 | ⟨hit,h1,h1'⟩
    ·rcases h2 with h2 | ⟨hit,h2,h2'⟩
     ·exact .inl (ih i j k s hk' hs hi h1 h2)
     ·exact .inr ⟨hit,ih i n k s hk' hs hi h1 h2,h2'⟩
    ·rcases h2 with h2 | ⟨_,h2,h2'⟩
     ·exact .inr ⟨hit,h1,ih n j k s hk' hs hi h1' h2⟩
     ·exact .inr ⟨hit,h1,h2'⟩
theorem zxD {i j:Nat} (h:Pth inner (fun _=>True) l i j):rbit (reachN inner l l.length) i j:=by
 induction h with
 | one hx hy he _=>exact reach_base (rbit_0.2 ⟨_,_,hx,hy,he⟩) _ (Nat.le_refl _)
 | snoc _ hx hi hy he _ ih=>
   exact zxq _ (Nat.le_refl _) _ _ _ _ (zH.1 hx).1 hx hi ih (reach_base (rbit_0.2 ⟨_,_,hx,hy,he⟩) _ (Nat.le_refl _))
theorem zxT {i j:Nat}:rbit (reachM inner l) i j<->Pth inner (fun _=>True) l i j:=by
 have hl:=zb2 inner l l.length (Nat.le_refl _)
 have e:rbit (reachM inner l) i j<->rbit (reachN inner l l.length) i j:=by
  unfold rbit reachM;rw[List.getD_eq_getElem?_getD,List.getElem?_append];split
  ·rw[List.getD_eq_getElem?_getD]
  ·rename_i hn;rw[List.getD_eq_getElem?_getD,List.getElem?_eq_none (l:=reachN inner l l.length) (by omega),List.getElem?_replicate];split<;>simp
 rw[e];exact⟨reach_pth _ (Nat.le_refl _) i j,zxD⟩
end
end Rg
end
section
namespace Rg
open Go
theorem zxO {b:Nat->Bool} {m n:Nat} (h:newB b m=newB b n+(if b n then 1 else 0)):m=n/\b n=false:=by
 rcases Nat.lt_trichotomy m n with h1 | rfl | h1
 ·have:=zoF (b:=b) h1;split at h<;>(split at this<;>omega)
 ·refine⟨rfl,?_⟩;cases hb:b m
  ·rfl
  ·rw[hb]at h;simp at h
 ·have:=zoF (b:=b) h1;split at h<;>(split at this<;>omega)
theorem zxF {b:Nat->Bool} {m n:Nat} (h:newB b m=newB b n):m=n:=by
 rcases Nat.lt_trichotomy m n with h1 | rfl | h1
 ·have:=zoF (b:=b) h1;split at this<;>omega
 ·rfl
 ·have:=zoF (b:=b) h1;split at this<;>omega
theorem zxV {b:Nat->Bool} {f n:Nat} (hf:b f=true) (h:newB b f+1=newB b n+(if b n then 1 else 0)):n=f:=by
 rcases Nat.lt_trichotomy f n with h1 | rfl | h1
 ·have:=zoF (b:=b) h1;rw[hf]at this;simp only[if_true]at this;split at h<;>omega
 ·rfl
 ·have:=zoF (b:=b) h1;split at h<;>(split at this<;>omega)
theorem nb_three {b:Nat->Bool} {f g:Nat} (hf:b f=true):newB b f+1≠newB b g:=by
 intro h;rcases Nat.lt_trichotomy f g with h1 | rfl | h1
 ·have:=zoF (b:=b) h1;rw[hf]at this;simp only[if_true]at this;omega
 ·omega
 ·have:=zoF (b:=b) h1;split at this<;>omega
section
variable {x:Thread} {b:Nat->Bool}
theorem zxo {j:Nat} {y:Step} (h:(x.ins b).steps[j]? =some y):(j<x.steps.length/\ ∃s,x.steps[j]? =some s/\y=s.ins b)\/(x.steps.length<=j/\ ∃f,f<x.points.toNat/\b f=true/\y=fenceS b x f):=by
 have h':(x.steps.map (Step.ins b)++(fencedL b x.points.toNat).map (fenceS b x))[j]? =some y:=h;rw[List.getElem?_append,List.length_map]at h';split at h'
 ·rename_i hj;rw[zJ,zI hj]at h';exact .inl ⟨hj,_,zI hj,by simpa using h'.symm⟩
 ·rename_i hj;rw[zJ,zE]at h';obtain⟨f,hf,rfl⟩:=h';have hm:=List.mem_of_getElem? hf;unfold fencedL at hm;rw[List.mem_filter,List.mem_range]at hm;exact .inr ⟨by omega,f,hm.1,hm.2,rfl⟩
theorem ins_old {j:Nat} {s:Step} (h:x.steps[j]? =some s):(x.ins b).steps[j]? =some (s.ins b):=by
 show(x.steps.map (Step.ins b)++(fencedL b x.points.toNat).map (fenceS b x))[j]? =_;have hj:=(zH.1 h).1;rw[List.getElem?_append_left (by simpa using hj),zJ,h];rfl
theorem zxR {f:Nat} (hf:f<x.points.toNat) (hb:b f=true): ∃j:Nat,(x.ins b).steps[j]? =some (fenceS b x f):=by
 have hm:f∈fencedL b x.points.toNat:=by unfold fencedL;rw[List.mem_filter,List.mem_range];exact⟨hf,hb⟩
 exact List.getElem?_of_mem (show fenceS b x f∈x.steps.map (Step.ins b)++(fencedL b x.points.toNat).map (fenceS b x)from List.mem_append_right _ (List.mem_map_of_mem hm))
def zxX (x:Thread):Prop:= ∀s∈x.steps,(0<=s.fr/\s.fr<x.points)/\0<=s.to/\s.to<x.points
theorem zxt (b:Nat->Bool) (s:Step):(s.ins b).fr=((newB b s.fr.toNat+(if b s.fr.toNat then 1 else 0):Nat):Int):=by
 unfold Step.ins zoE;cases b s.fr.toNat<;>simp
theorem zxr (b:Nat->Bool) (s:Step):(s.ins b).to=((newB b s.to.toNat:Nat):Int):=rfl
theorem zxw (f:Nat):(fenceS b x f).fr=((newB b f:Nat):Int):=rfl
theorem zxz (f:Nat):(fenceS b x f).to=((newB b f+1:Nat):Int):=by simp[fenceS]
variable {inner:Step->Bool} {c:Bool} (hi : ∀ s,inner (s.ins b)=inner s) (hc : ∀ f,inner (fenceS b x f)=c) (hp:zxX x)
include hi hc hp
theorem ins_pth1 {i j:Nat} (hil:i<x.steps.length) (h:Pth inner (fun _=>True) (x.ins b).steps i j):
 (j<x.steps.length->Pth inner (fun f=>c=true\/b f.toNat=false) x.steps i j)/\
 (∀f,(x.ins b).steps[j]? =some (fenceS b x f)->x.steps.length<=j->b f=true->(∃s,x.steps[i]? =some s/\s.to=f)\/ ∃k s,Pth inner (fun f=>c=true\/b f.toNat=false) x.steps i k/\x.steps[k]? =some s/\inner s=true/\s.to=f):=by
 induction h with
 | one hx hy he _=>
   rename_i u v _
   obtain⟨s,hs,rfl⟩: ∃s,x.steps[i]? =some s/\u=s.ins b:=by
    rcases zxo hx with⟨_,s,hs,h⟩ | ⟨h,_⟩
    ·exact⟨s,hs,h⟩
    ·omega
   have hs0:=hp s (List.mem_of_getElem? hs);refine⟨fun hj=> ?_,fun f hf hj hb=> .inl ⟨s,hs,?_⟩⟩
   ·rcases zxo hy with⟨_,t,ht,rfl⟩ | ⟨h,_⟩
    ·have ht0:=hp t (List.mem_of_getElem? ht);rw[zxr,zxt]at he;obtain⟨e1,e2⟩:=zxO (Int.ofNat.inj he);exact .one hs ht (by omega) (.inr (by rw[e1];exact e2))
    ·omega
   ·rw[hy]at hf;cases hf;rw[zxr,zxw]at he;have:=zxF (Int.ofNat.inj he)
    omega
 | snoc hpk hx hin hy he _ ih=>
   rename_i k j u v _;rcases zxo hx with⟨hk,s,hs,rfl⟩ | ⟨hk,f,hf,hb,rfl⟩
   ·have hs0:=hp s (List.mem_of_getElem? hs);have hP:=ih.1 hk;refine⟨fun hj=> ?_,fun f hf hj hb=> .inr ⟨k,s,hP,hs,by rw[<- hi];exact hin,?_⟩⟩
    ·rcases zxo hy with⟨_,t,ht,rfl⟩ | ⟨h,_⟩
     ·have ht0:=hp t (List.mem_of_getElem? ht);rw[zxr,zxt]at he;obtain⟨e1,e2⟩:=zxO (Int.ofNat.inj he);exact .snoc hP hs (by rw[<- hi];exact hin) ht (by omega) (.inr (by rw[e1];exact e2))
     ·omega
    ·rw[hy]at hf;cases hf;rw[zxr,zxw]at he;have:=zxF (Int.ofNat.inj he);omega
   ·have hcT:c=true:=by rw[<- hc f];exact hin
    refine⟨fun hj=> ?_,fun g hg hj hbg=> ?_⟩
    ·rcases zxo hy with⟨_,t,ht,rfl⟩ | ⟨h,_⟩
     ·have ht0:=hp t (List.mem_of_getElem? ht);rw[zxz,zxt]at he;have e1:=zxV hb (Int.ofNat.inj he);rcases ih.2 f hx hk hb with⟨s,hs,hst⟩ | ⟨k',s,hP,hs,his,hst⟩
      ·exact .one hs ht (by omega) (.inl hcT)
      ·exact .snoc hP hs his ht (by omega) (.inl hcT)
     ·omega
    ·rw[hy]at hg;cases hg;rw[zxz,zxw]at he;exact absurd (Int.ofNat.inj he) (nb_three hb)
theorem zxM {i j:Nat} (h:Pth inner (fun f=>c=true\/b f.toNat=false) x.steps i j):Pth inner (fun _=>True) (x.ins b).steps i j:=by
 have key: ∀(s t:Step),s∈x.steps->t∈x.steps->s.to=t.fr->(c=true\/b s.to.toNat=false)->(s.ins b).to=(t.ins b).fr\/ ∃(jf f:Nat),(x.ins b).steps[jf]? =some (fenceS b x f)/\inner (fenceS b x f)=true/\(s.ins b).to=(fenceS b x f).fr/\(fenceS b x f).to=(t.ins b).fr:=by
  intro s t hs ht he hJ;have hs0:=hp s hs;cases hb:b s.to.toNat
  ·left;rw[zxr,zxt,<- he,hb];simp
  ·right;have hcT:c=true:=by rcases hJ with h | h;exact h;rw[hb]at h;cases h
   obtain⟨jf,hjf⟩:=zxR (x:=x) (show s.to.toNat<x.points.toNat by omega) hb;exact⟨jf,_,hjf,by rw[hc];exact hcT,by rw[zxr,zxw],by rw[zxz,zxt,<- he,hb];simp⟩
 induction h with
 | one hx hy he hj=>
   rcases key _ _ (List.mem_of_getElem? hx) (List.mem_of_getElem? hy) he hj with h | ⟨jf,f,h1,h2,h3,h4⟩
   ·exact .one (ins_old hx) (ins_old hy) h trivial
   ·exact .snoc (.one (ins_old hx) h1 h3 trivial) h1 h2 (ins_old hy) h4 trivial
 | snoc _ hx hin hy he hj ih=>
   rcases key _ _ (List.mem_of_getElem? hx) (List.mem_of_getElem? hy) he hj with h | ⟨jf,f,h1,h2,h3,h4⟩
   ·exact .snoc ih (ins_old hx) (by rw[hi];exact hin) (ins_old hy) h trivial
   ·exact .snoc (.snoc ih (ins_old hx) (by rw[hi];exact hin) h1 h3 trivial) h1 h2 (ins_old hy) h4 trivial
theorem zxG {i j:Nat} (hil:i<x.steps.length) (hjl:j<x.steps.length):rbit (reachM inner (x.ins b).steps) i j<->Pth inner (fun f=>c=true\/b f.toNat=false) x.steps i j:=by
 rw[zxT];exact⟨fun h=>(ins_pth1 hi hc hp hil h).1 hjl,zxM hi hc hp⟩
end
end Rg
end
section
namespace Rg
open Go
structure Gr.Sub2 (a b:Gr):Prop where
 nc:a.nc=b.nc
 nt:a.nt=b.nt
 len:a.msk.length=b.msk.length
 mks: ∀c,zmc (a.mks c) (b.mks c)
 ea: ∀c,zmc (a.eaM c) (b.eaM c)
 la: ∀c,zmc (a.laM c) (b.laM c)
 ll: ∀t,(a.ld.getD t []).length=(b.ld.getD t []).length
 ld: ∀c d i j,a.thr c=a.thr d->(a.mks c).testBit i=true->(a.mks d).testBit j=true->rbit (a.ld.getD (a.thr c) []) i j->rbit (b.ld.getD (a.thr c) []) i j
 qk: ∀c d i j,a.thr c=a.thr d->(a.eaM c).testBit i=true->(a.laM d).testBit j=true->rbit (a.qk.getD (a.thr c) []) i j->rbit (b.qk.getD (a.thr c) []) i j
theorem zxI {same:Bool} {i m m' j:Nat} (h:m.testBit j=true->m'.testBit j=true) (hm:(Gr.rowC same i m).testBit j=true):(Gr.rowC same i m').testBit j=true:=by
 unfold Gr.rowC at hm⊢;cases same
 ·simp only[zG,if_false,Nat.testBit_or,Bool.or_eq_true]at hm⊢;exact hm.imp h id
 ·simp only[if_true,Nat.testBit_and,Nat.testBit_or,zF,Bool.or_eq_true]at hm⊢;exact⟨hm.1.imp h id,hm.2⟩
namespace Gr.Sub2
variable {a b:Gr} (h:a.Sub2 b)
include h
theorem sz:a.sz=b.sz:=by unfold Gr.sz;rw[h.nc,h.nt]
theorem thr (c:Nat):a.thr c=b.thr c:=by unfold Gr.thr;rw[h.sz]
theorem prec (c d:Nat):a.prec c d=b.prec c d:=by unfold Gr.prec;rw[h.nc,h.nt]
theorem ok {c d m:Nat} (hk:a.ok c d m=true):b.ok c d m=true:=by
 simp only[Gr.ok,zF,decide_eq_true_eq]at hk⊢;refine⟨(h.mks d).ne hk.1,?_,?_⟩
 ·rw[<- h.thr];exact hk.2.1
 ·rw[<- h.prec];exact hk.2.2
theorem couple {c d:Nat} (ht:a.thr c=a.thr d) (hk:a.couple c d=true):b.couple c d=true:=by
 unfold Gr.couple at hk⊢;obtain⟨i,j,hi,h1,h2,h3⟩:=zeI.1 hk;refine zeI.2 ⟨i,j,hi,h.mks c i h1,?_,h.mks d j h3⟩;have hl:=h.ll (a.thr c);rw[<- h.thr];rw[List.getD_eq_getElem?_getD,List.getElem?_mapIdx]at h2⊢
 cases hr:(a.ld.getD (a.thr c) [])[i]? with
 | none=>rw[hr]at h2;simp at h2
 | some m=>
   rw[hr]at h2;have hil:i<(b.ld.getD (a.thr c) []).length:=by rw[<- hl];exact(zH.1 hr).1
   rw[zI hil];simp only[Option.map_some,Option.getD_some]at h2⊢;refine zxI (fun hm=> ?_) h2;have:=h.ld c d i j ht h1 h3 (by unfold rbit;rw[List.getD_eq_getElem?_getD,hr];exact hm);unfold rbit at this;rw[List.getD_eq_getElem?_getD,zI hil]at this;exact this
theorem ends: ∀(r goal c m:Nat),a.ends r goal c m=true->b.ends r goal c m=true
 | 0,goal,c,m,hk=>by rw[Gr.ends]at hk⊢;rw[<- h.prec];exact hk
 | 1,goal,c,m,hk=>by
   rw[Gr.ends,List.any_eq_true]at hk⊢;obtain⟨d,h1,h2⟩:=hk;rw[zF]at h2;refine⟨d,by rw[<- h.len];exact h1,?_⟩
   rw[h.ok h2.1,<- h.thr,ends 0 _ _ _ h2.2];rfl
 | r+2,goal,c,m,hk=>by
   rw[Gr.ends,List.any_eq_true]at hk⊢;obtain⟨d,h1,h2⟩:=hk;rw[zF,Bool.or_eq_true,List.any_eq_true]at h2;refine⟨d,by rw[<- h.len];exact h1,?_⟩;rw[h.ok h2.1,<- h.thr,Bool.true_and,Bool.or_eq_true,List.any_eq_true];rcases h2.2 with h3 | ⟨e,h3,h4⟩
   ·exact .inl (ends (r+1) _ _ _ h3)
   ·simp only[zF,decide_eq_true_eq]at h4;exact .inr ⟨e,by rw[<- h.len];exact h3,by rw[<- h.thr,h.couple h4.1.symm h4.2.1,ends r _ _ _ h4.2.2];simp[h4.1]⟩
theorem isPair {c d:Nat} (hk:a.isPair c d=true):b.isPair c d=true:=by
 rw[Gr.isPair_iff]at hk⊢;obtain⟨h1,h2,h3,h4,h5⟩:=hk;refine⟨(h.ea c).ne h1,(h.la d).ne h2,by rw[<- h.thr,<- h.thr];exact h3,h4,?_⟩;obtain⟨i,j,hi,k1,k2,k3⟩:=zeI.1 h5;exact zeI.2 ⟨i,j,hi,h.ea c i k1,by rw[<- h.thr];exact h.qk c d i j h3 k1 k3 k2,h.la d j k3⟩
theorem shortest (hb:b.shortest=none):a.shortest=none:=by
 rw[Gr.shortest_none]at hb⊢;intro r h1 h2;have:=hb r h1 (by rw[<- h.nt];exact h2);cases hr:a.atRest r
 ·rfl
 ·obtain⟨c,d,k1,k2,k3,k4⟩:=Gr.atRest_iff.1 hr;rw[show b.atRest r=true from Gr.atRest_iff.2 ⟨c,d,by rw[<- h.len];exact k1,by rw[<- h.len];exact k2,h.isPair k3,by rw[<- h.thr];exact h.ends _ _ _ _ k4⟩]at this;exact this
end Gr.Sub2
section
variable {p:Prog} {B:Nat->Nat->Bool}
theorem insP_get {t:Nat} {x:Thread} (h:p.threads[t]? =some x):(p.ins B).threads[t]? =some (x.ins (B t)):=by
 show(p.threads.mapIdx fun t x=>x.ins (B t))[t]? =_;rw[List.getElem?_mapIdx,h];rfl
theorem zxH {t:Nat} {y:Thread} (h:(p.ins B).threads[t]? =some y): ∃x,p.threads[t]? =some x/\y=x.ins (B t):=by
 have h':(p.threads.mapIdx fun t x=>x.ins (B t))[t]? =some y:=h;rw[List.getElem?_mapIdx,zE]at h';obtain⟨x,hx,rfl⟩:=h';exact⟨x,hx,rfl⟩
theorem zxm:(p.ins B).threads.length=p.threads.length:=by
 show(p.threads.mapIdx fun t x=>x.ins (B t)).length=_;simp
theorem zxy (b:Nat->Bool) (x:Thread) (f t i:Nat):accsS (p.ins B) t i (fenceS b x f)=[]:=by
 have h1:readsM (fenceS b x f)=[]:=by
  show sortedM ((Expr.mk 1 1 1 []).sup 2++[])=[]
  decide+kernel
 have h2:writesM (fenceS b x f)=[]:=by
  show sortedM []=[]
  decide+kernel
 unfold accsS accsC;rw[if_neg (by simp[fenceS]),h1,h2];simp
theorem ins_accs (a:Acc):a∈accsM (p.ins B)<->a∈accsM p:=by
 rw[zel,zel];constructor
 ·rintro⟨y,s,h1,h2,h3⟩;obtain⟨x,hx,rfl⟩:=zxH h1;rcases zxo h2 with⟨_,s0,hs0,rfl⟩ | ⟨_,f,_,_,rfl⟩
  ·exact⟨x,s0,hx,hs0,h3⟩
  ·rw[zxy]at h3;simp at h3
 ·rintro⟨x,s,h1,h2,h3⟩;exact⟨_,_,insP_get h1,ins_old h2,h3⟩
theorem ins_stepAt {a:Acc} (ha:a∈accsM p):(p.ins B).stepAt a.th a.st=(p.stepAt a.th a.st).ins (B a.th)/\ ∃x s,p.threads[a.th]? =some x/\x.steps[a.st]? =some s:=by
 obtain⟨x,s,h1,h2,_⟩:=zel.1 ha;refine⟨?_,x,s,h1,h2⟩;rw[zdo h1 h2,zdo (insP_get h1) (ins_old h2)]
theorem zxp {a:Acc} (ha:a∈accsM p):clsM (p.ins B) a=clsM p a:=by
 unfold clsM;rw[(ins_stepAt ha).1,zxm];rfl
end
theorem ins_sub {p:Prog} {A B:Nat->Nat->Bool} (hAB: ∀t n,A t n=true->B t n=true) (hok:p.ok) (hA:(p.ins A).ok) (hB:(p.ins B).ok) (model:Int):(grM (p.ins B) model).Sub2 (grM (p.ins A) model):=by
 have hth: ∀{X:Nat->Nat->Bool} {c},(grM (p.ins X) model).thr c=(grM p model).thr c:=by
  intro X c;unfold Gr.thr Gr.sz grM;rw[zxm];rfl
 have hthr: ∀{a:Acc},a∈accsM p->(grM p model).thr (clsM p a)=a.th:=fun ha=>(clsM_bounds hok ha).1
 have hAcc: ∀{a:Acc},a∈accsM (p.ins B)->a∈accsM p:=fun h=>(ins_accs _).1 h
 have hBA: ∀{a:Acc},a∈accsM p->a∈accsM (p.ins A):=fun h=>(ins_accs _).2 h
 have hear: ∀{X:Nat->Nat->Bool} {a:Acc},a∈accsM p->(grM (p.ins X) model).ear a=(grM p model).ear a:=by
  intro X a ha;show(a.wr&&decide (((p.ins X).stepAt a.th a.st).kind=3))=_;rw[(ins_stepAt ha).1];rfl
 have hlat: ∀{X:Nat->Nat->Bool} {a:Acc},a∈accsM p->(grM (p.ins X) model).lat a=(grM p model).lat a:=by
  intro X a ha;show lateM model ((p.ins X).stepAt a.th a.st).kind ((p.ins X).stepAt a.th a.st).release a.wr=_;rw[(ins_stepAt ha).1];rfl
 have hmk: ∀{X:Nat->Nat->Bool} (hX:(p.ins X).ok) {c j:Nat},((grM (p.ins X) model).mks c).testBit j=true<-> ∃a∈accsM p,clsM p a=c/\a.st=j:=by
  intro X hX c j;rw[zxW hX];constructor
  ·rintro⟨a,h1,h2,h3⟩;have h4:=(ins_accs a).1 h1;exact⟨a,h4,by rw[<- zxp h4];exact h2,h3⟩
  ·rintro⟨a,h1,h2,h3⟩;exact⟨a,(ins_accs a).2 h1,by rw[zxp h1];exact h2,h3⟩
 have hea: ∀{X:Nat->Nat->Bool} {c j:Nat},((grM (p.ins X) model).eaM c).testBit j=true<-> ∃a∈accsM p,(grM p model).ear a=true/\clsM p a=c/\a.st=j:=by
  intro X c j;rw[show((grM (p.ins X) model).eaM c)=(grM (p.ins X) model).maskF (grM (p.ins X) model).ear c (accsM (p.ins X)).length from rfl,zxv];constructor
  ·rintro⟨a,h1,h2,h3,h4⟩;have h5:=(ins_accs a).1 h1;exact⟨a,h5,by rw[<- hear h5];exact h2,by rw[<- zxp h5];exact h3,h4⟩
  ·rintro⟨a,h1,h2,h3,h4⟩;exact⟨a,(ins_accs a).2 h1,by rw[hear h1];exact h2,by rw[zxp h1];exact h3,h4⟩
 have hla: ∀{X:Nat->Nat->Bool} {c j:Nat},((grM (p.ins X) model).laM c).testBit j=true<-> ∃a∈accsM p,(grM p model).lat a=true/\clsM p a=c/\a.st=j:=by
  intro X c j;rw[show((grM (p.ins X) model).laM c)=(grM (p.ins X) model).maskF (grM (p.ins X) model).lat c (accsM (p.ins X)).length from rfl,zxv];constructor
  ·rintro⟨a,h1,h2,h3,h4⟩;have h5:=(ins_accs a).1 h1;exact⟨a,h5,by rw[<- hlat h5];exact h2,by rw[<- zxp h5];exact h3,h4⟩
  ·rintro⟨a,h1,h2,h3,h4⟩;exact⟨a,(ins_accs a).2 h1,by rw[hlat h1];exact h2,by rw[zxp h1];exact h3,h4⟩
 have hrow: ∀{X:Nat->Nat->Bool} (inner:Step->Bool) {t:Nat} {x:Thread},p.threads[t]? =some x->((p.ins X).threads.map fun x=>reachM inner x.steps).getD t []=reachM inner (x.ins (X t)).steps:=by
  intro X inner t x hx;rw[List.getD_eq_getElem?_getD,zJ,insP_get hx];rfl
 have hpts: ∀{t:Nat} {x:Thread},p.threads[t]? =some x->zxX x:=fun hx s hs=>by
  obtain⟨i,hi⟩:=List.getElem?_of_mem hs;have:=ok_stp hok hx hi;exact⟨⟨this.1.1,by omega⟩,this.2.1⟩
 have hreach: ∀(inner:Step->Bool) (c:Bool) (h1: ∀(b:Nat->Bool) (s:Step),inner (s.ins b)=inner s) (h2: ∀(b:Nat->Bool) (x:Thread) (f:Nat),inner (fenceS b x f)=c) {a a':Acc},a∈accsM p->a'∈accsM p->a.th=a'.th->
  rbit (((p.ins B).threads.map fun x=>reachM inner x.steps).getD a.th []) a.st a'.st->rbit (((p.ins A).threads.map fun x=>reachM inner x.steps).getD a.th []) a.st a'.st:=by
  intro inner c h1 h2 a a' ha ha' hth h;obtain⟨x,s,hx,hs,_⟩:=zel.1 ha;obtain⟨x',s',hx',hs',_⟩:=zel.1 ha';rw[<- hth,hx]at hx';cases hx';have l1:=(zH.1 hs).1;have l2:=(zH.1 hs').1;rw[hrow inner hx]at h⊢;rw[zxG (h1 _) (h2 _ x) (hpts hx) l1 l2]at h⊢;refine h.mono fun f hf=>hf.imp id fun hb=> ?_
  cases hA':A a.th f.toNat
  ·rfl
  ·rw[hAB _ _ hA']at hb;cases hb
 refine⟨rfl,by show(p.ins B).threads.length=(p.ins A).threads.length;rw[zxm,zxm],by simp only[grM,List.length_map,zxm];rfl,fun c j hj=>(hmk hA).2 ((hmk hB).1 hj),fun c j hj=>hea.2 (hea.1 hj),fun c j hj=>hla.2 (hla.1 hj),fun t=> ?_,?_,?_⟩
 ·by_cases ht:t<p.threads.length
  ·rw[show(grM (p.ins B) model).ld=(p.ins B).threads.map fun x=>reachM (fun _=>true) x.steps from rfl,show(grM (p.ins A) model).ld=(p.ins A).threads.map fun x=>reachM (fun _=>true) x.steps from rfl,
    ziD hB _ (by rw[zxm];exact ht),ziD hA _ (by rw[zxm];exact ht)]
  ·rw[List.getD_eq_getElem?_getD,List.getD_eq_getElem?_getD,List.getElem?_eq_none (by simp[grM,zxm];omega),List.getElem?_eq_none (by simp[grM,zxm];omega)]
 ·intro c d i j ht h1 h2 h3;obtain⟨a,ha,rfl,rfl⟩:=(hmk hB).1 h1;obtain⟨a',ha',rfl,rfl⟩:=(hmk hB).1 h2;rw[hth,hth,hthr ha,hthr ha']at ht;rw[hth,hthr ha]at h3⊢;exact hreach (fun _=>true) true (fun _ _=>rfl) (fun _ _ _=>rfl) ha ha' ht h3
 ·intro c d i j ht h1 h2 h3;obtain⟨a,ha,_,rfl,rfl⟩:=hea.1 h1;obtain⟨a',ha',_,rfl,rfl⟩:=hla.1 h2;rw[hth,hth,hthr ha,hthr ha']at ht;rw[hth,hthr ha]at h3⊢;exact hreach innerM false (fun _ _=>rfl) (fun _ _ _=>rfl) ha ha' ht h3
theorem zxs {p:Prog} {A B:Nat->Nat->Bool} (hAB: ∀t n,A t n=true->B t n=true) (hok:p.ok) (hB:(p.ins B).ok) {model:Int} (h:robM (p.ins A) model=true):robM (p.ins B) model=true:=by
 simp only[robM,validB,zF,decide_eq_true_eq,Option.isNone_iff_eq_none]at h⊢;exact⟨hB,(ins_sub hAB hok h.1 hB model).shortest h.2⟩
end Rg
end
section
namespace Rg
open Go
theorem zxB {l:List Int} (h:l.Pairwise (· < ·)):rising l=true:=by
 refine zfq fun j hj=> ?_
 rw[List.pairwise_iff_getElem]at h;have:=h j (j+1) (by omega) hj (by omega);simpa[List.getD_eq_getElem?_getD,zI hj,zI (show j<l.length by omega)]using this
theorem zxN {p:Prog} {B:Nat->Nat->Bool} (i:Nat) (nm:ByteArray):((p.ins B).threads.take i).any (fun d=>d.name.toList==nm.toList)=(p.threads.take i).any (fun d=>d.name.toList==nm.toList):=by
 have h: ∀(l:List Thread) (f:Nat->Thread->Thread),(∀k x,(f k x).name=x.name)->((l.mapIdx f).take i).any (fun d=>d.name.toList==nm.toList)=(l.take i).any (fun d=>d.name.toList==nm.toList):=by
  intro l f hf
  have e:((l.mapIdx f).take i).map (fun d=>d.name.toList)=(l.take i).map (fun d=>d.name.toList):=by
   refine List.ext_getElem? fun j=> ?_
   rw[zJ,zJ,List.getElem?_take,List.getElem?_take];split
   ·rw[List.getElem?_mapIdx]
    cases l[j]? with
    | none=>rfl
    | some y=>simp[hf]
   ·rfl
  have g: ∀m:List Thread,m.any (fun d=>d.name.toList==nm.toList)=(m.map fun d=>d.name.toList).any (fun z=>z==nm.toList):=by intro m;rw[List.any_map];rfl
  rw[g,g,e]
 exact h _ _ fun _ _=>rfl
theorem zxA {p:Prog} {B:Nat->Nat->Bool} (k:Int):zbS (p.ins B) k=zbS p k:=by
 unfold zbS
 cases h:p.threads[k.toNat]? with
 | none=>
   have:(p.ins B).threads[k.toNat]? =none:=by
    rw[List.getElem?_eq_none_iff]at h⊢;rw[zxm];exact h
   rw[this]
 | some x=>rw[insP_get h];rfl
theorem zxL {p:Prog} {B:Nat->Nat->Bool} (b:Nat->Bool) (t:Int) (s:Step):kindOk (p.ins B) t (s.ins b)=kindOk p t s:=by
 have h1:joinOk (p.ins B) t (s.ins b)=joinOk p t s:=by
  unfold joinOk;rw[zxm];rfl
 unfold kindOk;rw[h1,zxA];rfl
def zxY (p:Prog) (B:Nat->Nat->Bool):Prop:= ∀(t:Nat) (x:Thread) (n:Nat),p.threads[t]? =some x->n<x.points.toNat->B t n=true-> ∃(i:Nat) (s:Step),x.steps[i]? =some s/\s.fr=n
theorem zxP {p:Prog} (hok:p.ok) {B:Nat->Nat->Bool} (hl:zhW B p=false) (hB:zxY p B):(p.ins B).ok:=by
 have R:=ok_iff.1 hok;obtain⟨⟨l1,l2,l3,l4⟩,l5⟩:=limits_iff.1 R.lim
 have hov: ∀{t:Nat} {x:Thread},p.threads[t]? =some x->x.points+cntB (B t) x.points.toNat<=48/\(x.steps.length:Int)+cntB (B t) x.points.toNat<=64:=by
  intro t x hx;have:=(List.any_eq_false.1 hl) (x,t) (List.mem_zipIdx_iff_getElem?.2 hx);simp only[zgW,Bool.or_eq_true,decide_eq_true_eq,not_or]at this;omega
 refine ok_iff.2 ⟨limits_iff.2 ⟨⟨l1,l2,l3,by rw[zxm];exact l4⟩,fun y hy=> ?_⟩,fun i c hc=> ?_,fun i m hm=>R.modules i m hm,fun i l hl=>R.locks i l hl,fun t y hy=> ?_⟩
 ·obtain⟨t,x,hx,rfl⟩:=zlk hy;have h1:=hov hx;have h2:=l5 x (List.mem_of_getElem? hx);refine⟨h1.1,?_,?_⟩
  ·show(x.steps.map (Step.ins (B t))++(fencedL (B t) x.points.toNat).map (fenceS (B t) x)).length<=64;rw[List.length_append,List.length_map,List.length_map,zh7];omega
  ·show(x.loops.map (Loop.ins (B t) x.points.toNat)).length<=8;rw[List.length_map];exact h2.2.2
 ·have:=cellErr_iff.1 (R.cells i c hc);refine cellErr_iff.2 ⟨?_,this.2⟩;have h1:=this.1;unfold zaY at h1⊢;rw[zxm];exact h1
 ·obtain⟨x,hx,rfl⟩:=zxH hy;obtain⟨r1,r2,r3,r4,r5,r6,r7⟩:=threadErr_iff.1 (R.threads t x hx);obtain⟨k1,k2,k3,k4,k5⟩:=ziN hok hx;obtain⟨N,hN⟩: ∃N:Nat,x.points.toNat=N:=⟨_,rfl⟩
  have hPN:x.points=(N:Int):=by omega
  have hpt:(x.ins (B t)).points=((newB (B t) N:Nat):Int):=by
   show x.points+cntB (B t) x.points.toNat=_;unfold newB;rw[hN];omega
  have hlast:newB (B t) (N-1)+1<=newB (B t) N:=by have:=zoF (b:=B t) (show N-1<N by omega);split at this<;>omega
  have hov': ∀e sh,overOk (p.ins B) e sh t=overOk p e sh t:=fun _ _=>rfl
  refine threadErr_iff.2 ⟨r1,by rw[zxN];exact r2,⟨by rw[hpt];unfold newB;omega,?_,?_⟩,?_,?_,fun j s hs=> ?_,fun j l hl=> ?_⟩
  ·rw[hpt];show((dupL (B t) x.asserts).length:Int)=_;rw[ze3,k1,hN]
  ·rw[hpt];show((dupL (B t) x.modules).length:Int)=_;rw[ze3,k2,hN]
  ·rw[List.all_eq_true]at r4⊢;exact fun m hm=>r4 m (dupL_mem.1 hm)
  ·rw[List.all_eq_true]at r5⊢;exact fun e he=>r5 e (dupL_mem.1 he)
  ·rcases zxo hs with⟨_,s0,hs0,rfl⟩ | ⟨_,f,hf,hb,rfl⟩
   ·obtain⟨q1,q2,q3,q4⟩:=stepErr_iff.1 (r6 j s0 hs0);obtain⟨⟨a1,a2⟩,⟨a3,a4⟩,a5⟩:=ok_stp hok hx hs0;refine stepErr_iff.2 ⟨?_,q2,q3,?_⟩
    ·have e1:inR (s0.ins (B t)).fr ((x.ins (B t)).points-1)=true:=by
      rw[hpt,zxt];have h1:=zoF (b:=B t) (show s0.fr.toNat<N-1 by omega);unfold inR;exact decide_eq_true (by split at h1<;>split<;>simp_all<;>omega)
     have e2:inR (s0.ins (B t)).to (x.ins (B t)).points=true:=by
      rw[hpt,zxr];have h1:=zoF (b:=B t) (show s0.to.toNat<N by omega);unfold inR;exact decide_eq_true (by split at h1<;>omega)
     unfold zbl at q1⊢;rw[e1,e2];simp only[Bool.or_eq_false_iff]at q1⊢;exact⟨⟨⟨⟨⟨q1.1.1.1.1.1,rfl⟩,rfl⟩,q1.1.1.2⟩,q1.1.2⟩,q1.2⟩
    ·rw[zxL];exact q4
   ·obtain⟨i0,s0,hs0,hfr⟩:=hB t x f hx (by omega) hb;obtain⟨j0,s1,hj1,hj2,hj3⟩:=zlp hs0 hfr;obtain⟨⟨a1,a2⟩,_,_⟩:=ok_stp hok hx hs0;have hmod:=(ok_stp hok hx hj2).2.2;have h1:=zoF (b:=B t) (show f<N-1 by omega);rw[hb]at h1;simp only[if_true]at h1;have htr:=zxE p false t;unfold truthOk at htr;rw[zF,zF]at htr;refine stepErr_iff.2 ⟨?_,⟨htr.1.1,rfl⟩,fun j a h=>by simp[fenceS]at h,rfl⟩
    have e1:inR (fenceS (B t) x f).fr ((x.ins (B t)).points-1)=true:=by
     rw[hpt,zxw];unfold inR;exact decide_eq_true (by omega)
    have e2:inR (fenceS (B t) x f).to (x.ins (B t)).points=true:=by
     rw[hpt,zxz];unfold inR;exact decide_eq_true (by omega)
    have e3:inR (fenceS (B t) x f).module (p.ins B).modules.length=true:=by
     show inR (firstS x f).module p.modules.length=true;rw[show firstS x f=s1 from hj3.symm];exact hmod
    unfold zbl;rw[e1,e2,e3];rfl
  ·have hl':(x.loops.map (Loop.ins (B t) x.points.toNat))[j]? =some l:=hl;rw[zJ,zE]at hl';obtain⟨l0,hl0,rfl⟩:=hl';obtain⟨⟨q1,q2,q3⟩,q4,q5⟩:=loopErr_iff.1 (r7 j l0 hl0);obtain⟨⟨a1,a2⟩,a3,a4⟩:=ok_loop hok hx hl0;obtain⟨kh,hkh⟩:=Int.eq_ofNat_of_zero_le a1;rw[hN];have hhd:(l0.ins (B t) N).head=((newB (B t) kh:Nat):Int):=by show zoE (B t) l0.head=_;unfold zoE;rw[hkh];rfl
   refine loopErr_iff.2 ⟨⟨?_,zxB (loopBN_pair _ _ _),?_⟩,q4,q5⟩
   ·rw[hhd,hpt];have h1:=zoF (b:=B t) (show kh<N by omega);unfold inR;exact decide_eq_true (by split at h1<;>omega)
   ·rw[List.all_eq_true];intro z hz;obtain⟨k,hk,hz'⟩:=zfC.1 (show z∈loopBN (B t) l0 N from hz);have h1:=zoF (b:=B t) hk;rw[hhd,hpt];rw[zF,decide_eq_true_eq];rcases hz' with⟨h2,rfl⟩ | ⟨h2,h3,rfl⟩
    ·refine⟨?_,fun he=> ?_⟩
     ·unfold inR;exact decide_eq_true (by split at h1<;>omega)
     ·have e1:=zxF (Int.ofNat.inj he);exact(a4 _ h2).2 (by rw[hkh,e1])
    ·rw[h2]at h1;simp only[if_true]at h1;refine⟨?_,fun he=> ?_⟩
     ·unfold inR;exact decide_eq_true (by omega)
     ·exact nb_three (g:=kh) h2 (by omega)
theorem zxu {h:Nat->Option O} {q sz bytes k0 n0:Nat} {a b:List (List V)} {K:V->List (Nat×O)->Prop} {w:WK K}
 (hh:h k0=some (.rows sz a false)) (hn:n0=a.length) (hlen:a.length+b.length<=2^32) (hby:bytes<=2^12) (hb:(b.all fun r=>decide (r.length=sz))=true) (ha:(a.all fun r=>decide (r.length=sz))=true)
 (hK: ∀k hp,(k=k0\/k=q)->hpC h hp k=some (.rows sz (a++b) false)->(∀j,j≠k0->j≠q->hpC h hp j=h j)->K (.ms k 0 (a++b).length) hp):zft false (appS h q sz bytes (.ms k0 0 n0) a b) K w:=by
 subst hn
 cases b with
 | nil=>
   unfold appS;rw[if_pos ⟨⟨hlen,hby⟩,hb,ha⟩];simp only[List.isEmpty_nil,if_true,zbK];have:=hK k0 [] (.inl rfl) (by rw[zaq,List.append_nil];exact hh) (fun j _ _=>by rw[zaq])
   rwa[List.append_nil]at this
 | cons r rs=>
   refine zxC hh hlen hby hb ha (by simp) ?_;rw[<- List.length_append];refine hK q _ (.inr rfl) ?_ ?_
   ·simp only[zau,zaq];rw[zac,if_pos rfl]
   ·intro j h1 h2;simp only[zau,zaq];rw[zac,if_neg h2,zac,if_neg h1]
theorem zxx {r:V} {h:Nat->Option O} {vs:List V} {K:V->(Nat->Option O)->Prop} {w:WK K} {k sz:Nat} {rs:List (List V)} {f:Bool} (hk:h k=some (.rows sz rs f)) (hK: ∀H f',H k=some (.rows sz rs f')->K r H):zid (some r) false h vs K w:=by
 unfold zid;simp only;split
 ·exact hK _ _ hk
 ·refine⟨fun h=>Bool.noConfusion h,?_⟩;obtain⟨f',e⟩:=zgh (L:=vs.flatMap (reach1 h)) hk;exact hK _ f' e
theorem zxK (b:List Pl) (h:Nat->Option O) (d:Nat):(rwG Pl.enc b).mapM (fun row=>row.mapM (toT h d))=some (b.map Pl.enc):=by
 have:=zkl h d (b.map Pl.enc);rw[norm_self pl_norm]at this;exact this
theorem zx0 (m:Int) (h:0<=m):m.tmod 3=0\/m.tmod 3=1\/m.tmod 3=2:=by
 rw[Int.tmod_eq_emod_of_nonneg h];omega
theorem Prog.r31.rob' {p:Prog} (h:p.r31) (B:Nat->Nat->Bool) (m:Int):Den Γ G 289 [(.agg [.t (.sl ((p.ins B).cells.map (Cell.enc))),.t (.sl ((p.ins B).modules.map (Contract.enc))),.t (.sl ((p.ins B).locks.map (Lock.enc))),.t (.sl ((p.ins B).threads.map (Thread.enc)))]),vi m]=some (.t (tb (robM (p.ins B) m))):=
 zcT (p.ins B) (ins_sane h.ok h.sane B) (ins_set h.set B) m
theorem fen_ok {p:Prog} (hok:p.ok) {l:List Pl} (hpl: ∀x∈l,znZ p x):zxY p (ptB p l):=by
 intro t x n hx hn hb;obtain⟨z,hz,e1,e2⟩:=zf7.1 hb;obtain⟨y,hy,hlt⟩:=hpl z hz;rw[e1,hx]at hy;cases hy;have hs:x.steps[z.2]? =some x.steps[z.2]:=zI hlt;rw[zdo (by rw[e1];exact hx) hs]at e2;exact⟨_,_,hs,e2⟩
set_option maxHeartbeats 4000000
theorem lawMono31_den (p:Prog) (hl:p.lite) (ks:List Int) (hks: ∀k∈ks,0<=k/\k<256) (js:List Int) (hjs: ∀k∈js,0<=k/\k<256) (k:Int) (hk:0<=k/\k<256):Den Γ G 397 [(.agg [.t (.sl ((p).cells.map (Cell.enc))),.t (.sl ((p).modules.map (Contract.enc))),.t (.sl ((p).locks.map (Lock.enc))),.t (.sl ((p).threads.map (Thread.enc)))]),.t (bytesT ks),.t (bytesT js),.t (.int .u8 k)]=some (vb true):=by
 have ht:=zjz p hl;have hlb:(ks.map fun n=>[T.int .u8 n]).length=ks.length:=by simp
 have hlj:(js.map fun n=>[T.int .u8 n]).length=js.length:=by simp
 (refine den_ofY Γ397 rfl ?_;dsimp only[zxZ])
 simp -dsimp only[go_sem,seval,zfK,ht];cases hg:fewM p&&formedM p
 ·simp -dsimp only[go_sem,seval]
 ·rw[zF]at hg;have hr:=few_r31 hl hg.1 hg.2;simp -dsimp only[go_sem,seval,hlb]
  by_cases h6:(ks.length:Int)>6
  ·have h61:=eq_true h6;simp -dsimp only[go_sem,seval,h61]
  ·have h61:=eq_false h6;simp -dsimp only[go_sem,seval,h61,hlj]
   by_cases h7:(js.length:Int)>6
   ·have h71:=eq_true h7;simp -dsimp only[go_sem,seval,h71]
   ·have h71:=eq_false h7;obtain⟨m,hm⟩: ∃m,m=k.tmod 3:=⟨_,rfl⟩
    have hm3:=zx0 k hk.1;have hw:IntKind.i64.wrap k=k:=zan (by omega);rw[<- hm]at hm3;have pa:=zwB p hr.ok ks hks (by omega);have pb:=zwB p hr.ok js hjs (by omega);obtain⟨a,ha⟩: ∃a,a=placesM p ks:=⟨_,rfl⟩
    obtain⟨c,hc⟩: ∃c,c=placesM p js:=⟨_,rfl⟩
    have hal:a.length<=6:=by rw[ha];exact Nat.le_trans (places_len p ks) (by omega)
    have hcl:c.length<=6:=by rw[hc];exact Nat.le_trans (places_len p js) (by omega)
    have hap: ∀x∈a,znZ p x:=by rw[ha];exact zwE
    have hcp: ∀x∈c,znZ p x:=by rw[hc];exact zwE
    rw[<- ha]at pa;rw[<- hc]at pb;simp -dsimp only[go_sem,seval,h71,hw,<- hm,pa];refine zxu (a:=[]) (by simp -dsimp only[go_sem,seval]) rfl (by simp;omega) (by decide) (rwG_all _ pl_elen a) rfl ?_;intro k2 hp2 hk2 hA hfr;clear hfr;rw[List.nil_append]at hA;simp only[List.nil_append];have e0:updC (fun x=>none) 25 (some (O.rows 2 [] false))=hpC (fun x=>none) [(25,O.rows 2 [] false)]:=by rw[zau,zaq]
    rw[e0]at hA
    generalize hpC (hpC (fun x=>none) [(25,O.rows 2 [] false)]) hp2=H0 at hA⊢
    clear e0;have rl:(rwG Pl.enc a).length=a.length:=zbm _ _;have ag:(rwG Pl.enc a).take a.length=rwG Pl.enc a:=List.take_of_length_le (by rw[rl];exact Nat.le_refl _);rw[show((a.map Pl.enc).map fun x=>x.map V.t)=rwG Pl.enc a from rfl]at hA⊢;have le1:(a.length<=a.length)=True:=eq_true (Nat.le_refl _);simp -dsimp only[go_sem,seval,pb,hA,rl,ag,le1];refine zxu (a:=rwG Pl.enc a) hA rl.symm (by rw[rl];simp;omega) (by decide) (rwG_all _ pl_elen c) (rwG_all _ pl_elen a) ?_;intro k3 hp3 hk3 hB hfr;clear hfr hA;rw[show((c.map Pl.enc).map fun x=>x.map V.t)=rwG Pl.enc c from rfl,<- zxQ]at hB⊢
    generalize hpC H0 hp3=H1 at hB⊢
    obtain⟨b,hb⟩: ∃b,b=a++c:=⟨_,rfl⟩
    rw[<- hb]at hB⊢;have hbl:b.length<=12:=by rw[hb,List.length_append];omega
    have hbp: ∀x∈b,znZ p x:=by
     rw[hb];intro x hx;rcases List.mem_append.1 hx with h | h
     ·exact hap x h
     ·exact hcp x h
    have hsub: ∀t n,ptB p a t n=true->ptB p b t n=true:=fun t n=>zmO (fun x hx=>by rw[hb];exact List.mem_append_left _ hx)
    have rlB:(rwG Pl.enc b).length=b.length:=zbm _ _;have agB:(rwG Pl.enc b).take b.length=rwG Pl.enc b:=List.take_of_length_le (by rw[rlB];exact Nat.le_refl _);have leB:(b.length<=b.length)=True:=eq_true (Nat.le_refl _);have nmB:=zxK b;have iR:=zwt p hr.ok hr.sane hr.smE b (by omega) hbp;have iB:=zdX p hr.ok hr.sane hr.smE b (by omega) hbp;have iA:=zdX p hr.ok hr.sane hr.smE a (by omega) hap;rw[rlB];simp -dsimp only[go_sem,seval,hB,agB,leB,rlB,nmB,iR];refine zxx hB fun H2 f2 hB=> ?_
    cases hL:zhW (ptB p b) p
    ·rw[show insM p b=(p.ins (ptB p b),0)by rw[insM,hL];rfl]at iB⊢
     have hLa:zhW (ptB p a) p=false:=by
      cases h:zhW (ptB p a) p
      ·rfl
      ·rw[zk7 hsub h]at hL;cases hL
     rw[show insM p a=(p.ins (ptB p a),0)by rw[insM,hLa];rfl]at iA;have okB:=zxP hr.ok hL (fen_ok hr.ok hbp);have okA:=zxP hr.ok hLa (fen_ok hr.ok hap);have fB:=zh2 (p.ins (ptB p b)) (ins_sane hr.ok hr.sane _);have fA:=zh2 (p.ins (ptB p a)) (ins_sane hr.ok hr.sane _);rw[show formedM (p.ins (ptB p b))=true from decide_eq_true okB]at fB;rw[show formedM (p.ins (ptB p a))=true from decide_eq_true okA]at fA;simp -dsimp only[go_sem,seval,iA,hB,agB,leB,rlB,nmB,iB];refine zxx hB fun H3 f3 hB=> ?_
     simp -dsimp only[go_sem,seval,fA,fB];obtain⟨⟨b1,b2,b3,b4⟩,b5⟩:=limits_iff.1 (ok_iff.1 hr.ok).lim;have hlenB:(p.ins (ptB p b)).threads.length=p.threads.length:=zxm;refine zaj 1298074137262454451796356902682624 p.threads.length (fun t f h z=>(f 20).v=vi t/\(f 19).v=vi (ptsN p b t:Nat)/\ptsN p b t<=48*t/\ ∃f',h k3=some (.rows 2 (rwG Pl.enc b) f')) rfl ⟨by simp -dsimp only[go_sem,seval],by simp -dsimp only[go_sem,seval];rfl,Nat.le_refl _,f3,hB⟩ ?_;rintro t f u H z bs ht ⟨h20,h19,hle,f4,hB⟩;have hwt:=zah t (by omega);simp -dsimp only[go_sem,seval,h20,hlenB]
     by_cases hlt:t<p.threads.length
     ·have hlt1:=eq_true hlt;obtain⟨x,hx,hxm⟩:=zaf hlt;have hxB:=insP_get (B:=ptB p b) hx;have hsB:(x.ins (ptB p b t)).steps.length=x.steps.length+cntB (ptB p b t) x.points.toNat:=by simp[Thread.ins,zh7]
      have hsl:=(b5 x hxm).2.1;have hpl:=(b5 x hxm).1;have hcl:=zcJ (ptB p b t) x.points.toNat;have hsu:=zwq (l:=b) hx;have w1:IntKind.i64.wrap ((ptsN p b t:Int)+((x.steps.length+cntB (ptB p b t) x.points.toNat:Nat):Int))=(ptsN p b t:Int)+((x.steps.length+cntB (ptB p b t) x.points.toNat:Nat):Int):=zan (by omega);have w2:IntKind.i64.wrap ((ptsN p b t:Int)+((x.steps.length+cntB (ptB p b t) x.points.toNat:Nat):Int)-(x.steps.length:Int))=((ptsN p b (t+1):Nat):Int):=by rw[hsu,zan (by omega)];omega
      simp -dsimp only[go_sem,seval,h20,hlenB,hlt1,h19,hxB,hsB,hx,w1,w2];exact⟨hlt,by simp -dsimp only[go_sem,seval,hwt],by simp -dsimp only[go_sem,seval],by rw[hsu];omega,f4,by simp -dsimp only[go_sem,seval];exact hB⟩
     ·have htl:t=p.threads.length:=by omega
      subst htl;have hlt1:=eq_false hlt;have hpt:=zwA p hr.ok b (by omega) hbp;have rP:=zcT p hr.sane hr.set m;have rA:=hr.rob' (ptB p a) m;have rB:=hr.rob' (ptB p b) m;have m1:robM p m=true->robM (p.ins (ptB p a)) m=true:=fun h=>zxs (A:=fun _ _=>false) (fun _ _ h=>Bool.noConfusion h) hr.ok okA (by rw[ziR hr.ok];exact h)
      have m2:robM (p.ins (ptB p a)) m=true->robM (p.ins (ptB p b)) m=true:=fun h=>zxs hsub hr.ok okB h
      have hP0:((ptsN p b p.threads.length:Nat):Int)=((ptsM p b:Nat):Int):=rfl;cases hP:robM p m
      ·rw[hP]at rP;cases hA':robM (p.ins (ptB p a)) m
       ·rw[hA']at rA;simp -dsimp only[go_sem,seval,h20,hlenB,hlt1,h19,hB,agB,leB,rlB,nmB,hpt,hP0,rP,rA,rB]
       ·rw[hA']at rA;rw[m2 hA']at rB;simp -dsimp only[go_sem,seval,h20,hlenB,hlt1,h19,hB,agB,leB,rlB,nmB,hpt,hP0,rP,rA,rB]
      ·rw[hP]at rP;rw[m1 hP]at rA;rw[m2 (m1 hP)]at rB;simp -dsimp only[go_sem,seval,h20,hlenB,hlt1,h19,hB,agB,leB,rlB,nmB,hpt,hP0,rP,rA,rB]
    ·rw[show insM p b=(zeroP,2)by rw[insM,hL];rfl];simp -dsimp only[go_sem,seval]
end Rg
end
