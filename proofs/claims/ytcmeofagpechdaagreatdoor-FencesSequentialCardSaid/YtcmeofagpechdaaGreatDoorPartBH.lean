/- Part of the proof of laws of relyguardlaw31. No condition. -/
import Derived.Test.YtcmeofagpechdaaGreatDoorPartBG
set_option linter.unusedSimpArgs false
set_option linter.unusedVariables false
section
namespace Rg
open Go
theorem zoS {p:Prog} (h:fewM p=true):p.smE:=by
 simp only[fewM,zF,decide_eq_true_eq,List.all_eq_true]at h;obtain⟨⟨⟨⟨⟨⟨h1,h2⟩,h3⟩,h4⟩,h5⟩,h6⟩,h7⟩:=h;have ht:=zeU h5 (by omega);refine⟨fun m hm=> ?_,fun l hl=> ?_,fun x hx=> ?_⟩
 ·have:=h6 m hm;simp only[zlA,zb5,zF,decide_eq_true_eq]at this;omega
 ·have:=h7 l hl;simp only[zb5,decide_eq_true_eq]at this;omega
 ·obtain⟨a,b,c,d,e⟩:=ht x hx;simp only[fewT,zlz,zoU,zme,zb5,zF,List.all_eq_true,decide_eq_true_eq]at e;refine⟨fun e' he=> ?_,fun s hs=> ?_,fun l hl=> ?_⟩
  ·have:=e.1.2 e' he;omega
  ·have:=e.1.1 s hs;exact⟨by omega,by omega,fun a ha=>by have:=this.2 a ha;omega⟩
  ·have:=e.2 l hl;omega
theorem znh {p:Prog} (h:fewM p=true): ∀x∈p.threads,∀s∈x.steps,s.set.length<2^20:=by
 simp only[fewM,zF,decide_eq_true_eq,List.all_eq_true]at h;obtain⟨⟨⟨⟨⟨⟨h1,h2⟩,h3⟩,h4⟩,h5⟩,h6⟩,h7⟩:=h;intro x hx s hs;obtain⟨a,b,c,d,e⟩:=zeU h5 (by omega) x hx;simp only[fewT,zlz,zoU,zme,zb5,zF,List.all_eq_true,decide_eq_true_eq]at e;have:=e.1.1 s hs;omega
structure Prog.r31 (p:Prog):Prop where
 ok:p.ok
 sane:p.sane
 smE:p.smE
 set: ∀x∈p.threads,∀s∈x.steps,s.set.length<2^20
theorem zAt {p:Prog} (hl:p.lite) (hf:fewM p=true) (hg:formedM p=true):p.r31:=
 ⟨by simpa[formedM]using hg,few_sane hl hf,zoS hf,znh hf⟩
theorem Prog.r31.vb {p:Prog} (h:p.r31):validB p=true:=by have:=h.ok;simpa[validB]using this
set_option maxHeartbeats 2000000
end Rg
end
section
namespace Rg
open Go
theorem fen_ok {p:Prog} (hok:p.ok) {l:List Pl} (hpl: ∀x∈l,znZ p x):zzs p (ptB p l):=by
 intro t x n hx hn hb;obtain⟨z,hz,e1,e2⟩:=zf7.1 hb;obtain⟨y,hy,hlt⟩:=hpl z hz;rw[e1,hx]at hy;cases hy;have hs:x.steps[z.2]? =some x.steps[z.2]:=zI hlt;rw[zdo (by rw[e1];exact hx) hs]at e2;exact⟨_,_,hs,e2⟩
set_option maxHeartbeats 4000000
end Rg
end
section
namespace Rg
open Go
theorem zx2 {b:Nat->Bool} {m n:Nat} (h:newB b m=newB b n):m=n:=by
 rcases Nat.lt_trichotomy m n with h1 | h1 | h1
 ·have:=zoF (b:=b) h1;omega
 ·exact h1
 ·have:=zoF (b:=b) h1;omega
theorem newB_mid {b:Nat->Bool} {m n:Nat} (hb:b n=true):newB b m≠newB b n+1:=by
 intro h;rcases Nat.lt_trichotomy m n with h1 | h1 | h1
 ·have:=zoF (b:=b) h1;omega
 ·subst h1;omega
 ·have:=zoF (b:=b) h1;rw[hb]at this;simp at this;omega
theorem idxM_mem {α:Type} {f:α->Bool} {l:List α} {k:Int}:k∈idxM f l<-> ∃(i:Nat) (x:α),k=i/\l[i]? =some x/\f x=true:=by
 unfold idxM idxN;simp only[List.mem_map,List.mem_filter,List.take_length,Prod.exists];constructor
 ·rintro⟨x,i,⟨h1,h2⟩,rfl⟩;rw[List.mem_zipIdx_iff_getElem?]at h1;exact⟨i,x,rfl,h1,h2⟩
 ·rintro⟨i,x,rfl,h1,h2⟩;exact⟨x,i,⟨by rw[List.mem_zipIdx_iff_getElem?];exact h1,h2⟩,rfl⟩
section
variable {p:Prog} {B:Nat->Nat->Bool} {c d:Config}
theorem zyo {b:Nat->Bool} {x:Thread} {a:Int} {j:Nat} {s:Step} (h:(x.ins b).steps[j]? =some s) (hj:x.steps.length<=j) (hs:s.fr=a): ∃m,m<x.points.toNat/\b m=true/\a=newB b m/\s=fenceS b x m:=by
 have h':(x.steps.map (Step.ins b)++(fencedL b x.points.toNat).map (fenceS b x))[j]? =some s:=h;rw[List.getElem?_append_right (by rw[List.length_map];exact hj),zJ,zE]at h';obtain⟨m,hm,rfl⟩:=h';have h2:=List.mem_of_getElem? hm;unfold fencedL at h2;rw[List.mem_filter,List.mem_range]at h2;exact⟨m,h2.1,h2.2,hs.symm,rfl⟩
theorem zAR {b:Nat->Bool} {x:Thread} {m:Nat} (h1:m<x.points.toNat) (h2:b m=true): ∃j,x.steps.length<=j/\(x.ins b).steps[j]? =some (fenceS b x m):=by
 have hm:m∈fencedL b x.points.toNat:=by unfold fencedL;rw[List.mem_filter,List.mem_range];exact⟨h1,h2⟩
 obtain⟨i,hi⟩:=List.getElem?_of_mem hm;refine⟨x.steps.length+i,by omega,?_⟩;show(x.steps.map (Step.ins b)++(fencedL b x.points.toNat).map (fenceS b x))[x.steps.length+i]? =_;rw[List.getElem?_append_right (by rw[List.length_map];omega),List.length_map,Nat.add_sub_cancel_left,zJ,hi];rfl
theorem zyj {t:Nat} {x:Thread} (hx:p.threads[t]? =some x) (a:Int):stepsM (p.ins B) t a=idxM (fun s:Step=>decide (s.fr=a)) (x.ins (B t)).steps:=by
 have h1:=insP_get (B:=B) hx
 have h2:inR (t:Int) (p.ins B).threads.length=true:=by
  rw[zxv];have:=(zH.1 hx).1;simp only[inR,decide_eq_true_eq];omega
 unfold stepsM;rw[h2,if_pos rfl,Int.toNat_natCast,h1]
theorem zyJ {t:Nat} {x:Thread} (hx:p.threads[t]? =some x) {a:Int} (h: ∀m,m<x.points.toNat->B t m=true->a≠newB (B t) m):fenceM (stepsM (p.ins B) t a) x.steps.length= -1:=by
 rw[zyj hx];unfold fenceM;rw[List.find?_eq_none.2]
 ·rfl
 ·intro k hk;obtain⟨j,s,rfl,h1,h2⟩:=idxM_mem.1 hk;intro hj;obtain⟨m,h3,h4,h5,_⟩:=zyo h1 (by simpa using hj) (by simpa using h2);exact h m h3 h4 h5
theorem zzx {t:Nat} {x:Thread} (hx:p.threads[t]? =some x) {m:Nat} (h1:m<x.points.toNat) (h2:B t m=true):
 ∃j:Nat,fenceM (stepsM (p.ins B) t (newB (B t) m:Nat)) x.steps.length=j/\(x.ins (B t)).steps[j]? =some (fenceS (B t) x m):=by
 rw[zyj hx];obtain⟨j,hj,hs⟩:=zAR h1 h2
 cases hf:(idxM (fun s:Step=>decide (s.fr=(newB (B t) m:Nat))) (x.ins (B t)).steps).find? fun k=>decide ((x.steps.length:Int)<=k)with
 | none=>
   rw[List.find?_eq_none]at hf
   exact absurd (by simpa using hj) (hf j (idxM_mem.2 ⟨j,_,rfl,hs,by simp[fenceS]⟩))
 | some k=>
   have h3:=List.find?_some hf;obtain⟨i,s,rfl,h4,h5⟩:=idxM_mem.1 (List.mem_of_find?_eq_some hf);obtain⟨n,h6,h7,h8,rfl⟩:=zyo h4 (by simpa using h3) (by simpa using h5);have:m=n:=zx2 (b:=B t) (by omega);subst this;exact⟨i,by simp[fenceM,hf],h4⟩
theorem zBl (hf:formedM p=true) (hc:isM p c=true) (hr:RelC p B c d) (hB: ∀t x,p.threads[t]? =some x-> ∀n,n<x.points.toNat->B t n=true->(n:Int)<x.points-1):isM (p.ins B) d=true:=by
 rw[is_iff]at hc⊢;refine⟨by rw[hr.mem];exact hc.lm,by rw[zxv];exact hr.lb,by rw[zxv,hr.buf];exact hc.lb,by rw[hr.mem];exact hc.mem,?_,by rw[hr.buf];exact hc.buf⟩;intro t a' y ha' hy;obtain⟨x,hx,rfl⟩:=zy1 hy;obtain⟨a,ha,_⟩:=zaf (show t<c.at_.length by rw[hr.la];exact(zH.1 hx).1);have h1:=hc.at_ t a x ha hx;have hp:=zCn hf hx;have hpt:(x.ins (B t)).points=x.points+cntB (B t) x.points.toNat:=rfl;rcases hr.at_ t x a a' hx ha ha' with⟨rfl,rfl⟩ | ⟨f,hfl,rfl,h⟩
 ·exact⟨by omega,by rw[hpt];omega,fun _=>h1.2.2 rfl⟩
 ·have h2:=zoF (b:=B t) hfl;have h3:(newB (B t) x.points.toNat:Int)=x.points+cntB (B t) x.points.toNat:=by unfold newB;omega
  rw[hpt];rcases h with rfl | ⟨hb,rfl⟩
  ·exact⟨by omega,by omega,by omega⟩
  ·rw[hb]at h2;simp at h2;exact⟨by omega,by omega,by omega⟩
theorem fen_lt (hok:p.ok) (h:zzs p B): ∀t x,p.threads[t]? =some x-> ∀n,n<x.points.toNat->B t n=true->(n:Int)<x.points-1:=by
 intro t x hx n hn hb;obtain⟨i,s,hs,he⟩:=h t x n hx hn hb;have:=(ok_stp hok hx hs).1.2;omega
theorem zxN {l:List Int} {t:Nat} {a:Int} (h:l[t]? =some a):atI l (t:Int)=a:=by
 simp[atI,List.getD_eq_getElem?_getD,h]
theorem zCp {q:Prog} (hd:isM q d=true):(q.threads.map fun _=>([]:List Entry))=d.buf:=by
 rw[is_iff]at hd;refine List.ext_getElem? fun i=> ?_
 rw[zJ];rcases Nat.lt_or_ge i q.threads.length with h | h
 ·rw[zI h,zI (show i<d.buf.length by rw[hd.lb];exact h)];simp[hd.buf _ (List.getElem_mem (show i<d.buf.length by rw[hd.lb];exact h))]
 ·rw[List.getElem?_eq_none h,List.getElem?_eq_none (by rw[hd.lb];exact h)];rfl
theorem zxZ {b:Nat->Bool} {n:Nat} {z:Nat} (hz:z<n):zyy b n (z:Int) (newB b z:Nat):=.inr ⟨z,hz,rfl,.inl rfl⟩
theorem zz3 (hq:formedM (p.ins B)=true) (hd:isM (p.ins B) d=true) (hr:RelC p B c d) {t:Nat} {x:Thread} (hx:p.threads[t]? =some x) {m j:Nat} (hm:m<x.points.toNat) (hb:B t m=true)
 (ha:d.at_[t]? =some ((newB (B t) m:Nat):Int)) (hj:(x.ins (B t)).steps[j]? =some (fenceS (B t) x m)):
 ∃d1,nextM (p.ins B) d ⟨t,j,0⟩=(d1,0)/\RelC p B c d1/\d1.at_[t]? =some ((newB (B t) m:Int)+1):=by
 have hxq:=insP_get (B:=B) hx
 have hmem:(⟨t,j,0⟩:Choice)∈choicesM (p.ins B) d:=by
  refine zxz.2 ⟨t,_,j,_,hxq,hj,?_,rfl⟩;simp only[enabledM,zxN ha,fenceS];simp[Expr.eval,Expr.formed,Expr.ev]
  decide
 obtain⟨t',x',i',s',h1,h2,h3,h4,h5,h6⟩:=zx7 hq hd hmem;simp only[Choice.mk.injEq]at h4;obtain⟨e1,e2,_⟩:=h4;have e1:t=t':=by omega
 have e2:j=i':=by omega
 subst e1 e2;rw[hxq]at h1;cases h1;rw[hj]at h2;cases h2
 have hex:execS (p.ins B) d t (fenceS (B t) x m)=⟨d.mem,d.at_.set t ((newB (B t) m:Int)+1),d.buf⟩:=by
  unfold execS;rw[zCp hd];rfl
 have htl:t<d.at_.length:=(zH.1 ha).1;refine⟨_,h5,?_,?_⟩
 ·rw[hex];refine⟨hr.mem,hr.buf,hr.la,by simp[hr.lb],?_⟩;intro u y a a' hy hca hda;simp only[List.getElem?_set]at hda;split at hda
  ·rename_i htu;subst htu;rw[hx]at hy;cases hy
   try rw[if_pos htl]at hda
   cases hda;rcases hr.at_ t x a _ hx hca ha with⟨h7,h8⟩ | ⟨f,h7,h8,h9⟩
   ·omega
   ·have:f=m:=by
     rcases h9 with h9 | ⟨h9,h10⟩
     ·exact zx2 (b:=B t) (by omega)
     ·exact absurd (show newB (B t) m=newB (B t) f+1 by omega) (newB_mid h9)
    subst this;exact .inr ⟨f,h7,h8,.inr ⟨hb,rfl⟩⟩
  ·exact hr.at_ u y a a' hy hca hda
 ·rw[hex];simp[List.getElem?_set,htl]
theorem zAn (hf:formedM p=true) (hB:zzs p B) (hq:formedM (p.ins B)=true) (hc:isM p c=true) (hd:isM (p.ins B) d=true) (hr:RelC p B c d) {t i:Nat} {x:Thread} {s:Step} (hx:p.threads[t]? =some x) (hs:x.steps[i]? =some s)
 (he:enabledM p c t s=true) (ha:d.at_[t]? =some (s.ins (B t)).fr):
 nextM (p.ins B) d ⟨t,i,0⟩=(execS (p.ins B) d t (s.ins (B t)),0)/\RelC p B (execS p c t s) (execS (p.ins B) d t (s.ins (B t))):=by
 have hok:p.ok:=of_decide_eq_true hf;have hxq:=insP_get (B:=B) hx
 have hsq:(x.ins (B t)).steps[i]? =some (s.ins (B t)):=by
  show(x.steps.map (Step.ins (B t))++(fencedL (B t) x.points.toNat).map (fenceS (B t) x))[i]? =_;rw[List.getElem?_append_left (by rw[List.length_map];exact(zH.1 hs).1),zJ,hs];rfl
 have hstp:=zCo hf hx hs;have hc':=is_iff.1 hc
 have hat: ∀{u:Nat} {y:Thread},p.threads[u]? =some y-> ∃a a',c.at_[u]? =some a/\d.at_[u]? =some a'/\zyy (B u) y.points.toNat a a':=fun{u y} hy=>by
  have hu:=(zH.1 hy).1;obtain⟨a,ha,_⟩:=zaf (show u<c.at_.length by rw[hr.la];exact hu);obtain⟨a',ha',_⟩:=zaf (show u<d.at_.length by rw[hr.lb];exact hu);exact⟨a,a',ha,ha',hr.at_ u y a a' hy ha ha'⟩
 have hen:enabledM (p.ins B) d t (s.ins (B t))=true:=by
  simp only[enabledM,zF,decide_eq_true_eq]at he⊢;refine⟨⟨zxN ha,by rw[hr.mem];exact he.1.2⟩,?_⟩;have h1:=he.2;show(if s.kind=6 then decide (atI d.at_ s.target= -1)else if s.kind=7 then decide (atI d.at_ s.target=zxl (p.ins B) s.target-1)else true)=true
  have tgt:s.kind=6\/s.kind=7-> ∃(u:Nat) (y:Thread) (a a':Int),s.target=u/\p.threads[u]? =some y/\c.at_[u]? =some a/\d.at_[u]? =some a'/\zyy (B u) y.points.toNat a a':=fun hk=>by
   have h2:=(hstp.tgt hk).1;simp only[inR,decide_eq_true_eq]at h2;obtain⟨y,hy,_⟩:=zaf (show s.target.toNat<p.threads.length by omega);obtain⟨a,a',h3,h4,h5⟩:=hat hy;exact⟨s.target.toNat,y,a,a',by omega,hy,h3,h4,h5⟩
  by_cases h6:s.kind=6
  ·obtain⟨u,y,a,a',e,hy,h3,h4,h5⟩:=tgt (.inl h6);rw[if_pos h6,e,zxN h3,decide_eq_true_eq]at h1;rw[if_pos h6,e,zxN h4,decide_eq_true_eq];rcases h5 with⟨_,h5⟩ | ⟨f,_,h7,_⟩
   ·exact h5
   ·omega
  ·by_cases h7:s.kind=7
   ·obtain⟨u,y,a,a',e,hy,h3,h4,h5⟩:=tgt (.inr h7);have e1:zxl p (u:Int)=y.points:=by unfold zxl;rw[Int.toNat_natCast,hy]
    have e2:zxl (p.ins B) (u:Int)=y.points+cntB (B u) y.points.toNat:=by unfold zxl;rw[Int.toNat_natCast,insP_get (B:=B) hy];rfl
    rw[if_neg h6,if_pos h7,e,zxN h3,e1,decide_eq_true_eq]at h1;rw[if_neg h6,if_pos h7,e,zxN h4,e2,decide_eq_true_eq];have hp:=zCn hf hy;rcases h5 with⟨h5,_⟩ | ⟨f,h5,h8,h9⟩
    ·omega
    ·have hlast:B u f=false:=by
      cases hb:B u f
      ·rfl
      ·have:=fen_lt hok hB u y hy f h5 hb;omega
     have h10:=zgX (B u) f;have h11:newB (B u) (f+1)=y.points.toNat+cntB (B u) y.points.toNat:=by rw[show f+1=y.points.toNat by omega];rfl
     rw[hlast]at h10 h9;rcases h9 with h9 | ⟨h9,_⟩
     ·simp at h10;omega
     ·cases h9
   ·rw[if_neg h6,if_neg h7]
 have hmem:(⟨t,i,0⟩:Choice)∈choicesM (p.ins B) d:=zxz.2 ⟨t,_,i,_,hxq,hsq,hen,rfl⟩;obtain⟨t',x',i',s',h1,h2,h3,h4,h5,h6⟩:=zx7 hq hd hmem;simp only[Choice.mk.injEq]at h4;obtain⟨e1,e2,_⟩:=h4;have e1:t=t':=by omega
 have e2:i=i':=by omega
 subst e1 e2;rw[hxq]at h1;cases h1;rw[hsq]at h2;cases h2;refine⟨h5,?_⟩;have hl1:t<c.at_.length:=by rw[hr.la];exact(zH.1 hx).1
 have hl2:t<d.at_.length:=by rw[hr.lb];exact(zH.1 hx).1
 have hto:0<=s.to/\s.to<x.points:=hstp.to
 have step1: ∀(u:Nat) (y:Thread) (a a':Int),p.threads[u]? =some y->(c.at_.set t s.to)[u]? =some a->(d.at_.set t (newI (B t) s.to))[u]? =some a'->zyy (B u) y.points.toNat a a':=by
  intro u y a a' hy h7 h8;rw[List.getElem?_set]at h7 h8
  by_cases htu:t=u
  ·subst htu;rw[if_pos rfl,if_pos hl1]at h7;rw[if_pos rfl,if_pos hl2]at h8;cases h7;cases h8;rw[hx]at hy;cases hy;have:=zxZ (b:=B t) (show s.to.toNat<x.points.toNat by omega);rw[Int.toNat_of_nonneg hto.1]at this;exact this
  ·rw[if_neg htu]at h7 h8;exact hr.at_ u y a a' hy h7 h8
 refine⟨?_,?_,?_,?_,?_⟩
 ·show writeM d.mem d.mem s.set=writeM c.mem c.mem s.set;rw[hr.mem]
 ·show((p.ins B).threads.map fun _=>[])=(p.threads.map fun _=>([]:List Entry));rw[zCp hd,hr.buf,zCp hc]
 ·simp only[execS];split<;>simp[hr.la]
 ·simp only[execS];split<;>simp[hr.lb]
 ·intro u y a a' hy h7 h8
  by_cases h6':s.kind=6
  ·have h7':((c.at_.set t s.to).set s.target.toNat 0)[u]? =some a:=by simpa[execS,h6']using h7
   have h8':((d.at_.set t (newI (B t) s.to)).set s.target.toNat 0)[u]? =some a':=by simpa[execS,Step.ins,h6']using h8
   rw[List.getElem?_set]at h7' h8'
   by_cases hu:s.target.toNat=u
   ·subst hu;have hul:=(zH.1 hy).1;rw[if_pos rfl,if_pos (by simp[hr.la];exact hul)]at h7';rw[if_pos rfl,if_pos (by simp[hr.lb];exact hul)]at h8';cases h7';cases h8';have hp:=zCn hf hy;have:=zxZ (b:=B s.target.toNat) (show 0<y.points.toNat by omega);exact this
   ·rw[if_neg hu]at h7' h8';exact step1 u y a a' hy h7' h8'
  ·have h7':(c.at_.set t s.to)[u]? =some a:=by simpa[execS,h6']using h7
   have h8':(d.at_.set t (newI (B t) s.to))[u]? =some a':=by simpa[execS,Step.ins,h6']using h8
   exact step1 u y a a' hy h7' h8'
end
end Rg
end
