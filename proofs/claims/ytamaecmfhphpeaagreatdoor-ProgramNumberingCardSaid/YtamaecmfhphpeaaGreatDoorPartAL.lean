/- Part of the proof of the laws of the package relyguardlaw07: an abstract machine for the program's functions, what they compute, and that the machine is the program's. No condition. (RgT) -/
import Derived.Test.YtamaecmfhphpeaaGreatDoorPartAK
section
namespace Rg
open Go
def preds (o:Oper):List Nat:=o.after.toList.filterMap fun e=>if Region.binds .any e then some e.on else none
def befGo:List Nat->List Oper->List Nat
 | acc,[]=>acc
 | acc,o::os=>befGo (acc++[(preds o).foldl (fun s q=>s ||| 2^q ||| acc.getD q 0) 0]) os
def befs (ops:Array Oper):List Nat:=befGo [] ops.toList
def drawOk (ops:Array Oper) (l:List ROp):Bool :=
 let b:=befs ops
 (List.range l.length).all fun i =>
   ((ops[i]?).elim true fun o=>(preds o).all (· < i)) &&
   (List.range i).all fun j=>(b.getD i 0).testBit j||(match l[j]?,l[i]? with | some x,some y=>indep x y||indepR x y||indepX x y | _,_=>false)
theorem fold_bit (acc:List Nat) (m:Nat) : ∀ (l:List Nat) (s:Nat),(l.foldl (fun s q=>s ||| 2^q ||| acc.getD q 0) s).testBit m=true->s.testBit m=true \/ ∃ q∈l,m=q\/(acc.getD q 0).testBit m=true
 | [],s,h => .inl h
 | q::l,s,h=>by
  rcases fold_bit acc m l _ h with h | ⟨q',hq',h⟩
  ·simp only [Nat.testBit_or,Bool.or_eq_true] at h
   rcases h with (h | h) | h
   ·exact .inl h
   ·right
    refine ⟨q,List.mem_cons_self, .inl ?_⟩
    rw [Nat.testBit_two_pow] at h
    exact (by simpa using h:q=m).symm
   ·exact .inr ⟨q,List.mem_cons_self, .inr h⟩
  ·exact .inr ⟨q',List.mem_cons_of_mem _ hq',h⟩
theorem befGo_pre : ∀ (os:List Oper) (acc:List Nat), ∃ r,befGo acc os=acc++r
 | [],acc=>⟨[],by simp [befGo]⟩
 | o::os,acc=>by
  obtain ⟨r,hr⟩:=befGo_pre os (acc++[(preds o).foldl (fun s q=>s ||| 2^q ||| acc.getD q 0) 0])
  exact ⟨(preds o).foldl (fun s q=>s ||| 2^q ||| acc.getD q 0) 0::r,by simp only [befGo]; rw [hr,List.append_assoc]; rfl⟩
theorem befGo_spec : ∀ (os:List Oper) (acc:List Nat) (k:Nat) (o:Oper),os[k]? = some o->(∀ q∈preds o,q<acc.length+k) -> ∀ m,((befGo acc os).getD (acc.length+k) 0).testBit m=true ->
 ∃ q∈preds o,m=q\/((befGo acc os).getD q 0).testBit m=true
 | [],acc,k,o,h,_,_,_=>by simp at h
 | o' :: os,acc,k,o,h,hlt,m,hm=>by
  cases k with
  | zero =>
   simp at h; subst h
   simp only [befGo] at hm ⊢
   obtain ⟨r,hr⟩:=befGo_pre os (acc++[(preds o').foldl (fun s q=>s ||| 2^q ||| acc.getD q 0) 0])
   rw [hr] at hm ⊢
   have e1:(acc++[(preds o').foldl (fun s q=>s ||| 2^q ||| acc.getD q 0) 0]++r).getD (acc.length+0) 0=(preds o').foldl (fun s q=>s ||| 2^q ||| acc.getD q 0) 0:=by
    simp [List.getD_eq_getElem?_getD]
   rw [e1] at hm
   rcases fold_bit acc m _ _ hm with h | ⟨q,hq,h⟩
   ·simp at h
   ·refine ⟨q,hq,h.imp id fun h => ?_⟩
    have hql:q<acc.length:=by have:=hlt q hq; omega
    have e2:(acc++[(preds o').foldl (fun s q=>s ||| 2^q ||| acc.getD q 0) 0]++r).getD q 0=acc.getD q 0:=by
     simp only [List.getD_eq_getElem?_getD]
     rw [List.append_assoc,List.getElem?_append_left hql]
    rw [e2]; exact h
  | succ k =>
   simp at h
   simp only [befGo] at hm ⊢
   have hl:(acc++[(preds o').foldl (fun s q=>s ||| 2^q ||| acc.getD q 0) 0]).length=acc.length+1:=by simp
   have e:acc.length+(k+1)=(acc++[(preds o').foldl (fun s q=>s ||| 2^q ||| acc.getD q 0) 0]).length+k:=by rw [hl]; omega
   rw [e] at hm
   exact befGo_spec os _ k o h (fun q hq=>by have:=hlt q hq; omega) m hm
section
variable {P:Program} {N:Nam} {I:Inv} {ns:Nat} {ops:Array Oper} {l:List ROp} {ro:Option Nat}
theorem upon_exists {o:Oper} {a:Act} {w:World} {K:Act->World->Prop} (h:o.wpIn (FW none) 0 P a w K (fun _ _ _=>False)) : ∃ a' w',K a' w' := by
 replace h:=h.2
 generalize (o.semAt (FW none).round a.eval).run P w=r at h
 unfold Oper.uponIn at h
 split at h
 ·exact ⟨_,_,h⟩
 ·exact ⟨_,_,h⟩
 ·exact ⟨_,_,h⟩
 ·obtain ⟨e,w',fr,h1,_⟩:=h.2.2 [] FW_room
  cases e with
  | returned v=>exact ⟨_,_,h1⟩
  | panicked ch=>exact h1.elim
  | outgrown=>obtain ⟨_,_,h1⟩:=h1; exact h1.elim
 ·obtain ⟨v,w',h1,_⟩:=h.2 default [] FW_room
  exact ⟨_,_,h1⟩
 ·obtain ⟨e,w',h1,_⟩:=h.2.2 default [] FW_room
  cases e with
  | returned v=>exact ⟨_,_,h1⟩
  | panicked ch=>exact h1.elim
  | outgrown=>obtain ⟨_,_,h1⟩:=h1; exact h1.elim
 ·exact h.elim
 ·exact h.elim
theorem Rz.step (hI:I.Ok N) {s s1:St} {p:Nat} {r:ROp} {o:Oper} {d:Bool} (hz:Rz N ns s) (hst:StepG P N d p r s s1) (hr:OpRel P I ns ops o r) (hk:s.heap (s.bas+p)=none) (hn:s.bas+p<s.nxt):Rz N ns s1:=by
 obtain ⟨c,A,μ,lam,a,w,R⟩:=hz
 have h:=step_sound (ro:=none) hI hst hr R hk hn (fun _ _ _=>False)
 split at h
 ·obtain ⟨a',w',A',μ',lam',R'⟩:=upon_exists h
  exact ⟨c,A',μ',lam',a',w',R'⟩
 ·obtain ⟨A',μ',lam',R'⟩:=h
  exact ⟨c,A',μ',lam',_,w,R'⟩
theorem run_move (hI:I.Ok N) (hl:ops.toList.length=l.length /\ ∀ (i:Nat) (r:ROp),l[i]? = some r -> ∃ o,ops.toList[i]? = some o/\OpRel P I ns ops o r) {i:Nat} {l2:List Nat} {s' : St} :
 ∀ (l1:List Nat) (s:St),Rz N ns s->(l1++i::l2).Nodup->(∀ q∈l1++i::l2,s.heap (s.bas+q)=none/\s.bas+q<s.nxt) ->
  (∀ j∈l1, ∀ x y,l[j]? = some x->l[i]? = some y->Indep x y\/IndepR x y\/IndepX x y)->Run P N true l (l1++i::l2) s s' -> Run P N true l (i::(l1++l2)) s s' := by
 intro l1
 induction l1 with
 | nil=>intro s _ _ _ _ h; exact h
 | cons j l1 ih =>
  intro s hz hnd hfr hind h
  cases h with
  | cons hr h1 h2 =>
   rename_i s1 rj
   obtain ⟨oj,hoj,hrelj⟩:=hl.2 j rj hr
   have hnd' := List.nodup_cons.1 (by simpa using hnd:(j::(l1++i::l2)).Nodup)
   obtain ⟨fj1,fj2⟩:=hfr j (by simp)
   obtain ⟨fi1,fi2⟩:=hfr i (by simp)
   have hz1:Rz N ns s1:=hz.step hI h1 hrelj fj1 fj2
   obtain ⟨g1,g2,g3⟩:=h1.free
   have hfr1 : ∀ q∈l1++i::l2,s1.heap (s1.bas+q)=none/\s1.bas+q<s1.nxt:=by
    intro q hq
    obtain ⟨e1,e2⟩:=hfr q (by simp at hq ⊢; exact .inr hq)
    rw [g1]
    refine ⟨g3 _ e2 (fun e=>hnd'.1 ?_) e1,by omega⟩
    have:q=j:=by omega
    exact this ▸ hq
   have h3:=ih s1 hz1 hnd'.2 hfr1 (fun q hq x y hx hy=>hind q (List.mem_cons_of_mem _ hq) x y hx hy) h2
   cases h3 with
   | cons hri h4 h5 =>
    rename_i t1 ri
    have hij:=hind j List.mem_cons_self rj ri hr hri
    have hne:j≠i:=by rintro rfl; exact hnd'.1 (by simp)
    rcases hij with hij | hij | hij
    ·obtain ⟨ej,hdj,hfj,rfl⟩:=h1.toD hij.r1
     obtain ⟨ei,hdi,hfi,rfl⟩:=h4.toD hij.r2
     obtain ⟨k1,k2,k3,k4,k5⟩:=swap hz hij hne fj1 fi1 hdj hfj hdi hfi
     refine .cons hri (k1.toG k2) (.cons hr (k3.toG k4) ?_)
     rw [<- k5]; exact h5
    ·obtain ⟨t,k1,k3⟩:=swapR hz hij h1 h4
     exact .cons hri k1 (.cons hr k3 h5)
    ·obtain ⟨ej,hdj,hfj,rfl⟩:=h1.toD (app_sh hij.ap).2.2
     obtain ⟨ei,hdi,hfi,rfl⟩:=h4.toD (look_sh hij.lk).2.2.1
     obtain ⟨k1,k2,k3,k4,k5⟩:=swapX hz hij hne fj1 fi1 hdj hfj hdi hfi
     refine .cons hri (k1.toG k2) (.cons hr (k3.toG k4) ?_)
     rw [<- k5]; exact h5
def left (n:Nat) (listed:Array Bool):List Nat:=(List.range n).filter fun i => !listed.getD i true
def ready (ops:Array Oper) (listed:Array Bool):List Nat :=
 (List.range ops.size).filter fun i => !listed.getD i true&&((ops[i]?).map (·.after.all fun e => !Region.binds .any e||listed.getD e.on false)).getD false
def fut (ops:Array Oper):Nat->Nat->Array Bool->List Nat
 | 0,_,_=>[]
 | fuel+1,t,listed=>match (ready ops listed)[t % (ready ops listed).length]? with
  | some i=>i::fut ops fuel (t / (ready ops listed).length) (listed.setIfInBounds i true)
  | none=>[]
theorem go_fut (ops:Array Oper) : ∀ (fuel t:Nat) (listed:Array Bool) (acc:List Nat),Region.linearise.go .any ops fuel t listed acc=acc.reverse++fut ops fuel t listed
 | 0,t,listed,acc=>by simp [Region.linearise.go,fut]
 | fuel+1,t,listed,acc=>by
  simp only [Region.linearise.go,fut]
  show (match (ready ops listed)[t % (ready ops listed).length]? with
   | some i=>Region.linearise.go .any ops fuel (t / (ready ops listed).length) (listed.setIfInBounds i true) (i::acc)
   | none=>acc.reverse)=_
  split
  ·rename_i i hi
   rw [go_fut ops fuel]
   simp
  ·simp
theorem getD_set (listed:Array Bool) (i q:Nat) (d:Bool) (hi:i<listed.size):(listed.setIfInBounds i true).getD q d=if q=i then true else listed.getD q d:=by
 by_cases h:q=i
 ·subst h; simp [hi]
 ·simp [h,Array.getD_eq_getD_getElem?,Ne.symm h]
theorem fut_sound (hI:I.Ok N) {c:Ctx} (hl:ops.toList.length=l.length /\ ∀ (i:Nat) (r:ROp),l[i]? = some r -> ∃ o,ops.toList[i]? = some o/\OpRel P I ns ops o r) (hdr:drawOk ops l=true) (Q:Exit->Act->World->Prop) {s' : St}
 (hQ : ∀ a' w' A' μ' lam',Rel N c ns A' μ' lam' s' a' w' -> Q .normal a' w') :
 ∀ (fuel t:Nat) (listed:Array Bool) (s:St) (A:Nat->Prop) (μ lam:Nat->Nat) (a:Act) (w:World),listed.size=ops.size->(left ops.size listed).length<=fuel ->
  (∀ (i:Nat) (o:Oper),ops[i]? = some o->listed.getD i true=true -> ∀ q∈preds o,listed.getD q false=true) ->
  Run P N true l (left ops.size listed) s s' -> (∀ q∈left ops.size listed,s.heap (s.bas+q)=none/\s.bas+q<s.nxt)->Rel N c ns A μ lam s a w->wpOpsIn (FW ro) 0 P ops Q (fut ops fuel t listed) a w:=by
 have hn:ops.size=l.length:=by simpa using hl.1
 simp only [drawOk,List.all_eq_true,List.mem_range,Bool.and_eq_true,Bool.or_eq_true] at hdr
 have hback : ∀ (i:Nat) (o:Oper),ops[i]? = some o -> ∀ q∈preds o,q<i:=by
  intro i o ho q hq
  have hi:i<ops.size:=(Array.getElem?_eq_some_iff.1 ho).1
  have:=(hdr i (by omega)).1
  rw [ho] at this
  simp only [Option.elim,List.all_eq_true,decide_eq_true_eq] at this
  exact this q hq
 intro fuel
 induction fuel with
 | zero =>
  intro t listed s A μ lam a w _ hlen _ hrun _ R
  have:left ops.size listed=[]:=List.length_eq_zero_iff.1 (by omega)
  rw [this] at hrun
  cases hrun
  exact hQ a w A μ lam R
 | succ fuel ih =>
  intro t listed s A μ lam a w hsz hlen hcl hrun hfr R
  have hmem : ∀ q,q∈left ops.size listed<->q<ops.size/\listed.getD q true=false:=by
   intro q; simp [left,List.mem_filter]
  cases hL:left ops.size listed with
  | nil =>
   have hr0:ready ops listed=[]:=by
    refine List.filter_eq_nil_iff.2 fun i hi => ?_
    have:i ∉ left ops.size listed:=by rw [hL]; simp
    rw [hmem] at this
    simp only [List.mem_range] at hi
    simp [hi] at this
    simp [this]
   rw [hL] at hrun
   cases hrun
   simp only [fut,hr0]
   simp only [List.getElem?_nil]
   exact hQ a w A μ lam R
  | cons h0 L0 =>
   have hh0:h0∈left ops.size listed:=by rw [hL]; simp
   have hsorted:(left ops.size listed).Pairwise (· < ·):=List.Pairwise.filter _ List.pairwise_lt_range
   have hpredsOf : ∀ (i:Nat) (o:Oper),ops[i]? = some o->(∀ q∈preds o,listed.getD q false=true)->(o.after.all fun e => !Region.binds .any e||listed.getD e.on false)=true:=by
    intro i o ho hp
    rw [Array.all_eq_true']
    intro e he
    cases hb:Region.binds .any e with
    | false=>simp
    | true =>
     simp only [Bool.not_true,Bool.false_or]
     exact hp e.on (by simp only [preds,List.mem_filterMap]; exact ⟨e,by simpa using he,by simp [hb]⟩)
   have hready0:h0∈ready ops listed:=by
    obtain ⟨hlt,hnl⟩:=(hmem h0).1 hh0
    refine List.mem_filter.2 ⟨List.mem_range.2 hlt, ?_⟩
    rw [hnl,Array.getElem?_eq_getElem hlt]
    simp only [Bool.not_false,Bool.true_and,Option.map_some,Option.getD_some]
    refine hpredsOf h0 _ (Array.getElem?_eq_getElem hlt) (fun q hq => ?_)
    have hqlt:=hback h0 _ (Array.getElem?_eq_getElem hlt) q hq
    have hnotin:q ∉ left ops.size listed:=by
     intro hin
     rw [hL] at hin hsorted
     rcases List.mem_cons.1 hin with rfl | hin
     ·omega
     ·have:=(List.pairwise_cons.1 hsorted).1 q hin; omega
    rw [hmem] at hnotin
    have hq2:q<listed.size:=by omega
    have:listed.getD q true=true:=by
     cases hb:listed.getD q true with
     | true=>rfl
     | false=>exact absurd ⟨by omega,hb⟩ hnotin
    rw [Array.getD_eq_getD_getElem?,Array.getElem?_eq_getElem hq2] at this ⊢
    exact this
   have hpos:0<(ready ops listed).length:=List.length_pos_of_mem hready0
   have hlt:t % (ready ops listed).length<(ready ops listed).length:=Nat.mod_lt _ hpos
   simp only [fut,List.getElem?_eq_getElem hlt]
   generalize hidef:(ready ops listed)[t % (ready ops listed).length]=i
   have hir:i∈ready ops listed:=by rw [<- hidef]; exact List.getElem_mem hlt
   obtain ⟨hi1,hi2⟩:=List.mem_filter.1 hir
   have hil:i<ops.size:=List.mem_range.1 hi1
   simp only [Bool.and_eq_true,Bool.not_eq_true'] at hi2
   obtain ⟨hi3,hi4⟩:=hi2
   have hioo:ops[i]? = some ops[i]:=Array.getElem?_eq_getElem hil
   rw [hioo] at hi4
   simp only [Option.map_some,Option.getD_some] at hi4
   have hipre : ∀ q∈preds ops[i],listed.getD q false=true:=by
    intro q hq
    simp only [preds,List.mem_filterMap] at hq
    obtain ⟨e,he,hq⟩:=hq
    split at hq
    ·rename_i hb
     simp only [Option.some.injEq] at hq; subst hq
     rw [Array.all_eq_true'] at hi4
     have:=hi4 e (by simpa using he)
     simpa [hb] using this
    ·simp at hq
   have hin:i∈left ops.size listed:=(hmem i).2 ⟨hil,hi3⟩
   -- what is before it has been executed
   have hbef : ∀ (k:Nat),k<ops.size->(∀ (o:Oper),ops[k]? = some o -> ∀ q∈preds o,listed.getD q false=true) -> ∀ m,((befs ops).getD k 0).testBit m=true->listed.getD m false=true:=by
    intro k
    induction k using Nat.strongRecOn with
    | _ k ihk =>
     intro hk hp m hm
     have hko:ops.toList[k]? = some ops[k]:=by simp [hk]
     obtain ⟨q,hq,hmq⟩:=befGo_spec ops.toList [] k ops[k] hko (fun q hq=>by simpa using hback k _ (Array.getElem?_eq_getElem hk) q hq) m (by simpa [befs] using hm)
     have hql:=hp _ (Array.getElem?_eq_getElem hk) q hq
     have hqk:=hback k _ (Array.getElem?_eq_getElem hk) q hq
     rcases hmq with rfl | hmq
     ·exact hql
     ·refine ihk q hqk (by omega) (fun o ho r hr => ?_) m hmq
      refine hcl q o ho ?_ r hr
      have hq2:q<listed.size:=by omega
      rw [Array.getD_eq_getD_getElem?,Array.getElem?_eq_getElem hq2] at hql ⊢
      exact hql
   obtain ⟨l1,l2,hsplit⟩:=List.append_of_mem hin
   have hnd:(left ops.size listed).Nodup:=hsorted.imp (fun h=>Nat.ne_of_lt h)
   have hlt1 : ∀ j∈l1,j<i:=by
    intro j hj
    rw [hsplit] at hsorted
    exact (List.pairwise_append.1 hsorted).2.2 j hj i (by simp)
   have hind : ∀ j∈l1, ∀ x y,l[j]? = some x->l[i]? = some y->Indep x y\/IndepR x y\/IndepX x y:=by
    intro j hj x y hx hy
    have hji:=hlt1 j hj
    have h1:=(hdr i (by omega)).2 j hji
    rcases h1 with h1 | h1
    ·have hlm:=hbef i hil (fun o ho q hq=>by rw [hioo] at ho; cases ho; exact hipre q hq) j h1
     have hjn:j∈left ops.size listed:=by rw [hsplit]; simp [hj]
     obtain ⟨hj1,hj2⟩:=(hmem j).1 hjn
     have hj3:j<listed.size:=by omega
     rw [Array.getD_eq_getD_getElem?,Array.getElem?_eq_getElem hj3] at hlm hj2
     simp only [Option.getD_some] at hlm hj2
     rw [hlm] at hj2; simp at hj2
    ·rw [hx,hy] at h1
     simp only [Bool.or_eq_true] at h1
     rcases h1 with (h1 | h1) | h1
     ·exact .inl (indep_spec h1)
     ·exact .inr (.inl (indepR_spec h1))
     ·exact .inr (.inr (indepX_spec h1))
   rw [hsplit] at hrun hfr hnd
   have hmv:=run_move hI hl l1 s ⟨c,A,μ,lam,a,w,R⟩ hnd hfr hind hrun
   cases hmv with
   | cons hri h1 h2 =>
    rename_i s1 ri
    obtain ⟨o,ho,hrel⟩:=hl.2 i ri hri
    obtain ⟨f1,f2⟩:=hfr i (by simp)
    have hs:=step_sound (ro:=ro) hI h1 hrel R f1 f2 Q
    obtain ⟨g1,g2,g3⟩:=h1.free
    have hrem:left ops.size (listed.setIfInBounds i true)=l1++l2:=by
     have e1:left ops.size (listed.setIfInBounds i true)=(left ops.size listed).filter (fun q=>q != i):=by
      simp only [left,List.filter_filter]
      congr 1
      funext q
      rw [getD_set listed i q true (by omega)]
      by_cases h:q=i
      ·subst h; simp
      ·simp [h]
     rw [e1,hsplit,List.filter_append,List.filter_cons]
     simp only [bne_self_eq_false,Bool.false_eq_true,if_false]
     have hn1:i ∉ l1:=fun h=>by have:=hlt1 i h; omega
     have hn2:i ∉ l2:=by
      intro h
      have:=(List.nodup_append.1 hnd).2.1
      exact (List.nodup_cons.1 this).1 h
     rw [List.filter_eq_self.2 (fun q hq=>by simp; rintro rfl; exact hn1 hq),List.filter_eq_self.2 (fun q hq=>by simp; rintro rfl; exact hn2 hq)]
    have hlen' : (l1++l2).length<=fuel:=by rw [hsplit] at hlen; simp at hlen ⊢; omega
    have hcl' : ∀ (k:Nat) (o:Oper),ops[k]? = some o->(listed.setIfInBounds i true).getD k true=true -> ∀ q∈preds o,(listed.setIfInBounds i true).getD q false=true:=by
     intro k o' ho' hk q hq
     rw [getD_set listed i k true (by omega)] at hk
     rw [getD_set listed i q false (by omega)]
     by_cases hki:k=i
     ·subst hki
      rw [hioo] at ho'; cases ho'
      rw [hipre q hq]; simp
     ·rw [if_neg hki] at hk
      rw [hcl k o' ho' hk q hq]; simp
    have hfr' : ∀ q∈l1++l2,s1.heap (s1.bas+q)=none/\s1.bas+q<s1.nxt:=by
     intro q hq
     have hq' : q∈l1++i::l2:=by simp at hq ⊢; rcases hq with h | h <;> simp [h]
     obtain ⟨e1,e2⟩:=hfr q hq'
     rw [g1]
     refine ⟨g3 _ e2 (fun e => ?_) e1,by omega⟩
     have hqi:q=i:=by omega
     subst hqi
     have hm1:q ∉ l1:=fun h=>by have:=hlt1 q h; omega
     have hm2:q ∉ l2:=by
      intro h
      have:=(List.nodup_append.1 hnd).2.1
      exact (List.nodup_cons.1 this).1 h
     simp [hm1,hm2] at hq
    rw [Array.getElem?_toList] at ho
    simp only [wpOpsIn,ho]
    have next : ∀ a' w' A' μ' lam',Rel N c ns A' μ' lam' s1 a' w' -> wpOpsIn (FW ro) 0 P ops Q (fut ops fuel (t / (ready ops listed).length) (listed.setIfInBounds i true)) a' w' := by
     intro a' w' A' μ' lam' R'
     refine ih _ _ s1 A' μ' lam' a' w' (by simpa using hsz) (by rw [hrem]; exact hlen') hcl' (by rw [hrem]; exact h2) (by rw [hrem]; exact hfr') R'
    split
    ·rename_i hw
     rw [if_pos hw] at hs
     refine upon_mono hs ?_
     rintro a' w' ⟨A',μ',lam',R'⟩
     exact next a' w' A' μ' lam' R'
    ·rename_i hw
     rw [if_neg hw] at hs
     obtain ⟨A',μ',lam',R'⟩:=hs
     exact ⟨fun _ _=>trivial,next _ _ A' μ' lam' R'⟩
theorem draw_sound {c:Ctx} {A:Nat->Prop} {μ lam:Nat->Nat} {s s' : St} {a:Act} {w:World} (hI:I.Ok N) (hl:ops.toList.length=l.length /\ ∀ (i:Nat) (r:ROp),l[i]? = some r -> ∃ o,ops.toList[i]? = some o/\OpRel P I ns ops o r) (hdr:drawOk ops l=true) (Q:Exit->Act->World->Prop)
 (hrun:Run P N true l (List.range l.length) s s') (hfresh : ∀ i,i<l.length->s.heap (s.bas+i)=none/\s.bas+i<s.nxt) (R:Rel N c ns A μ lam s a w)
 (hQ : ∀ a' w' A' μ' lam',Rel N c ns A' μ' lam' s' a' w' -> Q .normal a' w') (t:Nat):wpOpsIn (FW ro) 0 P ops Q (Region.linearise .any ops t) a w:=by
 have hn:ops.size=l.length:=by simpa using hl.1
 have hg : ∀ q d,q<ops.size->(Array.replicate ops.size false).getD q d=false:=by
  intro q d hq
  rw [Array.getD_eq_getD_getElem?,Array.getElem?_replicate,if_pos hq]; rfl
 have hleft:left ops.size (Array.replicate ops.size false)=List.range l.length:=by
  simp only [left]
  rw [<- hn]
  refine List.filter_eq_self.2 fun q hq => ?_
  rw [hg q true (List.mem_range.1 hq)]; rfl
 simp only [Region.linearise,go_fut,List.reverse_nil,List.nil_append]
 refine fut_sound hI hl hdr Q hQ ops.size t _ s A μ lam a w (by simp) (by rw [hleft]; simp [hn]) ?_ (by rw [hleft]; exact hrun) (by rw [hleft]; exact fun q hq=>hfresh q (List.mem_range.1 hq)) R
 intro i o ho hi
 have:i<ops.size:=(Array.getElem?_eq_some_iff.1 ho).1
 rw [hg i true this] at hi; simp at hi
end
end Rg
end
