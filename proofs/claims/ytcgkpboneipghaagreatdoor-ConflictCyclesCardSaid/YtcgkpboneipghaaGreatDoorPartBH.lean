/- Part of the proof of the laws of the package relyguardlaw30: an abstract machine for the program's functions, what they compute, and that the machine is the program's. No condition. (H47a) -/
import Derived.Test.YtcgkpboneipghaaGreatDoorPartAZ
set_option linter.unusedSimpArgs false
set_option linter.unusedVariables false
section
namespace Rg
open Go
theorem not_bit {i j:Nat} (hi:i<64):(2^64-1-1 <<< i).testBit j=(decide (j<64)&&decide (i≠j)):=by
 have h:1 <<< i<2^64:=by rw [Nat.one_shiftLeft]; exact Nat.pow_lt_pow_right (by decide) hi
 rw [Nat.sub_sub,Nat.add_comm 1,Nat.testBit_two_pow_sub_succ h,bit_one]
 by_cases hj:i=j <;> simp [hj]
theorem rowC_bit {same:Bool} {i j m:Nat} (hi:i<64) (hj:j<64):(Gr.rowC same i m).testBit j=if same then (m.testBit j&&decide (i≠j)) else (m.testBit j||decide (i=j)):=by
 unfold Gr.rowC
 cases same
 ·simp only [Bool.false_eq_true,if_false,Nat.testBit_or,bit_one]
 ·simp only [if_true,Nat.testBit_and,Nat.testBit_or,bit_one,not_bit hi,hj,decide_true,Bool.true_and]
  by_cases h:i=j <;> simp [h]
namespace Gr
variable {g:Gr}
theorem Ok.ac_of (hg:g.Ok) {d:Nat} (hd:g.mks d≠0) : ∃ a,a<g.all.length/\g.cl a=d:=by
 obtain ⟨j,hj⟩:=ne_zero_bit.1 hd
 obtain ⟨a,h1,h2,_⟩:=(hg.mk_bit d j).1 hj
 exact ⟨a,h1,h2⟩
theorem Ok.couple_iff (hg:g.Ok) {c d:Nat} (ht:g.thr d=g.thr c):g.couple c d=true <-> ∃ a b,a<g.all.length/\b<g.all.length/\g.cl a=c/\g.cl b=d/\(if c=d then (g.ac a).st≠(g.ac b).st/\(g.ldAt (g.ac a).th (g.ac a).st).testBit (g.ac b).st=true else ((g.ac a).st=(g.ac b).st\/(g.ldAt (g.ac a).th (g.ac a).st).testBit (g.ac b).st=true)):=by
 have hrow : ∀ a,a<g.all.length->g.cl a=c -> ∀ j,j<64->((((g.ld.getD (g.thr c) []).mapIdx fun i m=>rowC (decide (c=d)) i m).getD (g.ac a).st 0).testBit j) =
  if c=d then ((g.ldAt (g.ac a).th (g.ac a).st).testBit j&&decide ((g.ac a).st≠j)) else ((g.ldAt (g.ac a).th (g.ac a).st).testBit j||decide ((g.ac a).st=j)):=by
  intro a ha hca j hj
  have h1:=hg.thr_cl a ha
  have h2:=hg.th_lt a ha
  have h3:=hg.st_lt a ha
  rw [hca] at h1
  have h4:=hg.ld_row _ h2
  rw [List.getD_eq_getElem?_getD,List.getElem?_mapIdx,h1,List.getElem?_eq_getElem (by omega)]
  simp only [Option.map_some,Option.getD_some]
  rw [rowC_bit h3 hj]
  have:g.ldAt (g.ac a).th (g.ac a).st=(g.ld.getD (g.ac a).th [])[(g.ac a).st]'(by omega):=by
   unfold ldAt
   rw [List.getD_eq_getElem?_getD,List.getElem?_eq_getElem (by omega)]; rfl
  rw [this]
  by_cases h:c=d <;> simp [h]
 unfold couple
 rw [meets_iff]
 constructor
 ·rintro ⟨i,j,hi,h1,h2,h3⟩
  obtain ⟨a,ha,hca,rfl⟩:=(hg.mk_bit c i).1 h1
  obtain ⟨b,hb,hcb,rfl⟩:=(hg.mk_bit d j).1 h3
  rw [hrow a ha hca _ (hg.st_lt b hb)] at h2
  refine ⟨a,b,ha,hb,hca,hcb, ?_⟩
  by_cases h:c=d
  ·rw [if_pos h] at h2 ⊢
   rw [Bool.and_eq_true,decide_eq_true_eq] at h2
   exact ⟨h2.2,h2.1⟩
  ·rw [if_neg h] at h2 ⊢
   rw [Bool.or_eq_true,decide_eq_true_eq] at h2
   exact h2.symm
 ·rintro ⟨a,b,ha,hb,hca,hcb,h⟩
  refine ⟨(g.ac a).st,(g.ac b).st,hg.st_lt a ha,(hg.mk_bit c _).2 ⟨a,ha,hca,rfl⟩, ?_,(hg.mk_bit d _).2 ⟨b,hb,hcb,rfl⟩⟩
  rw [hrow a ha hca _ (hg.st_lt b hb)]
  by_cases hcd:c=d
  ·rw [if_pos hcd] at h ⊢
   rw [Bool.and_eq_true,decide_eq_true_eq]; exact ⟨h.2,h.1⟩
  ·rw [if_neg hcd] at h ⊢
   rw [Bool.or_eq_true,decide_eq_true_eq]; exact h.symm
theorem partner_iff {a b:Nat}:g.partner a b=true<->a≠b/\(g.ac a).th=(g.ac b).th/\((g.ac a).st=(g.ac b).st\/(g.ldAt (g.ac a).th (g.ac a).st).testBit (g.ac b).st=true):=by
 simp only [partner,Bool.and_eq_true,Bool.or_eq_true,decide_eq_true_eq]
theorem Ok.couple_get (hg:g.Ok) {c d:Nat} (ht:g.thr d=g.thr c) (h:g.couple c d=true) : ∃ a b,a<g.all.length/\b<g.all.length/\g.cl a=c/\g.cl b=d/\g.partner a b=true:=by
 obtain ⟨a,b,ha,hb,hca,hcb,h2⟩:=(hg.couple_iff ht).1 h
 refine ⟨a,b,ha,hb,hca,hcb,partner_iff.2 ⟨?_, ?_, ?_⟩⟩
 ·rintro rfl
  split at h2
  ·exact h2.1 rfl
  ·rename_i hn; exact hn (by rw [<- hca, <- hcb])
 ·rw [<- hg.thr_cl a ha, <- hg.thr_cl b hb,hca,hcb,ht]
 ·split at h2
  ·exact .inr h2.2
  ·exact h2
theorem Ok.begins_of (hg:g.Ok) {r goal d m:Nat} (hd:g.mks d≠0) (h:g.opens r goal d m=true) : ∃ a,a<g.all.length/\g.cl a=d/\g.begins r goal a m=true:=by
 simp only [opens,Bool.or_eq_true,Bool.and_eq_true,decide_eq_true_eq,List.any_eq_true,List.mem_range] at h
 rcases h with h | ⟨h0,e,he,h1,h2,h3⟩
 ·obtain ⟨a,ha,hc⟩:=hg.ac_of hd
  refine ⟨a,ha,hc, ?_⟩
  simp only [begins,Bool.or_eq_true]
  rw [hc]; exact .inl h
 ·obtain ⟨a,b,ha,hb,hca,hcb,hp⟩:=hg.couple_get h1 h2
  refine ⟨a,ha,hca, ?_⟩
  simp only [begins,Bool.or_eq_true,Bool.and_eq_true,decide_eq_true_eq,List.any_eq_true,List.mem_range]
  exact .inr ⟨h0,b,hb,hp,by rw [hcb]; exact h3⟩
def can (g:Gr) (goal r last m:Nat) (op:Bool):Prop:=if op then g.begins r goal last m=true else g.ends r goal (g.cl last) m=true
theorem or_bit {m k j:Nat}:(m ||| 1 <<< k).testBit j=(m.testBit j||decide (k=j)):=by rw [Nat.testBit_or,bit_one]
theorem Ok.next_some (hg:g.Ok) {goal r last m:Nat} {op:Bool} (hl:last<g.all.length) (hm:m.testBit (g.ac last).th=true) (h:g.can goal (r+1) last m op) : ∃ c,c<g.all.length/\g.next goal last m op r c=true:=by
 have key:g.ends (r+1) goal (g.cl last) m=true -> ∃ c,c<g.all.length/\g.next goal last m op r c=true:=by
  intro h
  rw [ends_succ,List.any_eq_true] at h
  obtain ⟨d,hd,h⟩:=h
  simp only [ok,Bool.and_eq_true,decide_eq_true_eq,Bool.not_eq_true'] at h
  obtain ⟨⟨h1,h2,h3⟩,h4⟩:=h
  obtain ⟨a,ha,hca,hb⟩:=hg.begins_of h1 h4
  have ht:g.thr d=(g.ac a).th:=by rw [<- hca]; exact hg.thr_cl a ha
  refine ⟨a,ha, ?_⟩
  rw [ht] at h2 hb
  have hnp:g.partner last a=false:=by
   cases hp:g.partner last a
   ·rfl
   ·have:=(partner_iff.1 hp).2.1
    rw [this,h2] at hm; cases hm
  have hv:g.visit last m op a=(false,true):=by
   unfold visit
   rw [hnp,h2,hca,h3]; simp
  unfold next
  rw [hv]; simpa using hb
 cases op
 ·exact key (by simpa [can] using h)
 ·simp only [can,if_true,begins,Bool.or_eq_true,Bool.and_eq_true,decide_eq_true_eq,List.any_eq_true,List.mem_range] at h
  rcases h with h | ⟨_,b,hb,hp,h⟩
  ·exact key h
  ·refine ⟨b,hb, ?_⟩
   unfold next visit
   rw [hp]; simpa using h
theorem Ok.next_can (hg:g.Ok) {goal r last m c:Nat} {op:Bool} (hl:last<g.all.length) (hm:m.testBit (g.ac last).th=true) (hc:c<g.all.length) (h:g.next goal last m op r c=true) :
 if (g.visit last m op c).1 then (op=true/\g.partner last c=true/\g.can goal r c m false/\m.testBit (g.ac c).th=true)
 else (m.testBit (g.ac c).th=false/\g.prec (g.cl last) (g.cl c)=true/\g.can goal r c (m ||| 1 <<< (g.ac c).th) true/\(m ||| 1 <<< (g.ac c).th).testBit (g.ac c).th=true):=by
 unfold next at h
 split at h
 ·rename_i hv
  rw [if_pos hv]
  simp only [visit,Bool.and_eq_true] at hv
  refine ⟨hv.1,hv.2,by simpa [can] using h, ?_⟩
  rw [<- (partner_iff.1 hv.2).2.1]; exact hm
 ·rename_i hv
  rw [if_neg hv]
  simp only [visit,Bool.and_eq_true,Bool.not_eq_true'] at h
  exact ⟨h.1.1,h.1.2,by simpa [can] using h.2,by rw [or_bit]; simp⟩
theorem find_some {α:Type} {l:List α} {f:α->Bool} (h : ∃ x∈l,f x=true) : ∃ x,l.find? f=some x/\x∈l/\f x=true:=by
 cases hf:l.find? f with
 | none =>
   obtain ⟨x,h1,h2⟩:=h
   have:=List.find?_eq_none.1 hf x h1
   exact absurd h2 this
 | some x=>exact ⟨x,rfl,List.mem_of_find?_eq_some hf,List.find?_some hf⟩
theorem Ok.follow_some (hg:g.Ok) (goal:Nat) : ∀ (r last m:Nat) (op:Bool),last<g.all.length->m.testBit (g.ac last).th=true->g.can goal r last m op -> ∃ l,g.follow goal r last m op=some l
 | 0,_,_,_,_,_,_=>⟨[],rfl⟩
 | r+1,last,m,op,hl,hm,h=>by
   obtain ⟨c,hc,hn⟩:=hg.next_some hl hm h
   obtain ⟨x,hx,hxm,hxn⟩:=find_some (l:=List.range g.all.length) (f:=g.next goal last m op r) ⟨c,List.mem_range.2 hc,hn⟩
   have hxl:=List.mem_range.1 hxm
   have hcan:=hg.next_can hl hm hxl hxn
   rw [follow,hx]
   simp only
   split at hcan
   ·rename_i hv
    rw [if_pos hv]
    obtain ⟨l,hl⟩:=hg.follow_some goal r x m false hxl hcan.2.2.2 hcan.2.2.1
    exact ⟨_,by rw [hl]; rfl⟩
   ·rename_i hv
    rw [if_neg hv]
    obtain ⟨l,hl⟩:=hg.follow_some goal r x _ true hxl hcan.2.2.2 hcan.2.2.1
    exact ⟨_,by rw [hl]; rfl⟩
def ClsAt (g:Gr):Prop := ∀ i,i<g.all.length -> ∃ b,b<=1/\g.cl i=(g.ac i).th*g.sz+2*(g.ac i).ce+b
theorem mem_mask (hg:g.Ok) {f:Acc->Bool} {c j:Nat} (h:(g.maskF f c g.all.length).testBit j=true) : ∃ a,a<g.all.length/\g.cl a=c/\f (g.ac a)=true/\(g.ac a).st=j:=by
 obtain ⟨⟨a,c'⟩,hq,h1,rfl,h2⟩:=(maskF_bit f c _ j).1 h
 obtain ⟨n,hn,he⟩:=List.mem_iff_getElem.1 (List.mem_of_mem_take hq)
 have hn1:n<g.all.length:=by rw [List.length_zip] at hn; omega
 have hn2:n<g.cls.length:=by rw [hg.cl_len]; exact hn1
 rw [List.getElem_zip] at he
 obtain ⟨e1,e2⟩:=Prod.mk.inj he
 have e3:g.ac n=a:=by simp only [ac,List.getD_eq_getElem?_getD,List.getElem?_eq_getElem hn1,Option.getD_some]; exact e1
 refine ⟨n,hn1, ?_,by rw [e3]; exact h1,by rw [e3]; exact h2⟩
 simp only [cl,List.getD_eq_getElem?_getD,List.getElem?_eq_getElem hn2,Option.getD_some]; exact e2
theorem pair_get (hg:g.Ok) (hcl:g.ClsAt) {c d:Nat} (h:g.isPair c d=true) : ∃ a b,a<g.all.length/\b<g.all.length/\g.cl a=c/\g.cl b=d/\g.delay a b=true:=by
 obtain ⟨_,_,h3,h4,h5⟩:=isPair_iff.1 h
 obtain ⟨i,j,hi,h6,h7,h8⟩:=meets_iff.1 h5
 obtain ⟨a,ha,hca,hea,rfl⟩:=mem_mask hg h6
 obtain ⟨b,hb,hcb,hlb,rfl⟩:=mem_mask hg h8
 have t1:=hg.thr_cl a ha
 have t2:=hg.thr_cl b hb
 rw [hca] at t1
 rw [hcb] at t2
 have ht:(g.ac a).th=(g.ac b).th:=by rw [<- t1, <- t2,h3]
 refine ⟨a,b,ha,hb,hca,hcb,delay_iff.2 ⟨ht, ?_, ?_,hea,hlb⟩⟩
 ·intro he
  obtain ⟨x,hx,e1⟩:=hcl a ha
  obtain ⟨y,hy,e2⟩:=hcl b hb
  rw [hca] at e1
  rw [hcb] at e2
  apply h4
  rw [e1,e2,ht,he]
  have hev:(g.ac b).th*g.sz=2*((g.ac b).th*(g.nc+g.nt)):=by unfold sz; rw [Nat.mul_left_comm]
  rw [hev]; omega
 ·rw [t1] at h7; exact h7
theorem first_some (hg:g.Ok) (hcl:g.ClsAt) {r:Nat} (h:g.atRest r=true) : ∃ l,g.first r=some l:=by
 obtain ⟨c,d,_,_,h1,h2⟩:=atRest_iff.1 h
 obtain ⟨a,b,ha,hb,hca,hcb,hd⟩:=pair_get hg hcl h1
 have hs:g.starts r a b=true:=by
  unfold starts
  rw [hd,hca,hcb]
  have:=hg.thr_cl b hb
  rw [hcb] at this
  rw [<- this,h2]; rfl
 obtain ⟨x,hx,hxm,hxs⟩:=find_some (l:=((List.range g.all.length).flatMap fun a=>(List.range g.all.length).map fun b=>(a,b))) (f:=fun x=>g.starts r x.1 x.2)
  ⟨(a,b),by simp only [List.mem_flatMap,List.mem_range,List.mem_map]; exact ⟨a,ha,b,hb,rfl⟩,hs⟩
 simp only [List.mem_flatMap,List.mem_range,List.mem_map] at hxm
 obtain ⟨x1,k1,x2,k2,rfl⟩:=hxm
 unfold first
 rw [hx]
 simp only [starts,Bool.and_eq_true] at hxs
 obtain ⟨l,hl⟩:=hg.follow_some (g.cl x1) r x2 (1 <<< (g.ac x2).th) false k2 (by rw [bit_one]; simp) (by simpa [can] using hxs.2)
 exact ⟨_,by simp only; rw [hl]; rfl⟩
theorem shortest_at {r:Nat} (h:g.shortest=some r):g.atRest r=true/\1<=r/\r<=2*(g.nt-1):=by
 unfold shortest at h
 have h1:=List.find?_some h
 have h2:=List.mem_of_find?_eq_some h
 simp only [List.mem_map,List.mem_range] at h2
 obtain ⟨a,ha,rfl⟩:=h2
 exact ⟨h1,by omega,by omega⟩
theorem cycle_none (hg:g.Ok) (hcl:g.ClsAt):g.cycle=none<->g.shortest=none:=by
 unfold cycle
 cases h:g.shortest with
 | none=>simp
 | some r =>
   obtain ⟨l,hl⟩:=first_some hg hcl (shortest_at h).1
   simp [hl]
theorem follow_len (goal:Nat) : ∀ (r last m:Nat) (op:Bool) (l:List Acc),g.follow goal r last m op=some l->l.length=r
 | 0,_,_,_,l,h=>by rw [follow] at h; cases h; rfl
 | r+1,last,m,op,l,h=>by
   rw [follow] at h
   split at h
   ·cases h
   ·split at h
    all_goals
     obtain ⟨l',hl',rfl⟩:=Option.map_eq_some_iff.1 h
     simp [follow_len goal r _ _ _ l' hl']
theorem first_len {r:Nat} {l:List Acc} (h:g.first r=some l):l.length=r+2:=by
 unfold first at h
 split at h
 ·cases h
 ·obtain ⟨l',hl',rfl⟩:=Option.map_eq_some_iff.1 h
  simp [follow_len _ _ _ _ _ l' hl']
end Gr
theorem grM_cls {p:Prog} (h:p.ok) (model:Int):(grM p model).ClsAt:=by
 intro i hi
 have hcl:(grM p model).cl i=clsM p ((grM p model).ac i):=by
  have hi' : i<(accsM p).length:=hi
  simp only [Gr.cl,Gr.ac,grM,List.getD_eq_getElem?_getD,List.getElem?_map,List.getElem?_eq_getElem hi']
  rfl
 rw [hcl]
 unfold clsM
 refine ⟨_, ?_,rfl⟩
 split <;> omega
end Rg
end
