/- Part of the proof of the laws of the package relyguardlaw12: an abstract machine for the program's functions, what they compute, and that the machine is the program's. No condition. (H20e H20f H20g H21a H21b H21c) -/
import Derived.Test.YtadooimmjnipcaaGreatDoorPartBB
set_option linter.unusedSimpArgs false
set_option linter.unusedVariables false
section
namespace Rg
open Go
theorem quiet_buf {c:Config} (hq : ∀ b∈c.buf,b=[]) (t:Nat):bufM c t=[]:=by
 unfold bufM
 rw [List.getD_eq_getElem?_getD]
 cases h:c.buf[t]? with
 | none=>rfl
 | some b=>exact hq b (List.mem_of_getElem? h)
theorem quiet_view {c:Config} (hq : ∀ b∈c.buf,b=[]) (t:Nat):viewM c t=c.mem:=by rw [viewM,quiet_buf hq]; rfl
theorem quiet_enabled {p:Prog} {c:Config} (hq : ∀ b∈c.buf,b=[]) (t:Nat) (s:Step):enabledB p c t s=enabledM p c t s:=by
 unfold enabledB enabledM
 rw [quiet_view hq,quiet_buf hq,quiet_buf hq]
 congr 1
 by_cases h3:s.kind=3
 ·rw [if_pos h3,if_neg (show ¬ s.kind=6 by omega),if_neg (show ¬ s.kind=7 by omega)]
  split <;> simp
 ·rw [if_neg h3]
  by_cases h45:s.kind=4\/s.kind=5
  ·rw [if_pos h45,if_neg (show ¬ s.kind=6 by omega),if_neg (show ¬ s.kind=7 by omega)]; simp
  ·rw [if_neg h45]
   by_cases h6:s.kind=6
   ·rw [if_pos h6,if_pos h6]; simp
   ·rw [if_neg h6,if_neg h6]
    split <;> simp
theorem quiet_choices {p:Prog} {c:Config} (hq : ∀ b∈c.buf,b=[]) (k:Int):choicesB p k c=choicesM p c:=by
 unfold choicesB choicesBN choicesM choicesN
 congr 1
 funext q
 rw [quiet_buf hq]
 have e1:entsB k q.2 [] ([]:List Entry).length=[]:=rfl
 rw [e1,List.append_nil]
 unfold stepsB choicesT
 congr 1
 funext r
 rw [quiet_enabled hq]
theorem quiet_all {p:Prog} {c:Config} (hl:c.buf.length=p.threads.length) (hq : ∀ b∈c.buf,b=[]):c.buf=p.threads.map fun _=>[]:=by
 refine List.ext_getElem (by simp [hl]) fun i h1 h2 => ?_
 rw [List.getElem_map]
 exact hq _ (List.getElem_mem h1)
theorem quiet_exec {p:Prog} {c:Config} (hl:c.buf.length=p.threads.length) (hq : ∀ b∈c.buf,b=[]) {t:Nat} {s:Step} (hk:s.kind≠3):execB p c t s=execS p c t s:=by
 unfold execB execS
 rw [quiet_view hq,if_neg hk,if_neg hk, <- quiet_all hl hq]
theorem quiet_store {p:Prog} {c:Config} (hl:c.buf.length=p.threads.length) (hq : ∀ b∈c.buf,b=[]) {t:Nat} {s:Step} (ht:t<p.threads.length) (hk:s.kind=3) (hs:SetOk p s.set) :
 (bufM (execB p c t s) t)[0]? = some (entryOf p c.mem s.set)/\commitB (execB p c t s) t 0=execS p c t s:=by
 have htl:t<c.buf.length:=by omega
 have e0:bufM (execB p c t s) t=[entryOf p c.mem s.set]:=by
  simp only [execB,hk,if_true]
  rw [buf_set_same htl,quiet_buf hq,quiet_view hq]; rfl
 have e1:(bufM (execB p c t s) t)[0]? = some (entryOf p c.mem s.set):=by rw [e0]; rfl
 refine ⟨e1, ?_⟩
 unfold commitB
 rw [e1,e0]
 have e6 : ¬ s.kind=6:=by omega
 have e2:(c.buf.set t (bufM c t++[entryOf p c.mem s.set])).set t []=c.buf:=by
  rw [List.set_set]
  refine List.ext_getElem (by simp) fun i h1 h2 => ?_
  rw [List.getElem_set]
  split
  ·exact (hq _ (List.getElem_mem h2)).symm
  ·rfl
 simp only [execB,execS,hk,if_true,if_neg e6,quiet_view hq,List.eraseIdx_cons_zero]
 rw [put_entry,write_split (dif_toNat hs),e2, <- quiet_all hl hq]
theorem open_mono {b:List Entry} {i:Nat} {e:Entry} (h:openM 1 b i e=true) (k:Int):openM k b i e=true:=by
 unfold openM at h ⊢
 simp only [Bool.or_eq_true,decide_eq_true_eq,Bool.and_eq_true] at h ⊢
 rcases h with h | ⟨h,_⟩
 ·exact .inl h
 ·omega
theorem choices_mono {p:Prog} {c:Config} {y:Choice} (h:y∈choicesB p 1 c):y∈choicesB p 2 c:=by
 rcases choicesB_mem.1 h with h | ⟨t,i,e,ht,hi,ho,rfl⟩
 ·exact choicesB_mem.2 (.inl h)
 ·exact choicesB_mem.2 (.inr ⟨t,i,e,ht,hi,open_mono ho 2,rfl⟩)
theorem next_mono {p:Prog} {c:Config} (hc:IsB p c) {y:Choice} (h:y∈choicesB p 1 c):nextB p 2 c y=nextB p 1 c y:=by
 rcases choicesB_mem.1 h with ⟨t,x,i,s,hx,hs,he,rfl⟩ | ⟨t,i,e,ht,hi,ho,rfl⟩
 ·rw [nextB_step hx hs he,nextB_step hx hs he]
 ·rw [nextB_commit hc ht hi ho,nextB_commit hc ht hi (open_mono ho 2)]
theorem filterMap_le {α β:Type} {f g:α->Option β} (h : ∀ a,(f a).isSome=true->(g a).isSome=true) : ∀ l:List α,(l.filterMap f).length<=(l.filterMap g).length
 | []=>Nat.le_refl _
 | a::l=>by
  have ih:=filterMap_le h l
  rw [List.filterMap_cons,List.filterMap_cons]
  cases hf:f a with
  | none =>
   cases hg:g a with
   | none=>exact ih
   | some _=>exact Nat.le_succ_of_le ih
  | some _ =>
   have:=h a (by rw [hf]; rfl)
   cases hg:g a with
   | none=>rw [hg] at this; simp at this
   | some _=>exact Nat.succ_le_succ ih
theorem flatMap_le {α β:Type} {f g:α->List β} (h : ∀ a,(f a).length<=(g a).length) : ∀ l:List α,(l.flatMap f).length<=(l.flatMap g).length
 | []=>Nat.le_refl _
 | a::l=>by
  have ih:=flatMap_le h l
  rw [List.flatMap_cons,List.flatMap_cons,List.length_append,List.length_append]
  have:=h a
  omega
theorem len_mono (p:Prog) (c:Config):(choicesB p 1 c).length<=(choicesB p 2 c).length:=by
 unfold choicesB choicesBN
 refine flatMap_le (fun q => ?_) _
 rw [List.length_append,List.length_append]
 refine Nat.add_le_add_left ?_ _
 unfold entsB
 refine filterMap_le (fun r hr => ?_) _
 try simp only at hr ⊢
 split at hr
 ·rename_i h1; rw [if_pos (open_mono h1 2)]; rfl
 ·simp at hr
theorem stepsB_len (p:Prog) (c:Config) (t:Nat) (x:Thread) (i:Nat):(stepsB p c t x i).length<=i:=by
 unfold stepsB
 refine Nat.le_trans (List.length_filterMap_le _ _) ?_
 simp; omega
theorem entsB_len (k:Int) (t:Nat) (b:List Entry) (i:Nat):(entsB k t b i).length<=i:=by
 unfold entsB
 refine Nat.le_trans (List.length_filterMap_le _ _) ?_
 simp; omega
theorem stepsB_succ {p:Prog} {c:Config} {t:Nat} {x:Thread} {i:Nat} {s:Step} (h:x.steps[i]? = some s) :
 stepsB p c t x (i+1)=stepsB p c t x i++(if enabledB p c t s then [⟨t,i,0⟩] else []):=by
 unfold stepsB
 rw [zipIdx_succ h,List.filterMap_append]
 congr 1
 cases hh:enabledB p c t s <;> simp [hh]
theorem entsB_succ {k:Int} {t:Nat} {b:List Entry} {i:Nat} {e:Entry} (h:b[i]? = some e) :
 entsB k t b (i+1)=entsB k t b i++(if openM k b i e then [⟨t, -1,headC e⟩] else []):=by
 unfold entsB
 rw [zipIdx_succ h,List.filterMap_append]
 congr 1
 cases hh:openM k b i e <;> simp [hh]
theorem choicesBN_succ {p:Prog} {k:Int} {c:Config} {i:Nat} {x:Thread} (h:p.threads[i]? = some x) :
 choicesBN p k c (i+1)=choicesBN p k c i++(stepsB p c i x x.steps.length++entsB k i (bufM c i) (bufM c i).length):=by
 unfold choicesBN
 rw [zipIdx_succ h,List.flatMap_append]; simp
theorem buf_le {p:Prog} {c:Config} (hc:IsB p c) (t:Nat):(bufM c t).length<=3:=by
 rcases Nat.lt_or_ge t c.buf.length with h | h
 ·exact (hc.buf t _ (bufM_at h)).1
 ·simp [bufM,List.getD,List.getElem?_eq_none h]
theorem choicesBN_len {p:Prog} (hf:formedM p=true) {k:Int} {c:Config} (hc:IsB p c) : ∀ i:Nat,(choicesBN p k c i).length<=67*i
 | 0=>by simp [choicesBN]
 | i+1=>by
  have ih:=choicesBN_len hf (k:=k) hc i
  rcases hx:p.threads[i]? with _ | x
  ·have:p.threads.length<=i:=by simpa using hx
   have e:choicesBN p k c (i+1)=choicesBN p k c i:=by
    unfold choicesBN; rw [List.take_of_length_le (by omega),List.take_of_length_le (by omega)]
   rw [e]; omega
  ·have h1:=((limits_points (formed_limits hf).1).2 x (List.mem_of_getElem? hx)).2.1
   have h2:=stepsB_len p c i x x.steps.length
   have h3:=entsB_len k i (bufM c i) (bufM c i).length
   have h4:=buf_le hc i
   rw [choicesBN_succ hx,List.length_append,List.length_append]; omega
theorem choicesB_len {p:Prog} (hf:formedM p=true) {k:Int} {c:Config} (hc:IsB p c):(choicesB p k c).length<=268:=by
 have h1:=choicesBN_len hf (k:=k) hc p.threads.length
 have h2:=(limits_points (formed_limits hf).1).1.2.2.2
 unfold choicesB; omega
theorem own_eval {p:Prog} {t:Nat} {e:Expr} (hv:e.valid p.cells false=true) (ho:overOk p e false t=true) {m m' : List Int} (h : ∀ (i:Nat) (y:Cell),p.cells[i]? = some y->y.thread=(t:Int)->m[i]? = m'[i]?) :
 e.eval m m=e.eval m' m' := by
 refine eval_agree hv fun n hn => ?_
 simp only [overOk,Bool.and_eq_true,List.all_eq_true] at ho
 have h2:=ho.2 n hn
 rw [mayP_own] at h2
 obtain ⟨_,y,hy,ht⟩:=ofThread_in h2
 exact h n y (by simpa using hy) ht
end Rg
end
section
namespace Rg
open Go
theorem local_values {p:Prog} {t:Nat} {x:Thread} {s:Step} (hok:StepOk p t x s) (hk:s.kind=1\/s.kind=3\/s.kind=5):overOk p s.guard false t=true /\ ∀ a∈s.set,overOk p a.to false t=true:=by
 have hrow:=hok.row
 rcases hk with hk | hk | hk
 ·rw [kindOk,if_pos hk] at hrow
  simp only [Bool.and_eq_true,valuesOk,List.all_eq_true] at hrow
  exact hrow.1
 ·obtain ⟨a,r,_,hv,_⟩:=store_parts hk hrow
  simp only [Bool.and_eq_true,valuesOk,List.all_eq_true] at hv
  exact hv
 ·rw [kindOk,if_neg (by omega),if_neg (by omega),if_neg (by omega),if_neg (by omega),if_pos hk] at hrow
  simp only [Bool.and_eq_true,decide_eq_true_eq] at hrow
  exact ⟨over_one hrow.1 _ _,by rw [hrow.2]; simp⟩
theorem list_set_comm {α:Type} {i j:Nat} (h:i≠j) (a b:α) (l:List α):(l.set i a).set j b=(l.set j b).set i a:=(List.set_comm a b h)
structure Loc (p:Prog) (c:Config) (t u:Nat) (x:Thread) (s:Step) (i:Nat) (e:Entry):Prop where
 hc:IsB p c
 hx:p.threads[t]? = some x
 ok:StepOk p t x s
 kd:s.kind=1\/s.kind=3\/s.kind=5
 ne:u≠t
 hu:u<p.threads.length
 he:(bufM c u)[i]? = some e
section
variable {p:Prog} {c:Config} {t u i:Nat} {x:Thread} {s:Step} {e:Entry}
theorem Loc.commit (h:Loc p c t u x s i e):commitB c u i=⟨putE c.mem e,c.at_,c.buf.set u ((bufM c u).eraseIdx i)⟩:=by simp only [commitB,h.he]
theorem Loc.prop (h:Loc p c t u x s i e):Proper p e:=(h.hc.buf u _ (bufM_at (by rw [h.hc.lb]; exact h.hu))).2.1 e (List.mem_of_getElem? h.he)
theorem Loc.bufT (h:Loc p c t u x s i e):bufM (commitB c u i) t=bufM c t:=by rw [h.commit]; exact buf_set_other h.ne.symm
theorem Loc.bufU (h:Loc p c t u x s i e):bufM (execB p c t s) u=bufM c u:=by
 unfold execB
 try simp only
 split
 ·exact buf_set_other h.ne
 ·rfl
theorem Loc.view (h:Loc p c t u x s i e) : ∀ (j:Nat) (y:Cell),p.cells[j]? = some y->y.thread=(t:Int)->(viewM c t)[j]? = (viewM (commitB c u i) t)[j]? := by
 intro j y hy ht
 unfold viewM
 rw [h.bufT,h.commit]
 refine puts_agree (by rw [putE_len]) (Eq.symm (put_other fun n hn hj => ?_))
 obtain ⟨_,_,z,hz,hzt⟩:=proper_lt h.prop hn
 rw [hj,hy] at hz; cases hz
 omega
theorem Loc.guard (h:Loc p c t u x s i e):s.guard.eval (viewM (commitB c u i) t) (viewM (commitB c u i) t)=s.guard.eval (viewM c t) (viewM c t) :=
 (own_eval h.ok.rng.1 (local_values h.ok h.kd).1 h.view).symm
theorem Loc.vals (h:Loc p c t u x s i e) : ∀ a∈s.set,a.to.eval (viewM (commitB c u i) t) (viewM (commitB c u i) t)=a.to.eval (viewM c t) (viewM c t):=fun a ha =>
 (own_eval (h.ok.rng.2 a ha).2 ((local_values h.ok h.kd).2 a ha) h.view).symm
theorem Loc.enabled (h:Loc p c t u x s i e):enabledB p (commitB c u i) t s=enabledB p c t s:=by
 have hat:(commitB c u i).at_=c.at_:=by rw [h.commit]
 unfold enabledB
 rw [h.guard,h.bufT,hat]
 congr 1
 rcases h.kd with hk | hk | hk
 ·rw [if_neg (by omega),if_neg (by omega),if_neg (by omega),if_neg (by omega),if_neg (by omega),if_neg (by omega),if_neg (by omega),if_neg (by omega)]
 ·rw [if_pos hk,if_pos hk]
 ·rw [if_neg (by omega),if_pos (.inr hk),if_neg (by omega),if_pos (.inr hk)]
theorem Loc.writes (h:Loc p c t u x s i e) : ∀ a∈(if s.kind=3 then s.set.filter (fun a => !sharedA p a) else s.set),0<=a.cell/\sharedA p a=false:=by
 intro a ha
 rcases h.kd with hk | hk | hk
 ·rw [if_neg (by omega)] at ha
  exact own_not_shared (kind12_own h.ok.row (.inl hk) a ha)
 ·rw [if_pos hk] at ha
  obtain ⟨h1,h2⟩:=List.mem_filter.1 ha
  have:=(h.ok.rng.2 a h1).1
  simp only [inR,decide_eq_true_eq] at this
  exact ⟨this.1,by simpa using h2⟩
 ·rw [if_neg (by omega)] at ha
  have hrow:=h.ok.row
  rw [kindOk,if_neg (by omega),if_neg (by omega),if_neg (by omega),if_neg (by omega),if_pos hk] at hrow
  simp only [Bool.and_eq_true,decide_eq_true_eq] at hrow
  rw [hrow.2] at ha; simp at ha
theorem Loc.exchange (h:Loc p c t u x s i e):execB p (commitB c u i) t s=commitB (execB p c t s) u i:=by
 have hE:(bufM (execB p c t s) u)[i]? = some e:=by rw [h.bufU]; exact h.he
 have hset : ∀ l:List Assign,(∀ a∈l,a∈s.set) -> ∀ a∈l,a.to.eval (viewM (commitB c u i) t) (viewM (commitB c u i) t)=a.to.eval (viewM c t) (viewM c t):=fun l hl a ha=>h.vals a (hl a ha)
 have e2:commitB (execB p c t s) u i=⟨putE (execB p c t s).mem e,(execB p c t s).at_,(execB p c t s).buf.set u ((bufM c u).eraseIdx i)⟩:=by simp only [commitB,h.bufU,h.he]
 rw [e2]
 have hent:entryOf p (viewM (commitB c u i) t) s.set=entryOf p (viewM c t) s.set:=by
  unfold entryOf
  congr 1
  exact List.map_congr_left fun a ha=>h.vals a (List.mem_filter.1 ha).1
 have hmem:(execB p (commitB c u i) t s).mem=putE (execB p c t s).mem e:=by
  have e3:(execB p (commitB c u i) t s).mem=writeM (putE c.mem e) (viewM (commitB c u i) t) (if s.kind=3 then s.set.filter (fun a => !sharedA p a) else s.set):=by
   simp only [execB,h.commit]
  rw [e3,write_congr (view' := viewM c t)]
  ·have:=puts_write (v:=viewM c t) (l:=[e]) (m:=c.mem) (set:=if s.kind=3 then s.set.filter (fun a => !sharedA p a) else s.set)
    (own_apart (t:=t) (fun f hf=>by rw [List.mem_singleton] at hf; rw [hf]; exact h.prop) h.writes)
   exact this
  ·refine hset _ fun a ha => ?_
   split at ha
   ·exact (List.mem_filter.1 ha).1
   ·exact ha
 have hat:(execB p (commitB c u i) t s).at_=(execB p c t s).at_:=by simp only [execB,h.commit]
 have hbuf:(execB p (commitB c u i) t s).buf=(execB p c t s).buf.set u ((bufM c u).eraseIdx i):=by
  have e3:(execB p (commitB c u i) t s).buf=if s.kind=3 then (c.buf.set u ((bufM c u).eraseIdx i)).set t (bufM c t++[entryOf p (viewM c t) s.set]) else c.buf.set u ((bufM c u).eraseIdx i):=by
   simp only [execB,h.bufT,hent]
   rw [h.commit]
  rw [e3]
  simp only [execB]
  split
  ·rw [list_set_comm h.ne]
  ·rfl
 cases hx:execB p (commitB c u i) t s
 rw [hx] at hmem hat hbuf
 simp only at hmem hat hbuf
 rw [hmem,hat,hbuf]
end
end Rg
end
section
namespace Rg
open Go
theorem choicesK_eq {p:Prog} {k:Int} {c:Config} (h:IsK p k c):choicesK p k c=choicesB p k c:=by
 unfold choicesK
 split
 ·rename_i hk; exact (quiet_choices (h.q hk) k).symm
 ·rfl
def execK (p:Prog) (k:Int) (c:Config) (t:Nat) (s:Step):Config:=if k=0 then execS p c t s else execB p c t s
theorem nextK_inv {p:Prog} (hf:formedM p=true) {k:Int} {c:Config} (hc:IsK p k c) {y:Choice} (hy:y∈choicesK p k c) :
 (∃ (t:Nat) (x:Thread) (i:Nat) (s:Step),p.threads[t]? = some x/\x.steps[i]? = some s/\enabledB p c t s=true/\y=⟨t,i,0⟩/\nextK p k c y=(execK p k c t s,0)/\IsK p k (execK p k c t s)) \/
 (k≠0 /\ ∃ (t i:Nat) (e:Entry),t<p.threads.length/\(bufM c t)[i]? = some e/\openM k (bufM c t) i e=true/\y=⟨t, -1,headC e⟩/\nextK p k c y=(commitB c t i,0)/\IsK p k (commitB c t i)):=by
 have hyB:=hy
 rw [choicesK_eq hc] at hyB
 rcases choicesB_mem.1 hyB with ⟨t,x,i,s,hx,hs,he,rfl⟩ | ⟨t,i,e,ht,hi,ho,rfl⟩
 ·refine .inl ⟨t,x,i,s,hx,hs,he,rfl, ?_⟩
  by_cases hk:k=0
  ·have hq:=hc.q hk
   rw [quiet_enabled hq] at he
   have hm:(⟨t,i,0⟩:Choice)∈choicesM p c:=choices_mem.2 ⟨t,x,i,s,hx,hs,he,rfl⟩
   obtain ⟨t',x',i',s',hx',hs',_,heq,hn,hd⟩:=next_ok hf (hc.c hk) hm
   simp only [Choice.mk.injEq,Int.natCast_inj,and_true] at heq
   obtain ⟨rfl,rfl⟩:=heq
   rw [hx] at hx'; cases hx'
   rw [hs] at hs'; cases hs'
   have h1:=is_iff.1 hd
   simp only [nextK,execK,if_pos hk]
   exact ⟨hn,isB_of h1,fun _=>h1.buf⟩
  ·simp only [nextK,execK,if_neg hk]
   exact ⟨nextB_step hx hs he,execB_is hf hc.b hx hs he,fun h=>absurd h hk⟩
 ·have hk:k≠0:=by
   intro hk
   rw [quiet_buf (hc.q hk)] at hi
   simp at hi
  refine .inr ⟨hk,t,i,e,ht,hi,ho,rfl, ?_⟩
  simp only [nextK,if_neg hk]
  exact ⟨nextB_commit hc.b ht hi ho,commitB_is hc.b hi,fun h=>absurd h hk⟩
theorem viewK_step {p:Prog} (hf:formedM p=true) {k:Int} {c:Config} (hc:IsK p k c) {t i:Nat} {x:Thread} {s:Step} (hx:p.threads[t]? = some x) (hs:x.steps[i]? = some s) (he:enabledB p c t s=true) :
 viewM (execK p k c t s) t=writeM (viewM c t) (viewM c t) s.set:=by
 have hok:=formed_step hf hx hs
 unfold execK
 split
 ·rename_i hk
  have hq:=hc.q hk
  rw [quiet_view hq]
  have : ∀ b∈(execS p c t s).buf,b=[]:=by
   intro b hb
   simp only [execS,List.mem_map] at hb
   obtain ⟨_,_,rfl⟩:=hb; rfl
  rw [quiet_view this]; rfl
 ·exact view_step hc.b hx hok he
def cntM (l:List Choice) (t s c:Int):Nat:=(l.filter fun y=>decide (y.thread<t\/y.thread=t/\(y.step<s\/y.step=s/\y.cell<c))).length
theorem filter_len_congr {α:Type} {f g:α->Bool} : ∀ {l:List α},(∀ a∈l,f a=g a)->(l.filter f).length=(l.filter g).length
 | [],_=>rfl
 | a::l,h=>by
  have ih:=filter_len_congr (f:=f) (g:=g) (l:=l) fun b hb=>h b (List.mem_cons_of_mem _ hb)
  rw [List.filter_cons,List.filter_cons,h a List.mem_cons_self]
  split <;> simp [ih]
theorem filter_one {α:Type} [DecidableEq α] {f g:α->Bool} {a:α} (hg : ∀ b,g b=(f b||decide (b=a))) (hfa:f a=false) : ∀ {l:List α},l.Nodup->(l.filter g).length=(l.filter f).length+(if a∈l then 1 else 0)
 | [],_=>rfl
 | b::l,h=>by
  obtain ⟨h1,h2⟩:=List.nodup_cons.1 h
  have ih:=filter_one hg hfa h2
  rw [List.filter_cons,List.filter_cons,hg b]
  by_cases hb:b=a
  ·subst hb
   rw [hfa]
   simp only [decide_true,Bool.or_true,if_true,Bool.false_eq_true,if_false,List.length_cons,List.mem_cons,true_or]
   rw [if_neg h1] at ih
   omega
  ·have hm:(a∈b::l)<->a∈l:=by simp [Ne.symm hb]
   simp only [hb,decide_false,Bool.or_false,hm]
   split
   ·simp only [List.length_cons]; omega
   ·exact ih
theorem cnt_step {l:List Choice} (h:l.Nodup) (t s c:Int):cntM l t s (c+1)=cntM l t s c+(if (⟨t,s,c⟩:Choice)∈l then 1 else 0):=by
 unfold cntM
 refine filter_one (fun b => ?_) ?_ h
 ·cases b with
  | mk bt bs bc =>
   simp only [Choice.mk.injEq]
   rw [<- Bool.decide_or]
   apply decide_eq_decide.2
   omega
 ·simp only [decide_eq_false_iff_not]; omega
theorem cnt_cell {l:List Choice} {t s c:Int} (h : ∀ y∈l,y.thread=t->y.step=s->y.cell<c) (h0 : ∀ y∈l, -1<=y.cell):cntM l t s c=cntM l t (s+1) (-1):=by
 unfold cntM
 refine filter_len_congr fun y hy=>decide_eq_decide.2 ?_
 have h1:=h y hy
 have h2:=h0 y hy
 constructor
 ·omega
 ·rintro (h3 | ⟨h3,h4⟩)
  ·exact .inl h3
  ·refine .inr ⟨h3, ?_⟩
   by_cases h5:y.step=s
   ·exact .inr ⟨h5,h1 h3 h5⟩
   ·omega
theorem cnt_row {l:List Choice} {t s:Int} (h : ∀ y∈l,y.step<s) (h0 : ∀ y∈l, -1<=y.step /\ -1<=y.cell):cntM l t s (-1)=cntM l (t+1) (-1) (-1):=by
 unfold cntM
 refine filter_len_congr fun y hy=>decide_eq_decide.2 ?_
 have h1:=h y hy
 have h2:=h0 y hy
 omega
theorem cnt_all {l:List Choice} {t:Int} (h : ∀ y∈l,y.thread<t):cntM l t (-1) (-1)=l.length:=by
 unfold cntM
 rw [List.filter_eq_self.2 fun y hy=>by simp only [decide_eq_true_eq]; exact .inl (h y hy)]
theorem cnt_zero {l:List Choice} (h : ∀ y∈l, -1<=y.thread /\ -1<=y.step /\ -1<=y.cell):cntM l (-1) (-1) (-1)=0:=by
 unfold cntM
 rw [List.filter_eq_nil_iff.2 fun y hy=>by simp only [decide_eq_true_eq]; have:=h y hy; omega]
 rfl
theorem nodup_app {α:Type} {l m:List α} (h1:l.Nodup) (h2:m.Nodup) (h3 : ∀ a∈l,a ∉ m):(l++m).Nodup :=
 List.nodup_append.2 ⟨h1,h2,fun a ha b hb hab=>h3 a ha (hab ▸ hb)⟩
theorem stepsB_nodup (p:Prog) (c:Config) (t:Nat) (x:Thread) : ∀ i:Nat,(stepsB p c t x i).Nodup
 | 0=>by simp [stepsB]
 | i+1=>by
  have ih:=stepsB_nodup p c t x i
  rcases hx:x.steps[i]? with _ | s
  ·have:x.steps.length<=i:=by simpa using hx
   have e:stepsB p c t x (i+1)=stepsB p c t x i:=by unfold stepsB; rw [List.take_of_length_le (by omega),List.take_of_length_le (by omega)]
   rw [e]; exact ih
  ·rw [stepsB_succ hx]
   refine nodup_app ih (by split <;> simp) fun a ha hb => ?_
   obtain ⟨j,s',hj,_,_,rfl⟩:=stepsB_mem.1 ha
   split at hb
   ·simp only [List.mem_singleton,Choice.mk.injEq,Int.natCast_inj,true_and,and_true] at hb; omega
   ·simp at hb
theorem entsB_nodup {p:Prog} (k:Int) (t:Nat) {b:List Entry} (hb : ∀ e∈b,Proper p e) : ∀ i:Nat,(entsB k t b i).Nodup
 | 0=>by simp [entsB]
 | i+1=>by
  have ih:=entsB_nodup k t hb i
  rcases hx:b[i]? with _ | e
  ·have:b.length<=i:=by simpa using hx
   have e:entsB k t b (i+1)=entsB k t b i:=by unfold entsB; rw [List.take_of_length_le (by omega),List.take_of_length_le (by omega)]
   rw [e]; exact ih
  ·rw [entsB_succ hx]
   refine nodup_app ih (by split <;> simp) fun a ha hm => ?_
   obtain ⟨j,f,hj,hf,_,rfl⟩:=entsB_mem.1 ha
   split at hm
   ·rename_i ho
    simp only [List.mem_singleton,Choice.mk.injEq,true_and] at hm
    exact open_one hb hf hx ho hj hm
   ·simp at hm
theorem choicesBN_nodup {p:Prog} (k:Int) {c:Config} (hc:IsB p c) : ∀ i:Nat,(choicesBN p k c i).Nodup /\ ∀ y∈choicesBN p k c i,0<=y.thread/\y.thread<i
 | 0=>by simp [choicesBN]
 | i+1=>by
  obtain ⟨ih1,ih2⟩:=choicesBN_nodup k hc i
  rcases hx:p.threads[i]? with _ | x
  ·have:p.threads.length<=i:=by simpa using hx
   have e:choicesBN p k c (i+1)=choicesBN p k c i:=by
    unfold choicesBN; rw [List.take_of_length_le (by omega),List.take_of_length_le (by omega)]
   rw [e]; exact ⟨ih1,fun y hy=>by have:=ih2 y hy; omega⟩
  ·have hil:=(List.getElem?_eq_some_iff.1 hx).1
   have hb:=(hc.buf i _ (bufM_at (by rw [hc.lb]; exact hil))).2.1
   have hT : ∀ y∈stepsB p c i x x.steps.length++entsB k i (bufM c i) (bufM c i).length,y.thread=(i:Int):=by
    intro y hy
    rcases List.mem_append.1 hy with hy | hy
    ·obtain ⟨j,s,_,_,_,rfl⟩:=stepsB_mem.1 hy; rfl
    ·obtain ⟨j,e,_,_,_,rfl⟩:=entsB_mem.1 hy; rfl
   rw [choicesBN_succ hx]
   refine ⟨nodup_app ih1 (nodup_app (stepsB_nodup _ _ _ _ _) (entsB_nodup k i hb _) fun a ha hm => ?_) fun a ha hm => ?_,fun y hy => ?_⟩
   ·obtain ⟨j,s,_,_,_,rfl⟩:=stepsB_mem.1 ha
    obtain ⟨j',e,_,_,_,he⟩:=entsB_mem.1 hm
    simp only [Choice.mk.injEq] at he
    omega
   ·have:=ih2 a ha
    have:=hT a hm
    omega
   ·rcases List.mem_append.1 hy with hy | hy
    ·have:=ih2 y hy; omega
    ·have:=hT y hy; omega
theorem choicesB_nodup {p:Prog} (k:Int) {c:Config} (hc:IsB p c):(choicesB p k c).Nodup:=(choicesBN_nodup k hc _).1
theorem choicesB_range {p:Prog} {k:Int} {c:Config} (hc:IsB p c) {m:Nat} (hm : ∀ x∈p.threads,x.steps.length<=m) {y:Choice} (hy:y∈choicesB p k c) :
 0<=y.thread/\y.thread<p.threads.length /\ -1<=y.step/\y.step<m/\0<=y.cell/\(0<=y.step->y.cell=0)/\(y.step = -1->y.cell<p.cells.length):=by
 rcases choicesB_mem.1 hy with ⟨t,x,i,s,hx,hs,he,rfl⟩ | ⟨t,i,e,ht,hi,ho,rfl⟩
 ·have h1:=(List.getElem?_eq_some_iff.1 hx).1
  have h2:=(List.getElem?_eq_some_iff.1 hs).1
  have h3:=hm x (List.mem_of_getElem? hx)
  exact ⟨by simp only; omega,by simp only; omega,by simp only; omega,by simp only; omega,by simp only; omega,fun _=>rfl,fun h=>by simp only at h; omega⟩
 ·have hb:=(hc.buf t _ (bufM_at (by rw [hc.lb]; exact ht))).2.1
  have hp:=hb e (List.mem_of_getElem? hi)
  have:=proper_lt hp (head_mem hp)
  simp only
  omega
def drainL (p:Prog) (k:Int) (c:Config) (t:Nat):List Choice:=(choicesK p k c).filter fun y=>decide (y.thread=t)&&decide (y.step = -1)
theorem drain_none {p:Prog} {k:Int} {c:Config} (hc:IsK p k c) {t:Nat} (ht:t<p.threads.length) (h:drainL p k c t=[]):bufM c t=[]:=by
 cases hb:bufM c t with
 | nil=>rfl
 | cons e r =>
  exfalso
  have hm:(⟨t, -1,headC e⟩:Choice)∈drainL p k c t:=by
   unfold drainL
   rw [List.mem_filter,choicesK_eq hc]
   exact ⟨choicesB_mem.2 (.inr ⟨t,0,e,ht,by rw [hb]; rfl,by simp [openM],rfl⟩),by simp⟩
  rw [h] at hm; simp at hm
theorem drain_some {p:Prog} (hf:formedM p=true) {k:Int} {c:Config} (hc:IsK p k c) {t:Nat} (ht:t<p.threads.length) {y:Choice} (hy:y∈drainL p k c t) :
 ∃ d,nextK p k c y=(d,0)/\IsK p k d/\viewM d t=viewM c t/\(bufM d t).length+1=(bufM c t).length:=by
 unfold drainL at hy
 obtain ⟨h1,h2⟩:=List.mem_filter.1 hy
 simp only [Bool.and_eq_true,decide_eq_true_eq] at h2
 rcases nextK_inv hf hc h1 with ⟨t',x,i,s,_,_,_,rfl,_⟩ | ⟨hk,t',i,e,ht',hi,ho,rfl,hn,hd⟩
 ·exfalso; simp only at h2; omega
 ·have:t' = t:=by have:=h2.1; simp only at this; omega
  subst this
  refine ⟨_,hn,hd,view_commit hc.b hi ho, ?_⟩
  have htl:t' < c.buf.length:=by rw [hc.b.lb]; exact ht
  have e1:bufM (commitB c t' i) t' = (bufM c t').eraseIdx i:=by
   simp only [commitB,hi]
   exact buf_set_same htl
  have hl:=(List.getElem?_eq_some_iff.1 hi).1
  rw [e1,List.length_eraseIdx_of_lt hl]; omega
def idxM (l:List Int) (v:Int):Int:=match l.findIdx? (fun x=>decide (x=v)) with
 | some i=>i
 | none => -1
theorem idx_hit {l:List Int} {v:Int} {i:Nat} (h:l[i]? = some v) (hn : ∀ j,j<i->l[j]? ≠ some v):idxM l v=i:=by
 have hi:=(List.getElem?_eq_some_iff.1 h).1
 have:l.findIdx? (fun x=>decide (x=v))=some i:=by
  rw [List.findIdx?_eq_some_iff_getElem]
  refine ⟨hi,by simpa using (List.getElem?_eq_some_iff.1 h).2,fun j hj => ?_⟩
  have:=hn j hj
  rw [List.getElem?_eq_getElem (by omega)] at this
  simpa using this
 rw [idxM,this]
theorem idx_miss {l:List Int} {v:Int} (hn : ∀ j,j<l.length->l[j]? ≠ some v):idxM l v = -1:=by
 have:l.findIdx? (fun x=>decide (x=v))=none:=by
  rw [List.findIdx?_eq_none_iff]
  intro x hx
  obtain ⟨j,hj⟩:=List.getElem?_of_mem hx
  have:=hn j (List.getElem?_eq_some_iff.1 hj).1
  rw [hj] at this
  simpa using this
 rw [idxM,this]
theorem idx_has (l:List Int) (v:Int):decide (idxM l v>=0)=l.contains v:=by
 unfold idxM
 cases h:l.findIdx? (fun x=>decide (x=v)) with
 | some i =>
  have hm:v∈l:=by
   rw [List.findIdx?_eq_some_iff_getElem] at h
   obtain ⟨h1,h2,_⟩:=h
   exact (by simpa using h2:l[i]=v) ▸ List.getElem_mem h1
  simp [hm]
 | none =>
  have hm:v ∉ l:=by
   intro hm
   rw [List.findIdx?_eq_none_iff] at h
   have:=h v hm
   simp at this
  simp [hm]
theorem bIndex_den (l:List Int) (v:Int) (hl:l.length<2^40):Den Γ G 207 [.t (ints l),vi v]=some (vi (idxM l v)):=by
 (refine den_ofY Γ207 rfl ?_; dsimp only [f207])
 simp -dsimp -implicitDefEqProofs only [go_sem,seval]
 refine loopY 524080 l.length (fun i f=>(f 8).v=vi i /\ ∀ j,j<i->l[j]? ≠ some v) rfl rfl ⟨by simp -dsimp -implicitDefEqProofs only [go_sem,seval],fun j hj=>by omega⟩ ?_
 rintro i f u kk bb hi ⟨h8,hn⟩
 have hw:=wrapS i (by omega)
 simp -dsimp -implicitDefEqProofs only [go_sem,seval,h8]
 refine csplit (fun h => ?_) (fun h => ?_) <;> (try rw [h]) <;> (try simp only [bools] at h) <;> (try simp -dsimp -implicitDefEqProofs only [go_sem,seval,h8])
 ·obtain ⟨y,hy,_⟩:=get_of ‹i<l.length›
  simp -dsimp -implicitDefEqProofs only [go_sem,seval,h8,hy]
  refine csplit (fun h => ?_) (fun h => ?_) <;> (try rw [h]) <;> (try simp only [bools] at h) <;> (try simp -dsimp -implicitDefEqProofs only [go_sem,seval,h8])
  ·rw [idx_hit (by rw [hy,h]) hn]
  ·refine ⟨by omega,by simp -dsimp -implicitDefEqProofs only [go_sem,seval,hw],fun j hj => ?_⟩
   rcases Nat.lt_or_ge j i with h1 | h1
   ·exact hn j h1
   ·have:j=i:=by omega
    subst this
    rw [hy]
    intro he
    cases he
    exact absurd rfl h
 ·have:i=l.length:=by omega
  subst this
  rw [idx_miss hn]
theorem bContains_den (l:List Int) (v:Int) (hl:l.length<2^40):Den Γ G 206 [.t (ints l),vi v]=some (vb (l.contains v)):=by
 (refine den_ofY Γ206 rfl ?_; dsimp only [f206])
 have h1:=bIndex_den l v hl
 have h2:=idx_has l v
 simp -dsimp -implicitDefEqProofs only [go_sem,seval,h1,h2]
theorem blocked_den (l:List Entry) (e:Entry) (hl:l.length<2^40) (he:e.cells.length<2^40) (hc : ∀ o∈l,o.cells.length<2^40) :
 Den Γ G 201 [.t (.sl (l.map Entry.enc)), .agg [.t (ints e.cells), .t (ints e.values)]]=some (vb (blockedM l e)):=by
 (refine den_ofY Γ201 rfl ?_; dsimp only [f201])
 simp -dsimp -implicitDefEqProofs only [go_sem,seval]
 refine loopY 268433744 l.length (fun i f=>(f 11).v=vi i/\blockedM l e=(l.drop i).any fun o=>meetM o e) rfl rfl ⟨by simp -dsimp -implicitDefEqProofs only [go_sem,seval],rfl⟩ ?_
 rintro i f u kk bb hi ⟨h11,hany⟩
 have hw:=wrapS i (by omega)
 simp -dsimp -implicitDefEqProofs only [go_sem,seval,h11]
 refine csplit (fun h => ?_) (fun h => ?_) <;> (try rw [h]) <;> (try simp only [bools] at h) <;> (try simp -dsimp -implicitDefEqProofs only [go_sem,seval,h11])
 ·obtain ⟨y,hy,hym⟩:=get_of ‹i<l.length›
  have hyc:=hc y hym
  simp -dsimp -implicitDefEqProofs only [go_sem,seval,h11,hy,Entry.enc]
  refine loopY 133955856 e.cells.length (fun j f' => (f' 18).v=vi j/\(e.cells.take j).any (fun n=>y.cells.contains n)=false) rfl rfl ⟨by simp -dsimp -implicitDefEqProofs only [go_sem,seval],by simp⟩ ?_
  rintro j f' u' kk' bb' hj ⟨h18,hno⟩
  have hw' := wrapS j (by omega)
  simp -dsimp -implicitDefEqProofs only [go_sem,seval,h18]
  refine csplit (fun h => ?_) (fun h => ?_) <;> (try rw [h]) <;> (try simp only [bools] at h) <;> (try simp -dsimp -implicitDefEqProofs only [go_sem,seval,h18,h11])
  ·obtain ⟨n,hn,hnm⟩:=get_of ‹j<e.cells.length›
   have hcn:=bContains_den y.cells n hyc
   simp -dsimp -implicitDefEqProofs only [go_sem,seval,h18,h11,hn,hcn]
   refine csplit (fun h => ?_) (fun h => ?_) <;> (try rw [h]) <;> (try simp only [bools] at h) <;> (try simp -dsimp -implicitDefEqProofs only [go_sem,seval,h18,h11])
   ·rw [hany,any_stop hy (by rw [meetM,List.any_eq_true]; exact ⟨n,hnm,by simpa using h⟩)]
   ·refine ⟨by omega,by simp -dsimp -implicitDefEqProofs only [go_sem,seval,hw'], ?_⟩
    rw [take_succ_of hn,List.any_append,hno]
    simpa using h
  ·have:j=e.cells.length:=by omega
   subst this
   refine ⟨by omega,by simp -dsimp -implicitDefEqProofs only [go_sem,seval,hw], ?_⟩
   rw [hany,any_step hy (by rw [List.take_length] at hno; exact hno)]
 ·have:i=l.length:=by omega
  subst this
  rw [hany,any_end]
def OwnE (h:Nat->Option O) (x:Nat) (v:V) (rows:List (List V)):Prop :=
 (v = .t (.sl [])/\rows=[]) \/ ∃ k,v = .ms k 0 rows.length/\k<x/\h k=some (.rows 1 rows false)
theorem intsOf_rows (l:List Int):intsOf (rowsI l)=some l:=by
 induction l with
 | nil=>rfl
 | cons n l ih =>
  show (intsOf (rowsI l)).map (n :: ·)=_
  rw [ih]; rfl
theorem ofInts_rows (l:List Int):ofInts l=rowsI l:=by simp [ofInts,rowsI]
theorem cloneK {h:Nat->Option O} {key:Nat} {l:List Int} {K:V->List (Nat×O)->Prop} {w:WK K} (hl:l.length<2^40)
 (hK : ∀ v hp,OwnE (hpC h hp) (key+1) v (rowsI l)->(∀ j,j≠key->hpC h hp j=h j)->(∀ j,j≠key->offK v j)->(Rg.valOf v=some v/\V.cells v=some [v])->K v hp):freK (Γ:=Γ) (G:=G) false h key 198 [.t (ints l)] K w:=by
 refine ⟨rfl,rfl,[.t (ints l)],rfl, ?_⟩
 cases l with
 | nil =>
  refine ⟨.t (.sl []),fun _=>none,0,denR_ext Γ198 rfl rfl rfl,{ val:=.t (.sl []) },rfl,hK _ _ (.inl ⟨rfl,rfl⟩) (fun j _=>by rw [hpC_nil]) (fun j _ i n h=>by cases h) ⟨rfl,rfl⟩⟩
 | cons a l =>
  have hd:extSem .cloneI [.t (ints (a::l))] (fun _=>none) 0=some (.ms 0 0 (a::l).length,upd (fun _=>none) 0 (some (.rows 1 (ofInts (a::l)) false)),1):=by
   show ((intsOf (rowsI (a::l))).bind fun zs=>if zs.length<1099511627776 then some (V.ms 0 0 zs.length,upd (fun _=>none) 0 (some (O.rows 1 (ofInts zs) false)),0+1) else none)=_
   rw [intsOf_rows,Option.bind_some,if_pos hl]
  rw [ofInts_rows] at hd
  have hall:(rowsI (a::l)).all (fun row=>row.all V.isTr)=true:=by simp [rowsI,V.isTr]
  refine ⟨_,_,_,denR_ext Γ198 rfl rfl hd,{ val:=.ms key 0 (rowsI (a::l)).length,hp:=[(key, .rows 1 (rowsI (a::l)) false)] }, ?_,hK _ _ (.inr ⟨key,rfl,by omega,by simp [hpC_cons,hpC_nil,updC_at]⟩) (fun j hj=>by simp [hpC_cons,hpC_nil,updC_at,hj]) (fun j hj=>offK_ms (by omega) _ _) ⟨rfl,rfl⟩⟩
  simp only [ownR,upd_same]
  rw [if_pos ⟨trivial,by rw [rowsI_len],hall⟩,rowsI_len]
theorem OwnE.reify {h:Nat->Option O} {x:Nat} {v:V} {l:List Int} (o:OwnE h x v (rowsI l)):Rg.reify h v=some (.t (ints l)):=by
 rcases o with ⟨rfl,he⟩ | ⟨k,rfl,_,hh⟩
 ·have:l=[]:=by
   have:=congrArg List.length he
   rw [rowsI_len] at this
   exact List.eq_nil_of_length_eq_zero this
  subst this; rfl
 ·have:toT h 1000 (.ms k 0 (rowsI l).length)=some (.sl (l.map fun n=>[ti n])):=own_reify (h:=h) (x:=k+1) (es:=l.map fun n=>[ti n]) (.inr ⟨k,rfl,by omega,hh⟩) (ints_norm _)
  simp only [Rg.reify,toT1,this,Option.map_some]
def putN (m:List Int) (e:Entry) (i:Nat):List Int:=((e.cells.zip e.values).take i).foldl (fun m q=>m.set q.1.toNat q.2) m
theorem putN_len (m:List Int) (e:Entry) (i:Nat):(putN m e i).length=m.length:=foldl_set_len _ m
theorem putN_succ {m:List Int} {e:Entry} {i:Nat} {c v:Int} (hc:e.cells[i]? = some c) (hv:e.values[i]? = some v):putN m e (i+1)=(putN m e i).set c.toNat v:=by
 have hz:(e.cells.zip e.values)[i]? = some (c,v):=by rw [List.getElem?_zip_eq_some]; exact ⟨hc,hv⟩
 unfold putN
 rw [take_succ_of hz,List.foldl_append]; rfl
theorem putN_all {m:List Int} {e:Entry} (hl:e.values.length=e.cells.length):putN m e e.cells.length=putE m e:=by
 unfold putN putE
 rw [List.take_of_length_le (by rw [List.length_zip]; omega)]
theorem write_den (m:List Int) (e:Entry) (hl:e.values.length=e.cells.length) (hs:e.cells.length<2^40) (hc : ∀ n∈e.cells,0<=n/\n.toNat<m.length) (H:Nat->Option O) (nx k:Nat) (hk:H k=some (.rows 1 (rowsI m) false)) :
 ∃ r h' n',DenR Γ G 199 [.ms k 0 m.length, .agg [.t (ints e.cells), .t (ints e.values)]] H nx=some (r,h',n')/\(r = .tup []/\h' k=some (.rows 1 (rowsI (putE m e)) false)/\(∀ j,j≠k->h' j=H j)/\nx<=n'):=by
 (refine denR_ofY Γ199 rfl ?_; dsimp only [f199])
 simp -dsimp -implicitDefEqProofs only [go_sem,seval]
 refine loopYH 8388144 e.cells.length (fun i f h x=>(f 9).v=vi i/\h k=some (.rows 1 (rowsI (putN m e i)) false)/\(∀ j,j≠k->h j=H j)/\nx<=x) rfl ⟨by simp -dsimp -implicitDefEqProofs only [go_sem,seval],by simp -dsimp -implicitDefEqProofs only [go_sem,seval,hk,putN,List.take_zero,List.foldl_nil],fun j _=>rfl,by simp -dsimp -implicitDefEqProofs only [go_sem,seval]; omega⟩ ?_
 rintro i f u h x bs hi ⟨h9,hh,hj,hx⟩
 have hw:=wrapS i (by omega)
 simp -dsimp -implicitDefEqProofs only [go_sem,seval,h9]
 refine csplit (fun h => ?_) (fun h => ?_) <;> (try rw [h]) <;> (try simp only [bools] at h) <;> (try simp -dsimp -implicitDefEqProofs only [go_sem,seval,h9])
 ·obtain ⟨c,hcc,hcm⟩:=get_of ‹i<e.cells.length›
  obtain ⟨v,hv,_⟩:=get_of (show i<e.values.length by omega)
  obtain ⟨c0,c1⟩:=hc c hcm
  have hsucc:=putN_succ (m:=m) hcc hv
  have hlen:=putN_len m e i
  have hgt:=rowsI_get (l:=putN m e i) (i:=c.toNat) (by omega)
  have hst:=rowsI_set (putN m e i) c.toNat v
  have c2:c<(m.length:Int):=by omega
  simp -dsimp -implicitDefEqProofs only [go_sem,seval,h9,hcc,hv,hh,c0,c2,hgt]
  refine ⟨by omega,by simp -dsimp -implicitDefEqProofs only [go_sem,seval,hw], ?_, ?_,by simp -dsimp -implicitDefEqProofs only [go_sem,seval]; omega⟩
  ·rw [hsucc]; simp -dsimp -implicitDefEqProofs only [go_sem,seval,hst]
  ·intro j hjk; simp -dsimp -implicitDefEqProofs only [go_sem,seval,hjk,hj]
 ·have:i=e.cells.length:=by omega
  subst this
  rw [putN_all hl] at hh
  refine ⟨rfl,hh,hj,by simp -dsimp -implicitDefEqProofs only [go_sem,seval]; omega⟩
theorem view_den (p:Prog) (hf:formedM p=true) (c:Config) (hc:IsB p c) (t:Nat) (ht:t<p.threads.length):Den Γ G 188 [(.agg [.t (ints (c).mem), .t (ints (c).at_), .t (.sl ((c).buf.map (fun b=>[.sl (b.map Entry.enc)])))]),vi t]=some (.t (ints (viewM c t))):=by
 obtain ⟨⟨m1,m2,m3,m4⟩,_⟩:=limits_points (formed_limits hf).1
 have l1:=hc.lm
 have l3:=hc.lb
 have hget:=bufM_at (c:=c) (t:=t) (by omega)
 obtain ⟨b1,b2,_⟩:=hc.buf t _ hget
 (refine den_ofY Γ188 rfl ?_; dsimp only [f188])
 simp -dsimp -implicitDefEqProofs only [go_sem,seval]
 refine cloneK (by omega) ?_
 rintro v hp ho hhp hoff ⟨hv1,_⟩
 simp -dsimp -implicitDefEqProofs only [go_sem,seval,hget,hv1]
 rcases ho with ⟨rfl,he⟩ | ⟨k,rfl,hk,hh⟩
 ·have hm:c.mem=[]:=by
   have:=congrArg List.length he
   rw [rowsI_len] at this
   exact List.eq_nil_of_length_eq_zero this
  have hb:bufM c t=[]:=by
   cases hbb:bufM c t with
   | nil=>rfl
   | cons e r =>
    have hp:=b2 e (by rw [hbb]; exact List.mem_cons_self)
    have:=proper_lt hp (head_mem hp)
    have hl:p.cells.length=0:=by rw [<- l1,hm]; rfl
    omega
  have hview:viewM c t=[]:=by rw [viewM,hb,hm]; rfl
  refine loopYH 33423488 (bufM c t).length (fun i f h x=>(f 17).v=vi i) rfl (by simp -dsimp -implicitDefEqProofs only [go_sem,seval]) ?_
  rintro i f u h x bs hi h17
  simp -dsimp -implicitDefEqProofs only [go_sem,seval,h17]
  refine csplit (fun h => ?_) (fun h => ?_) <;> (try rw [h]) <;> (try simp only [bools] at h) <;> (try simp -dsimp -implicitDefEqProofs only [go_sem,seval,h17])
  ·have:(bufM c t).length=0:=by rw [hb]; rfl
   omega
  ·rw [hview]; rfl
 ·rw [rowsI_len] at *
  refine loopYH 33423488 (bufM c t).length (fun i f h x=>(f 17).v=vi i/\h k=some (.rows 1 (rowsI (((bufM c t).take i).foldl putE c.mem)) false)) rfl ⟨by simp -dsimp -implicitDefEqProofs only [go_sem,seval],by simp -dsimp -implicitDefEqProofs only [go_sem,seval,hh,List.take_zero,List.foldl_nil]⟩ ?_
  rintro i f u H2 x bs hi ⟨h17,hhk⟩
  have hw:=wrapS i (by omega)
  simp -dsimp -implicitDefEqProofs only [go_sem,seval,h17]
  refine csplit (fun h => ?_) (fun h => ?_) <;> (try rw [h]) <;> (try simp only [bools] at h) <;> (try simp -dsimp -implicitDefEqProofs only [go_sem,seval,h17])
  ·obtain ⟨e,he,hem⟩:=get_of ‹i<(bufM c t).length›
   have hpr:=b2 e hem
   have hlen:(((bufM c t).take i).foldl putE c.mem).length=c.mem.length:=foldPut_len _ _
   simp -dsimp -implicitDefEqProofs only [go_sem,seval,h17,he,Entry.enc]
   refine rawK_of (by rw [<- hlen]; exact write_den _ e hpr.len (by have:=proper_len hpr; omega) (fun n hn=>by have:=proper_lt hpr hn; omega) _ _ k (by simp -dsimp -implicitDefEqProofs only [go_sem,seval,hhk])) ?_
   rintro r h' n' ⟨rfl,g1,g2,g3⟩
   simp -dsimp -implicitDefEqProofs only [go_sem,seval,h17]
   refine ⟨by omega,by simp -dsimp -implicitDefEqProofs only [go_sem,seval,hw], ?_⟩
   rw [take_succ_of he,List.foldl_append]; simp -dsimp -implicitDefEqProofs only [go_sem,seval,g1,List.foldl_cons,List.foldl_nil]
  ·have:i=(bufM c t).length:=by omega
   subst this
   rw [List.take_length] at hhk
   have hh2:H2 k=some (.rows 1 (rowsI (viewM c t)) false):=hhk
   have hlen2:(rowsI (viewM c t)).length=c.mem.length:=by rw [rowsI_len,view_len]
   have htk:List.take c.mem.length (rowsI (viewM c t))=rowsI (viewM c t):=take_all hlen2.symm
   simp -dsimp -implicitDefEqProofs only [go_sem,seval,hh2,hlen2,htk,Nat.le_refl,rowsI_toT]
end Rg
end
section
-- FULL
namespace Rg
open Go
def stV (p:Prog) (k:Int) (c:Config):V:=.agg [.t (ints c.mem), .t (ints c.at_), .t (.sl (c.buf.map fun b=>[.sl (b.map Entry.enc)])), .t (.sl (p.cells.map Cell.enc)), .t (.sl (p.modules.map Contract.enc)), .t (.sl (p.locks.map Lock.enc)), .t (.sl (p.threads.map Thread.enc)),vi k]
theorem enabledB_den (p:Prog) (hf:formedM p=true) (k:Int) (c:Config) (hc:IsB p c) (t:Nat) (x:Thread) (hx:p.threads[t]? = some x) (i:Nat) (s:Step) (hs:x.steps[i]? = some s) :
 Den Γ G 189 [stV p k c,vi t,vi i, .t (ints (viewM c t))]=some (vb (enabledB p c t s)):=by
 have l1:=hc.lm
 have l2:=hc.la
 have l3:=hc.lb
 have hok:=formed_step hf hx hs
 have htl:t<p.threads.length:=(List.getElem?_eq_some_iff.1 hx).1
 obtain ⟨a,ha,_⟩:=get_of (show t<c.at_.length by omega)
 have ha' : atI c.at_ t=a:=atI_get (by simpa using ha)
 have hev:=evalP_den s.guard (viewM c t) (viewM c t)
 have hget:=bufM_at (c:=c) (t:=t) (by omega)
 unfold stV
 (refine den_ofY Γ189 rfl ?_; dsimp only [f189])
 by_cases h1:a=s.fr
 ·by_cases h2:s.guard.eval (viewM c t) (viewM c t)=1
  ·have hE:enabledB p c t s=(if s.kind=3 then (if s.release then decide ((bufM c t).length=0) else decide ((bufM c t).length<3))
    else if s.kind=4\/s.kind=5 then decide ((bufM c t).length=0)
    else if s.kind=6 then decide ((bufM c t).length=0)&&decide (atI c.at_ s.target = -1)
    else if s.kind=7 then decide ((bufM c t).length=0)&&(decide (atI c.at_ s.target=pointsAt p s.target-1)&&decide ((bufM c s.target.toNat).length=0))
    else true):=by
    simp [enabledB,ha',h1,h2]
   rw [h2] at hev
   rw [hE]
   have e0:((bufM c t).length:Int)=0<->(bufM c t).length=0:=by omega
   have e3:((bufM c t).length:Int)<3<->(bufM c t).length<3:=by omega
   by_cases hk:s.kind=6\/s.kind=7
   ·obtain ⟨hr,_⟩:=hok.tgt hk
    simp only [inR,decide_eq_true_eq] at hr
    obtain ⟨b,hb,_⟩:=get_of (show s.target.toNat<c.at_.length by omega)
    obtain ⟨y,hy,_⟩:=get_of (show s.target.toNat<p.threads.length by omega)
    have hyb:=points_bound hf hy
    have hw:IntKind.i64.wrap (y.points-1)=y.points-1:=wrap64 (by omega)
    have hb' := atI_get hb
    have hp' : pointsAt p s.target=y.points:=by simp [pointsAt,hy]
    have hget2:=bufM_at (c:=c) (t:=s.target.toNat) (by omega)
    have e4:((bufM c s.target.toNat).length:Int)=0<->(bufM c s.target.toNat).length=0:=by omega
    by_cases hn:(bufM c t).length=0
    ·rcases hk with hk | hk
     ·simp -dsimp -implicitDefEqProofs [go_sem,hx,hs,ha,h1,hev,hget,hn,hk,hr.1,hb,hb']
     ·by_cases hbp:b=y.points-1
      ·simp -dsimp -implicitDefEqProofs [go_sem,hx,hs,ha,h1,hev,hget,hn,hk,hr.1,hb,hy,hw,hb',hp',hget2,hbp,e4]
      ·simp -dsimp -implicitDefEqProofs [go_sem,hx,hs,ha,h1,hev,hget,hn,hk,hr.1,hb,hy,hw,hb',hp',hget2,hbp,e4]
    ·rcases hk with hk | hk
     ·simp -dsimp -implicitDefEqProofs [go_sem,hx,hs,ha,h1,hev,hget,hn,hk,hr.1,hb,hb',e0]
     ·simp -dsimp -implicitDefEqProofs [go_sem,hx,hs,ha,h1,hev,hget,hn,hk,hr.1,hb,hy,hw,hb',hp',hget2,e0]
   ·have k6 : ¬ s.kind=6:=by omega
    have k7 : ¬ s.kind=7:=by omega
    by_cases hk3:s.kind=3
    ·cases hrl:s.release
     ·simp -dsimp -implicitDefEqProofs [go_sem,hx,hs,ha,h1,hev,hget,hk3,hrl,e3]
     ·simp -dsimp -implicitDefEqProofs [go_sem,hx,hs,ha,h1,hev,hget,hk3,hrl,e0]
    ·by_cases hk4:s.kind=4
     ·simp -dsimp -implicitDefEqProofs [go_sem,hx,hs,ha,h1,hev,hget,hk4,e0]
     ·by_cases hk5:s.kind=5
      ·simp -dsimp -implicitDefEqProofs [go_sem,hx,hs,ha,h1,hev,hget,hk5,e0]
      ·simp -dsimp -implicitDefEqProofs [go_sem,hx,hs,ha,h1,hev,hget,k6,k7,hk3,hk4,hk5]
  ·have hE:enabledB p c t s=false:=by simp [enabledB,h2]
   rw [hE]
   simp -dsimp -implicitDefEqProofs [go_sem,hx,hs,ha,h1,hev,h2]
 ·have hE:enabledB p c t s=false:=by simp [enabledB,ha',h1]
  rw [hE]
  simp -dsimp -implicitDefEqProofs [go_sem,hx,hs,ha,h1]
end Rg
end
