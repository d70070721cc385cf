/- Part of the proof of the laws of the package relyguardlaw12: an abstract machine for the program's functions, what they compute, and that the machine is the program's. No condition. (H11j H11k H11l H11m H11n H11o H11p H11q H11r H11s H11t H12a H12b H12c H12d H13a H13b) -/
import Derived.Test.YtadooimmjnipcaaGreatDoorPartAZ
set_option linter.unusedSimpArgs false
set_option linter.unusedVariables false
section
namespace Rg
open Go
theorem choicesT_mem {p:Prog} {c:Config} {t:Nat} {x:Thread} {n:Nat} {y:Choice}:y∈choicesT p c t x n <-> ∃ i s,i<n/\x.steps[i]? = some s/\enabledM p c t s=true/\y=⟨t,i,0⟩:=by
 unfold choicesT
 rw [List.mem_filterMap]
 constructor
 ·rintro ⟨⟨s,i⟩,hm,h⟩
  rw [List.mem_zipIdx_iff_getElem?] at hm
  simp only at hm
  rw [List.getElem?_take] at hm
  split at hm
  ·rename_i hi
   split at h
   ·rename_i he
    simp only [Option.some.injEq] at h
    exact ⟨i,s,hi,hm,he,h.symm⟩
   ·simp at h
  ·simp at hm
 ·rintro ⟨i,s,hi,hs,he,rfl⟩
  refine ⟨(s,i), ?_,by simp [he]⟩
  rw [List.mem_zipIdx_iff_getElem?]
  simp only
  rw [List.getElem?_take,if_pos hi]; exact hs
theorem choices_mem {p:Prog} {c:Config} {y:Choice}:y∈choicesM p c <-> ∃ (t:Nat) (x:Thread) (i:Nat) (s:Step),p.threads[t]? = some x/\x.steps[i]? = some s/\enabledM p c t s=true/\y=⟨t,i,0⟩:=by
 unfold choicesM choicesN
 rw [List.mem_flatMap]
 constructor
 ·rintro ⟨⟨x,t⟩,hm,h⟩
  rw [List.mem_zipIdx_iff_getElem?,List.take_length] at hm
  obtain ⟨i,s,_,hs,he,rfl⟩:=choicesT_mem.1 h
  exact ⟨t,x,i,s,hm,hs,he,rfl⟩
 ·rintro ⟨t,x,i,s,hx,hs,he,rfl⟩
  refine ⟨(x,t), ?_,choicesT_mem.2 ⟨i,s,(List.getElem?_eq_some_iff.1 hs).1,hs,he,rfl⟩⟩
  rw [List.mem_zipIdx_iff_getElem?,List.take_length]
  exact hx
def execS (p:Prog) (c:Config) (t:Nat) (s:Step):Config :=
 ⟨writeM c.mem c.mem s.set,if s.kind=6 then (c.at_.set t s.to).set s.target.toNat 0 else c.at_.set t s.to,p.threads.map fun _=>[]⟩
def stepAt (p:Prog) (x:Choice):Option Step:=(p.threads[x.thread.toNat]?).bind fun t=>t.steps[x.step.toNat]?
def zeroC:Config:=⟨[],[],[]⟩
def execM (p:Prog) (c:Config) (x:Choice):Config:=match stepAt p x with
 | some s=>execS p c x.thread.toNat s
 | none=>zeroC
def nextM (p:Prog) (c:Config) (x:Choice):Config×Int :=
 if formedM p&&isM p c then (if hasM (choicesM p c) x then (execM p c x,0) else (zeroC,110)) else (zeroC,1)
theorem hasM_iff (l:List Choice) (x:Choice):hasM l x=true<->x∈l:=by
 unfold hasM
 rw [List.any_eq_true]
 constructor
 ·rintro ⟨y,hy,h⟩; simp at h; exact h ▸ hy
 ·intro h; exact ⟨x,h,by simp⟩
theorem take_all {α:Type} {l:List α} {n:Nat} (h:n=l.length):l.take n=l:=List.take_of_length_le (by omega)
theorem drop_none {α:Type} {l:List α} {n:Nat} (h:n=l.length):l.drop n=[]:=List.drop_of_length_le (by omega)
theorem executeP_den (p:Prog) (hf:formedM p=true) (c:Config) (hc:isM p c=true) (t:Nat) (x:Thread) (hx:p.threads[t]? = some x) (i:Nat) (s:Step) (hs:x.steps[i]? = some s) (y:Choice) (hy:y=⟨t,i,0⟩) (hset:s.set.length<2^40) :
 Den Γ G 45 [(.agg [.t (.sl ((p).cells.map (Cell.enc))), .t (.sl ((p).modules.map (Contract.enc))), .t (.sl ((p).locks.map (Lock.enc))), .t (.sl ((p).threads.map (Thread.enc)))]),(.agg [.t (ints (c).mem), .t (ints (c).at_), .t (.sl ((c).buf.map (fun b=>[.sl (b.map Entry.enc)])))]),(.agg [.t (ti (y).thread), .t (ti (y).step), .t (ti (y).cell)])]=some (.agg [.t (ints (execS p c t s).mem), .t (ints (execS p c t s).at_), .t (.sl ((execS p c t s).buf.map (fun b=>[.sl (b.map Entry.enc)])))]):=by
 subst hy
 obtain ⟨l1,l2,l3⟩:=is_len hc
 obtain ⟨⟨m1,m2,m3,m4⟩,_⟩:=limits_points (formed_limits hf).1
 have hok:=formed_step hf hx hs
 have htl:t<p.threads.length:=(List.getElem?_eq_some_iff.1 hx).1
 have e1:(c.mem.length:Int)<=4294967296:=by omega
 have e2:(c.at_.length:Int)<=4294967296:=by omega
 have e3:(c.buf.length:Int)<=4294967296:=by omega
 (refine den_ofY Γ45 rfl ?_; dsimp only [f45])
 have r1:=rowsI_all c.mem
 have r2:=rowsI_all c.at_
 have r3:List.take c.mem.length (rowsI c.mem)=rowsI c.mem:=take_all (rowsI_len _).symm
 have r4:List.take c.at_.length (rowsI c.at_)=rowsI c.at_:=take_all (rowsI_len _).symm
 have r5 : ∀ (n:Nat) (v:List V),List.drop n (List.replicate n v)=[]:=fun n v=>drop_none (by simp)
 have hcm : ∀ a∈s.set,0<=a.cell/\a.cell<c.mem.length:=fun a ha=>by
  have:=(hok.rng.2 a ha).1
  simp only [inR,decide_eq_true_eq] at this; omega
 simp -dsimp -implicitDefEqProofs only [go_sem,seval,e1,e2,e3,Int.le_refl,rowsI_eq,r1,r2,r3,r4,r5,rowsI_len,List.length_replicate,Nat.le_refl,List.append_nil,Nat.min_self,hx,hs]
 refine loopYH 36893206672442393600 s.set.length (fun j f h z=>(f 48).v=vi j/\h 7=some (.rows 1 (rowsI (writeM c.mem c.mem (s.set.take j))) false)/\h 11=some (.rows 1 (rowsI c.at_) false)/\h 15=some (.rows 1 (List.replicate c.buf.length [.t .nils]) false)) rfl
  ⟨by simp -dsimp -implicitDefEqProofs only [go_sem,seval],by simp -dsimp -implicitDefEqProofs only [go_sem,seval]; rfl,by simp -dsimp -implicitDefEqProofs only [go_sem,seval],by simp -dsimp -implicitDefEqProofs only [go_sem,seval]⟩ ?_
 rintro j f u H z bs hj ⟨h48,g7,g11,g15⟩
 have hw:=wrapS j (by omega)
 simp -dsimp -implicitDefEqProofs only [go_sem,seval,h48]
 refine csplit (fun h => ?_) (fun h => ?_) <;> (try rw [h]) <;> (try simp only [bools] at h) <;> (try simp -dsimp -implicitDefEqProofs only [go_sem,seval,h48])
 ·obtain ⟨a,ha,ham⟩:=get_of ‹j<s.set.length›
  obtain ⟨c0,c1⟩:=hcm a ham
  have hev:=evalP_den a.to c.mem c.mem
  have hlen:(writeM c.mem c.mem (s.set.take j)).length=c.mem.length:=write_len c.mem _ c.mem
  have hgt:=rowsI_get (l:=writeM c.mem c.mem (s.set.take j)) (i:=a.cell.toNat) (by omega)
  have hst:=rowsI_set (writeM c.mem c.mem (s.set.take j)) a.cell.toNat (a.to.eval c.mem c.mem)
  rw [<- write_take ha] at hst
  simp -dsimp -implicitDefEqProofs only [go_sem,seval,h48,ha,hev,c0,c1,g7,hgt]
  refine ⟨by omega,by simp -dsimp -implicitDefEqProofs only [go_sem,seval,hw],by simp -dsimp -implicitDefEqProofs only [go_sem,seval,hst],by simp -dsimp -implicitDefEqProofs only [go_sem,seval,g11],by simp -dsimp -implicitDefEqProofs only [go_sem,seval,g15]⟩
 ·have:j=s.set.length:=by omega
  subst this
  rw [List.take_length] at g7
  have hgt:=rowsI_get (l:=c.at_) (i:=t) (by omega)
  have hst:=rowsI_set c.at_ t s.to
  have hlt:(t:Int)<(c.at_.length:Int):=by omega
  have t0:(0:Int)<=(t:Int):=by omega
  have hlt2:t<c.at_.length:=by omega
  have hb1:List.take p.threads.length (List.replicate p.threads.length [V.t T.nils])=List.replicate p.threads.length [V.t T.nils]:=take_all (by simp)
  have hb2:c.buf.length=p.threads.length:=l3
  have hb3:=fun h=>mapM_nils h p.threads.length
  have hm1:List.take c.mem.length (rowsI (writeM c.mem c.mem s.set))=rowsI (writeM c.mem c.mem s.set):=take_all (by rw [rowsI_len,write_len])
  have hm2:(rowsI (writeM c.mem c.mem s.set)).length=c.mem.length:=by rw [rowsI_len,write_len]
  simp -dsimp -implicitDefEqProofs only [go_sem,seval,g11,hgt,hlt,hlt2,hst,rowsI_len,List.length_set]
  by_cases hk:s.kind=6
  ·obtain ⟨hr,_⟩:=hok.tgt (.inl hk)
   simp only [inR,decide_eq_true_eq] at hr
   have q1:s.target<(c.at_.length:Int):=by omega
   have q2:=hr.1
   have hgt2:=rowsI_get (l:=c.at_.set t s.to) (i:=s.target.toNat) (by simp; omega)
   have hst2:=rowsI_set (c.at_.set t s.to) s.target.toNat 0
   have ha1:List.take c.at_.length (rowsI ((c.at_.set t s.to).set s.target.toNat 0))=rowsI ((c.at_.set t s.to).set s.target.toNat 0):=take_all (by rw [rowsI_len]; simp)
   simp -dsimp -implicitDefEqProofs only [go_sem,seval,hk,q1,q2,hgt2,hst2,g7,g15,hb1,hb3,hm1,hm2,ha1,rowsI_len,List.length_set,List.length_replicate,Nat.le_refl,rowsI_toT,hb2]
   simp [execS,hk,replicate_map]
  ·have ha1:List.take c.at_.length (rowsI (c.at_.set t s.to))=rowsI (c.at_.set t s.to):=take_all (by rw [rowsI_len]; simp)
   simp -dsimp -implicitDefEqProofs only [go_sem,seval,hk,g7,g15,hb1,hb3,hm1,hm2,ha1,rowsI_len,List.length_set,List.length_replicate,Nat.le_refl,rowsI_toT,hb2]
   simp [execS,hk,replicate_map]
theorem nextP_den (p:Prog) (hs:p.sane) (c:Config) (hcs:c.sane) (x:Choice):Den Γ G 18 [(.agg [.t (.sl ((p).cells.map (Cell.enc))), .t (.sl ((p).modules.map (Contract.enc))), .t (.sl ((p).locks.map (Lock.enc))), .t (.sl ((p).threads.map (Thread.enc)))]),(.agg [.t (ints (c).mem), .t (ints (c).at_), .t (.sl ((c).buf.map (fun b=>[.sl (b.map Entry.enc)])))]),(.agg [.t (ti (x).thread), .t (ti (x).step), .t (ti (x).cell)])]=some (.tup [(.agg [.t (ints ((nextM p c x).1).mem), .t (ints ((nextM p c x).1).at_), .t (.sl (((nextM p c x).1).buf.map (fun b=>[.sl (b.map Entry.enc)])))]),vi (nextM p c x).2]):=by
 (refine den_ofY Γ18 rfl ?_; dsimp only [f18])
 have h1:=machineValid_den p hs
 simp -dsimp -implicitDefEqProofs only [go_sem,seval,h1]
 cases hf:formedM p
 ·simp -dsimp -implicitDefEqProofs only [go_sem,seval]
  simp [nextM,hf,zeroC]
 ·have h2:=fitsP_den p hf c hcs
  simp -dsimp -implicitDefEqProofs only [go_sem,seval,h2]
  cases hc:isM p c
  ·simp -dsimp -implicitDefEqProofs only [go_sem,seval]
   simp [nextM,hf,hc,zeroC]
  ·have h3:=choicesP_den p hf c hc
   have hlen:(choicesM p c).length<2^40:=by
    have:=choicesN_len hf c p.threads.length
    have:=(limits_points (formed_limits hf).1).1
    unfold choicesM; omega
   have hN:nextM p c x=if hasM (choicesM p c) x then (execM p c x,0) else (zeroC,110):=by simp [nextM,hf,hc]
   simp -dsimp -implicitDefEqProofs only [go_sem,seval,h3]
   refine loopY 68702700224 (choicesM p c).length (fun i f=>(f 24).v=vi i/\(f 6).v = .lb/\(f 6).box=some [.t .nils, .t .nils, .t .nils]/\hasM (choicesM p c) x=((choicesM p c).drop i).any fun y=>decide (y=x)) rfl rfl ⟨by simp -dsimp -implicitDefEqProofs only [go_sem,seval],by simp -dsimp -implicitDefEqProofs only [go_sem,seval],by simp -dsimp -implicitDefEqProofs only [go_sem,seval],rfl⟩ ?_
   rintro i f u kk bb hi ⟨h24,b1,b2,hany⟩
   have hw:=wrapS i (by omega)
   simp -dsimp -implicitDefEqProofs only [go_sem,seval,h24]
   refine csplit (fun h => ?_) (fun h => ?_) <;> (try rw [h]) <;> (try simp only [bools] at h) <;> (try simp -dsimp -implicitDefEqProofs only [go_sem,seval,h24])
   ·obtain ⟨y,hy,hym⟩:=get_of ‹i<(choicesM p c).length›
    have he:=choice_eq x y
    simp -dsimp -implicitDefEqProofs only [go_sem,seval,h24,hy,he,Bool.bne_false]
    refine csplit (fun h => ?_) (fun h => ?_) <;> (try rw [h]) <;> (try simp only [bools] at h) <;> (try simp -dsimp -implicitDefEqProofs only [go_sem,seval,h24])
    ·have hxy:x=y:=by simpa using h
     rw [any_stop hy (by simpa using hxy.symm)] at hany
     obtain ⟨t,tx,j,s,ht,hsj,_,hyy⟩:=choices_mem.1 hym
     have htm:=List.mem_of_getElem? ht
     have hex:=executeP_den p hf c hc t tx ht j s hsj x (hxy.trans hyy) (hs.sets tx htm s (List.mem_of_getElem? hsj))
     have hE:execM p c x=execS p c t s:=by
      rw [hxy,hyy]
      simp [execM,stepAt,ht,hsj]
     rw [hany,if_pos rfl,hE] at hN
     rw [hN]
     simp -dsimp -implicitDefEqProofs only [go_sem,seval,hex,b1,b2]
    ·refine ⟨by omega,by simp -dsimp -implicitDefEqProofs only [go_sem,seval,hw],by simp -dsimp -implicitDefEqProofs only [go_sem,seval,b1],by simp -dsimp -implicitDefEqProofs only [go_sem,seval,b2], ?_⟩
     rw [hany,any_step hy (by simpa [eq_comm] using h)]
   ·have:i=(choicesM p c).length:=by omega
    subst this
    rw [any_end] at hany
    rw [hany] at hN
    rw [hN]
    simp -dsimp -implicitDefEqProofs only [go_sem,seval,b1,b2]
    simp [zeroC]
end Rg
end
section
namespace Rg
open Go
theorem zip_all_drop {α β:Type} {l:List α} {m:List β} (h:l.length=m.length):(l.zip m).length=l.length:=by rw [List.length_zip]; omega
theorem zip_eq {α:Type} [DecidableEq α] : ∀ {a b:List α},a.length=b.length->((a.zip b).all fun q=>decide (q.1=q.2))=decide (a=b)
 | [],[],_=>rfl
 | [],_::_,h=>by simp at h
 | _::_,[],h=>by simp at h
 | x::a,y::b,h=>by
  simp only [List.length_cons,Nat.add_right_cancel_iff] at h
  rw [List.zip_cons_cons,List.all_cons,zip_eq h]
  by_cases h1:x=y <;> by_cases h2:a=b <;> simp [h1,h2]
theorem sameInts_den (a b:List Int) (hl:a.length<2^40):Den Γ G 34 [.t (ints a), .t (ints b)]=some (vb (decide (a=b))):=by
 (refine den_ofY Γ34 rfl ?_; dsimp only [f34])
 simp -dsimp -implicitDefEqProofs only [go_sem,seval]
 by_cases hlen:a.length=b.length
 ·have hl' : decide (¬ (a.length:Int)=b.length)=false:=by simp [hlen]
  simp -dsimp -implicitDefEqProofs only [go_sem,seval,hl']
  rw [<- zip_eq hlen]
  have hzl:=zip_all_drop hlen
  refine loopY 67106864 a.length (fun i f=>(f 5).v=vi i/\((a.zip b).all fun q=>decide (q.1=q.2))=((a.zip b).drop i).all fun q=>decide (q.1=q.2)) rfl rfl ⟨by simp -dsimp -implicitDefEqProofs only [go_sem,seval],rfl⟩ ?_
  rintro i f u kk bb hi ⟨h5,hall⟩
  have hw:=wrapS i (by omega)
  simp -dsimp -implicitDefEqProofs only [go_sem,seval,h5]
  refine csplit (fun h => ?_) (fun h => ?_) <;> (try rw [h]) <;> (try simp only [bools] at h) <;> (try simp -dsimp -implicitDefEqProofs only [go_sem,seval,h5])
  ·obtain ⟨x,hx,_⟩:=get_of ‹i<a.length›
   obtain ⟨y,hy,_⟩:=get_of (show i<b.length by omega)
   have hz:=zip_get hx hy
   simp -dsimp -implicitDefEqProofs only [go_sem,seval,h5,hx,hy]
   refine csplit (fun h => ?_) (fun h => ?_) <;> (try rw [h]) <;> (try simp only [bools] at h) <;> (try simp -dsimp -implicitDefEqProofs only [go_sem,seval,h5])
   ·rw [hall,all_stop hz (by simpa using h)]
   ·refine ⟨by omega,by simp -dsimp -implicitDefEqProofs only [go_sem,seval,hw], ?_⟩
    rw [hall,all_step hz (by simpa using h)]
  ·have:i=a.length:=by omega
   subst this
   have hz:=all_end (fun q:Int×Int=>decide (q.1=q.2)) (a.zip b)
   rw [hzl] at hz
   rw [hall,hz]
 ·have hl' : decide (¬ (a.length:Int)=b.length)=true:=by simp; omega
  simp -dsimp -implicitDefEqProofs only [go_sem,seval,hl']
  have : ¬ a=b:=fun h=>hlen (by rw [h])
  simp [this]
theorem sameChoices_den (a b:List Choice) (hl:a.length<2^40):Den Γ G 40 [.t (.sl (a.map Choice.enc)), .t (.sl (b.map Choice.enc))]=some (vb (decide (a=b))):=by
 (refine den_ofY Γ40 rfl ?_; dsimp only [f40])
 simp -dsimp -implicitDefEqProofs only [go_sem,seval]
 by_cases hlen:a.length=b.length
 ·have hl' : decide (¬ (a.length:Int)=b.length)=false:=by simp [hlen]
  simp -dsimp -implicitDefEqProofs only [go_sem,seval,hl']
  rw [<- zip_eq hlen]
  have hzl:=zip_all_drop hlen
  refine loopY 67106864 a.length (fun i f=>(f 5).v=vi i/\((a.zip b).all fun q=>decide (q.1=q.2))=((a.zip b).drop i).all fun q=>decide (q.1=q.2)) rfl rfl ⟨by simp -dsimp -implicitDefEqProofs only [go_sem,seval],rfl⟩ ?_
  rintro i f u kk bb hi ⟨h5,hall⟩
  have hw:=wrapS i (by omega)
  simp -dsimp -implicitDefEqProofs only [go_sem,seval,h5]
  refine csplit (fun h => ?_) (fun h => ?_) <;> (try rw [h]) <;> (try simp only [bools] at h) <;> (try simp -dsimp -implicitDefEqProofs only [go_sem,seval,h5])
  ·obtain ⟨x,hx,_⟩:=get_of ‹i<a.length›
   obtain ⟨y,hy,_⟩:=get_of (show i<b.length by omega)
   have hz:=zip_get hx hy
   have he:=choice_eq x y
   simp -dsimp -implicitDefEqProofs only [go_sem,seval,h5,hx,hy,he,Bool.bne_true]
   cases hxy:decide (x=y)
   ·simp -dsimp -implicitDefEqProofs only [go_sem,seval,h5]
    rw [hall,all_stop hz (by simpa using hxy)]
   ·simp -dsimp -implicitDefEqProofs only [go_sem,seval,h5]
    refine ⟨by omega,by simp -dsimp -implicitDefEqProofs only [go_sem,seval,hw], ?_⟩
    rw [hall,all_step hz (by simpa using hxy)]
  ·have:i=a.length:=by omega
   subst this
   have hz:=all_end (fun q:Choice×Choice=>decide (q.1=q.2)) (a.zip b)
   rw [hzl] at hz
   rw [hall,hz]
 ·have hl' : decide (¬ (a.length:Int)=b.length)=true:=by simp; omega
  simp -dsimp -implicitDefEqProofs only [go_sem,seval,hl']
  have : ¬ a=b:=fun h=>hlen (by rw [h])
  simp [this]
def entriesSane (l:List Entry):Prop:=l.length<2^40 /\ ∀ e∈l,e.cells.length<2^40/\e.values.length<2^40
theorem sameEntries_den (a b:List Entry) (hl:entriesSane a):Den Γ G 37 [.t (.sl (a.map Entry.enc)), .t (.sl (b.map Entry.enc))]=some (vb (decide (a=b))):=by
 obtain ⟨hl,hes⟩:=hl
 (refine den_ofY Γ37 rfl ?_; dsimp only [f37])
 simp -dsimp -implicitDefEqProofs only [go_sem,seval]
 by_cases hlen:a.length=b.length
 ·have hl' : decide (¬ (a.length:Int)=b.length)=false:=by simp [hlen]
  simp -dsimp -implicitDefEqProofs only [go_sem,seval,hl']
  rw [<- zip_eq hlen]
  have hzl:=zip_all_drop hlen
  refine loopY 8796093020208 a.length (fun i f=>(f 5).v=vi i/\((a.zip b).all fun q=>decide (q.1=q.2))=((a.zip b).drop i).all fun q=>decide (q.1=q.2)) rfl rfl ⟨by simp -dsimp -implicitDefEqProofs only [go_sem,seval],rfl⟩ ?_
  rintro i f u kk bb hi ⟨h5,hall⟩
  have hw:=wrapS i (by omega)
  simp -dsimp -implicitDefEqProofs only [go_sem,seval,h5]
  refine csplit (fun h => ?_) (fun h => ?_) <;> (try rw [h]) <;> (try simp only [bools] at h) <;> (try simp -dsimp -implicitDefEqProofs only [go_sem,seval,h5])
  ·obtain ⟨x,hx,hxm⟩:=get_of ‹i<a.length›
   obtain ⟨y,hy,_⟩:=get_of (show i<b.length by omega)
   have hz:=zip_get hx hy
   have s1:=sameInts_den x.cells y.cells (hes x hxm).1
   have s2:=sameInts_den x.values y.values (hes x hxm).2
   have hxy:decide (x=y)=(decide (x.cells=y.cells)&&decide (x.values=y.values)):=by
    cases x; cases y; simp
   simp -dsimp -implicitDefEqProofs only [go_sem,seval,h5,hx,hy,s1]
   repeat' (refine csplit (fun h => ?_) (fun h => ?_) <;> (try rw [h]) <;> (try simp only [bools] at h) <;> (try simp -dsimp -implicitDefEqProofs only [go_sem,seval,h5,hx,hy,s2]))
   all_goals first
    | (rw [hall,all_stop hz (by simp only [hxy]; simp [*])]; done)
    | (refine ⟨by omega,by simp -dsimp -implicitDefEqProofs only [go_sem,seval,hw], ?_⟩
       rw [hall,all_step hz (by simp only [hxy]; simp [*])])
  ·have:i=a.length:=by omega
   subst this
   have hz:=all_end (fun q:Entry×Entry=>decide (q.1=q.2)) (a.zip b)
   rw [hzl] at hz
   rw [hall,hz]
 ·have hl' : decide (¬ (a.length:Int)=b.length)=true:=by simp; omega
  simp -dsimp -implicitDefEqProofs only [go_sem,seval,hl']
  have : ¬ a=b:=fun h=>hlen (by rw [h])
  simp [this]
theorem same_den (a b:Config) (ha:a.sane) (he : ∀ l∈a.buf,entriesSane l):Den Γ G 11 [(.agg [.t (ints (a).mem), .t (ints (a).at_), .t (.sl ((a).buf.map (fun b=>[.sl (b.map Entry.enc)])))]),(.agg [.t (ints (b).mem), .t (ints (b).at_), .t (.sl ((b).buf.map (fun b=>[.sl (b.map Entry.enc)])))])]=some (vb (decide (a=b))):=by
 (refine den_ofY Γ11 rfl ?_; dsimp only [f11])
 have s1:=sameInts_den a.mem b.mem ha.mem
 have s2:=sameInts_den a.at_ b.at_ ha.at_
 have hb:=ha.buf
 have hab:decide (a=b)=(decide (a.mem=b.mem)&&decide (a.at_=b.at_)&&decide (a.buf=b.buf)):=by
  cases a; cases b; simp [Bool.and_assoc]
 rw [hab]
 simp -dsimp -implicitDefEqProofs only [go_sem,seval,s1]
 refine csplit (fun h => ?_) (fun h => ?_) <;> (try rw [h]) <;> (try simp only [bools] at h) <;> (try simp -dsimp -implicitDefEqProofs only [go_sem,seval,s2])
 ·simp [h]
 ·have e1:a.mem=b.mem:=by assumption
  refine csplit (fun h => ?_) (fun h => ?_) <;> (try rw [h]) <;> (try simp only [bools] at h) <;> (try simp -dsimp -implicitDefEqProofs only [go_sem,seval])
  ·simp [h]
  ·have e2:a.at_=b.at_:=by assumption
   by_cases hlen:a.buf.length=b.buf.length
   ·have hl' : decide (¬ (a.buf.length:Int)=b.buf.length)=false:=by simp [hlen]
    simp -dsimp -implicitDefEqProofs only [go_sem,seval,hl']
    rw [<- zip_eq hlen]
    have hzl:=zip_all_drop hlen
    refine loopY 281474439839792 a.buf.length (fun i f=>(f 5).v=vi i/\((a.buf.zip b.buf).all fun q=>decide (q.1=q.2))=((a.buf.zip b.buf).drop i).all fun q=>decide (q.1=q.2)) rfl rfl ⟨by simp -dsimp -implicitDefEqProofs only [go_sem,seval],rfl⟩ ?_
    rintro i f u kk bb hi ⟨h5,hall⟩
    have hw:=wrapS i (by omega)
    simp -dsimp -implicitDefEqProofs only [go_sem,seval,h5]
    refine csplit (fun h => ?_) (fun h => ?_) <;> (try rw [h]) <;> (try simp only [bools] at h) <;> (try simp -dsimp -implicitDefEqProofs only [go_sem,seval,h5])
    ·obtain ⟨x,hx,hxm⟩:=get_of ‹i<a.buf.length›
     obtain ⟨y,hy,_⟩:=get_of (show i<b.buf.length by omega)
     have hz:=zip_get hx hy
     have s3:=sameEntries_den x y (he x hxm)
     simp -dsimp -implicitDefEqProofs only [go_sem,seval,h5,hx,hy,s3]
     refine csplit (fun h => ?_) (fun h => ?_) <;> (try rw [h]) <;> (try simp only [bools] at h) <;> (try simp -dsimp -implicitDefEqProofs only [go_sem,seval,h5])
     ·rw [hall,all_stop hz (by simpa using h)]; simp
     ·refine ⟨by omega,by simp -dsimp -implicitDefEqProofs only [go_sem,seval,hw], ?_⟩
      rw [hall,all_step hz (by simpa using h)]
    ·have:i=a.buf.length:=by omega
     subst this
     have hz:=all_end (fun q:List Entry×List Entry=>decide (q.1=q.2)) (a.buf.zip b.buf)
     rw [hzl] at hz
     rw [hall,hz]; simp [e1,e2]
   ·have hl' : decide (¬ (a.buf.length:Int)=b.buf.length)=true:=by simp; omega
    simp -dsimp -implicitDefEqProofs only [go_sem,seval,hl']
    have : ¬ a.buf=b.buf:=fun h=>hlen (by rw [h])
    simp [this]
abbrev bytesT (l:List Int):T:=.sl (l.map fun n=>[.int .u8 n])
def pickAt (l:List Choice) (k:Int):Choice:=l.getD (k.toNat % l.length) ⟨0,0,0⟩
def fewA (a:Assign):Bool:=decide ((a.to.size:Int)<=30)
def fewS (s:Step):Bool:=decide ((s.guard.size:Int)<=30)&&decide ((s.set.length:Int)<=8)&&s.set.all fewA
def fewL (l:Loop):Bool:=decide ((l.variant.size:Int)<=30)&&decide ((l.body.length:Int)<=48)
def few60 (e:Expr):Bool:=decide ((e.size:Int)<=60)
def fewT (x:Thread):Bool:=x.steps.all fewS&&x.asserts.all few60&&x.loops.all fewL
theorem few_den (x:Thread) (h1:x.steps.length<2^40) (h2:x.asserts.length<2^40) (h3:x.loops.length<2^40):Den Γ G 36 [(.agg [.t (.str (x).name), .t (ti (x).points), .t (.sl ((x).asserts.map Expr.enc)), .t (ints (x).modules), .t (.sl ((x).steps.map Step.enc)), .t (.sl ((x).loops.map Loop.enc)), .t (tb (x).asleep)])]=some (vb (fewT x)):=by
 (refine den_ofY Γ36 rfl ?_; dsimp only [f36])
 simp -dsimp -implicitDefEqProofs only [go_sem,seval]
 refine loopY 36028797018963868 x.steps.length (fun i f=>(f 3).v=vi i/\x.steps.all fewS=(x.steps.drop i).all fewS) rfl rfl ⟨by simp -dsimp -implicitDefEqProofs only [go_sem,seval],rfl⟩ ?_
 rintro i f u kk bb hi ⟨h3',hall⟩
 have hw:=wrapS i (by omega)
 simp -dsimp -implicitDefEqProofs only [go_sem,seval,h3']
 refine csplit (fun h => ?_) (fun h => ?_) <;> (try rw [h]) <;> (try simp only [bools] at h) <;> (try simp -dsimp -implicitDefEqProofs only [go_sem,seval,h3'])
 ·obtain ⟨s,hs,hsm⟩:=get_of ‹i<x.steps.length›
  have hg:=small_den s.guard 30 (by omega)
  have hno:fewS s=false->false=fewT x:=fun h0=>by rw [fewT,hall,all_stop hs h0]; rfl
  simp -dsimp -implicitDefEqProofs only [go_sem,seval,h3',hs,hg]
  refine csplit (fun h => ?_) (fun h => ?_) <;> (try rw [h]) <;> (try simp only [bools] at h) <;> (try simp -dsimp -implicitDefEqProofs only [go_sem,seval,h3',hs])
  ·exact hno (by simp [fewS]; omega)
  ·have e1:(s.guard.size:Int)<=30:=by assumption
   refine csplit (fun h => ?_) (fun h => ?_) <;> (try rw [h]) <;> (try simp only [bools] at h) <;> (try simp -dsimp -implicitDefEqProofs only [go_sem,seval,h3'])
   ·exact hno (by simp [fewS]; omega)
   ·have e2:(s.set.length:Int)<=8:=by omega
    refine loopY 36028792723996692 s.set.length (fun k f' => (f' 4).v=vi k/\s.set.all fewA=(s.set.drop k).all fewA) rfl rfl ⟨by simp -dsimp -implicitDefEqProofs only [go_sem,seval],rfl⟩ ?_
    rintro k f' u' kk' bb' hk ⟨h4,hall2⟩
    have hw' := wrapS k (by omega)
    simp -dsimp -implicitDefEqProofs only [go_sem,seval,h3',h4,hs]
    refine csplit (fun h => ?_) (fun h => ?_) <;> (try rw [h]) <;> (try simp only [bools] at h) <;> (try simp -dsimp -implicitDefEqProofs only [go_sem,seval,h3',h4])
    ·obtain ⟨a,ha,ham⟩:=get_of ‹k<s.set.length›
     have hga:=small_den a.to 30 (by omega)
     simp -dsimp -implicitDefEqProofs only [go_sem,seval,h3',h4,hs,ha,hga]
     refine csplit (fun h => ?_) (fun h => ?_) <;> (try rw [h]) <;> (try simp only [bools] at h) <;> (try simp -dsimp -implicitDefEqProofs only [go_sem,seval,h3',h4])
     ·exact hno (by rw [fewS,hall2,all_stop ha (by simp [fewA]; omega)]; simp)
     ·refine ⟨by omega,by simp -dsimp -implicitDefEqProofs only [go_sem,seval,hw'], ?_⟩
      rw [hall2,all_step ha (by simp [fewA]; omega)]
    ·have:k=s.set.length:=by omega
     subst this
     rw [all_end] at hall2
     refine ⟨by omega,by simp -dsimp -implicitDefEqProofs only [go_sem,seval,hw], ?_⟩
     rw [hall,all_step hs (by rw [fewS,hall2]; simp; omega)]
 ·have:i=x.steps.length:=by omega
  subst this
  rw [all_end] at hall
  clear h3' hw
  refine loopY 590259781561686687780 x.asserts.length (fun i f=>(f 5).v=vi i/\x.asserts.all few60=(x.asserts.drop i).all few60) rfl rfl ⟨by simp -dsimp -implicitDefEqProofs only [go_sem,seval],rfl⟩ ?_
  rintro i f u kk bb hi ⟨h5,hall2⟩
  have hw:=wrapS i (by omega)
  simp -dsimp -implicitDefEqProofs only [go_sem,seval,h5]
  refine csplit (fun h => ?_) (fun h => ?_) <;> (try rw [h]) <;> (try simp only [bools] at h) <;> (try simp -dsimp -implicitDefEqProofs only [go_sem,seval,h5])
  ·obtain ⟨e,he,_⟩:=get_of ‹i<x.asserts.length›
   have hg:=small_den e 60 (by omega)
   simp -dsimp -implicitDefEqProofs only [go_sem,seval,h5,he,hg]
   refine csplit (fun h => ?_) (fun h => ?_) <;> (try rw [h]) <;> (try simp only [bools] at h) <;> (try simp -dsimp -implicitDefEqProofs only [go_sem,seval,h5])
   ·rw [fewT,hall,hall2,all_stop he (by simp [few60]; omega)]; rfl
   ·refine ⟨by omega,by simp -dsimp -implicitDefEqProofs only [go_sem,seval,hw], ?_⟩
    rw [hall2,all_step he (by simp [few60]; omega)]
  ·have:i=x.asserts.length:=by omega
   subst this
   rw [all_end] at hall2
   clear h5 hw
   refine loopY 19807040038270274039680335940 x.loops.length (fun i f=>(f 6).v=vi i/\x.loops.all fewL=(x.loops.drop i).all fewL) rfl rfl ⟨by simp -dsimp -implicitDefEqProofs only [go_sem,seval],rfl⟩ ?_
   rintro i f u kk bb hi ⟨h6,hall3⟩
   have hw:=wrapS i (by omega)
   simp -dsimp -implicitDefEqProofs only [go_sem,seval,h6]
   refine csplit (fun h => ?_) (fun h => ?_) <;> (try rw [h]) <;> (try simp only [bools] at h) <;> (try simp -dsimp -implicitDefEqProofs only [go_sem,seval,h6])
   ·obtain ⟨l,hl,_⟩:=get_of ‹i<x.loops.length›
    have hg:=small_den l.variant 30 (by omega)
    have hno:fewL l=false->false=fewT x:=fun h0=>by rw [fewT,hall,hall2,hall3,all_stop hl h0]; rfl
    simp -dsimp -implicitDefEqProofs only [go_sem,seval,h6,hl,hg]
    refine csplit (fun h => ?_) (fun h => ?_) <;> (try rw [h]) <;> (try simp only [bools] at h) <;> (try simp -dsimp -implicitDefEqProofs only [go_sem,seval,h6,hl])
    ·exact hno (by simp [fewL]; omega)
    ·have e1:(l.variant.size:Int)<=30:=by assumption
     refine csplit (fun h => ?_) (fun h => ?_) <;> (try rw [h]) <;> (try simp only [bools] at h) <;> (try simp -dsimp -implicitDefEqProofs only [go_sem,seval,h6])
     ·exact hno (by simp [fewL]; omega)
     ·refine ⟨by omega,by simp -dsimp -implicitDefEqProofs only [go_sem,seval,hw], ?_⟩
      rw [hall3,all_step hl (by simp [fewL]; omega)]
   ·have:i=x.loops.length:=by omega
    subst this
    rw [all_end] at hall3
    rw [fewT,hall,hall2,hall3]; rfl
def fewGo:Int->List Thread->Bool
 | _,[]=>true
 | n,x::r=>if n+x.steps.length>24\/(x.asserts.length:Int)>48\/(x.modules.length:Int)>48\/(x.loops.length:Int)>8\/fewT x=false then false else fewGo (n+x.steps.length) r
def fewC (m:Contract):Bool:=few60 m.rely&&few60 m.guar&&decide ((m.frame.length:Int)<=32)
def fewM (p:Prog):Bool :=
 decide ((p.cells.length:Int)<=32)&&decide ((p.threads.length:Int)<=4)&&decide ((p.modules.length:Int)<=6)&&decide ((p.locks.length:Int)<=4) &&
  fewGo 0 p.threads&&p.modules.all fewC&&p.locks.all fun l=>few60 l.inv
theorem fewM_den (p:Prog) (hb : ∀ x∈p.threads,x.steps.length<2^50):Den Γ G 9 [(.agg [.t (.sl ((p).cells.map (Cell.enc))), .t (.sl ((p).modules.map (Contract.enc))), .t (.sl ((p).locks.map (Lock.enc))), .t (.sl ((p).threads.map (Thread.enc)))])]=some (vb (fewM p)):=by
 (refine den_ofY Γ9 rfl ?_; dsimp only [f9])
 simp -dsimp -implicitDefEqProofs only [go_sem,seval]
 by_cases hl:(p.cells.length:Int)<=32/\(p.threads.length:Int)<=4/\(p.modules.length:Int)<=6/\(p.locks.length:Int)<=4
 ·obtain ⟨l1,l2,l3,l4⟩:=hl
  have g1 : ¬ (p.cells.length:Int)>32:=by omega
  have g2 : ¬ (p.threads.length:Int)>4:=by omega
  have g3 : ¬ (p.modules.length:Int)>6:=by omega
  have g4 : ¬ (p.locks.length:Int)>4:=by omega
  have hF:fewM p=(fewGo 0 p.threads&&p.modules.all fewC&&p.locks.all fun l=>few60 l.inv):=by simp [fewM,l1,l2,l3,l4]
  simp -dsimp -implicitDefEqProofs only [go_sem,seval,g1,g2,g3,g4]
  refine loopY 4722366482868571471932 p.threads.length (fun i f=>(f 4).v=vi i /\ ∃ n:Int,0<=n/\n<=24/\(f 3).v=vi n/\fewGo 0 p.threads=fewGo n (p.threads.drop i)) rfl rfl ⟨by simp -dsimp -implicitDefEqProofs only [go_sem,seval],0,by omega,by omega,by simp -dsimp -implicitDefEqProofs only [go_sem,seval],rfl⟩ ?_
  rintro i f u kk bb hi ⟨h4,n,n0,n1,h3,hgo⟩
  have hw:=wrapS i (by omega)
  simp -dsimp -implicitDefEqProofs only [go_sem,seval,h4]
  refine csplit (fun h => ?_) (fun h => ?_) <;> (try rw [h]) <;> (try simp only [bools] at h) <;> (try simp -dsimp -implicitDefEqProofs only [go_sem,seval,h4])
  ·obtain ⟨x,hx,hxm⟩:=get_of ‹i<p.threads.length›
   have hsl:=hb x hxm
   have hwn:IntKind.i64.wrap (n+(x.steps.length:Int))=n+x.steps.length:=wrap64 (by omega)
   rw [drop_of hx,fewGo] at hgo
   simp -dsimp -implicitDefEqProofs only [go_sem,seval,h4,h3,hx,hwn]
   by_cases hbad:n+x.steps.length>24\/(x.asserts.length:Int)>48\/(x.modules.length:Int)>48\/(x.loops.length:Int)>8
   ·rw [if_pos (by rcases hbad with h | h | h | h <;> simp [h])] at hgo
    rw [hF,hgo,Bool.false_and,Bool.false_and]
    repeat' (refine csplit (fun h => ?_) (fun h => ?_) <;> (try rw [h]) <;> (try simp only [bools] at h) <;> (try simp -dsimp -implicitDefEqProofs only [go_sem,seval,h4]))
    all_goals (exfalso; omega)
   ·have k1 : ¬ n+(x.steps.length:Int)>24:=by omega
    have k2 : ¬ (x.asserts.length:Int)>48:=by omega
    have k3 : ¬ (x.modules.length:Int)>48:=by omega
    have k4 : ¬ (x.loops.length:Int)>8:=by omega
    have hfw:=few_den x (by omega) (by omega) (by omega)
    simp -dsimp -implicitDefEqProofs only [go_sem,seval,k1,k2,k3,k4,hfw]
    refine csplit (fun h => ?_) (fun h => ?_) <;> (try rw [h]) <;> (try simp only [bools] at h) <;> (try simp -dsimp -implicitDefEqProofs only [go_sem,seval,h4])
    ·rw [if_pos (by simp [h])] at hgo
     rw [hF,hgo,Bool.false_and,Bool.false_and]
    ·rw [if_neg (by simp [h]; omega)] at hgo
     exact ⟨by omega,by simp -dsimp -implicitDefEqProofs only [go_sem,seval,hw],n+x.steps.length,by omega,by omega,by simp -dsimp -implicitDefEqProofs only [go_sem,seval],hgo⟩
  ·have:i=p.threads.length:=by omega
   subst this
   rw [List.drop_length,fewGo] at hgo
   rw [hgo,Bool.true_and] at hF
   clear h4 hw h3 hgo
   refine loopY 162259276824490996908708365074500 p.modules.length (fun i f=>(f 6).v=vi i/\p.modules.all fewC=(p.modules.drop i).all fewC) rfl rfl ⟨by simp -dsimp -implicitDefEqProofs only [go_sem,seval],rfl⟩ ?_
   rintro i f u kk bb hi ⟨h6,hall⟩
   have hw:=wrapS i (by omega)
   simp -dsimp -implicitDefEqProofs only [go_sem,seval,h6]
   refine csplit (fun h => ?_) (fun h => ?_) <;> (try rw [h]) <;> (try simp only [bools] at h) <;> (try simp -dsimp -implicitDefEqProofs only [go_sem,seval,h6])
   ·obtain ⟨m,hm,_⟩:=get_of ‹i<p.modules.length›
    have hg1:=small_den m.rely 60 (by omega)
    have hg2:=small_den m.guar 60 (by omega)
    have hno:fewC m=false->false=fewM p:=fun h0=>by rw [hF,hall,all_stop hm h0]; rfl
    simp -dsimp -implicitDefEqProofs only [go_sem,seval,h6,hm,hg1]
    refine csplit (fun h => ?_) (fun h => ?_) <;> (try rw [h]) <;> (try simp only [bools] at h) <;> (try simp -dsimp -implicitDefEqProofs only [go_sem,seval,h6,hm,hg2])
    ·exact hno (by simp [fewC,few60]; omega)
    ·have e1:(m.rely.size:Int)<=60:=by assumption
     refine csplit (fun h => ?_) (fun h => ?_) <;> (try rw [h]) <;> (try simp only [bools] at h) <;> (try simp -dsimp -implicitDefEqProofs only [go_sem,seval,h6,hm])
     ·exact hno (by simp [fewC,few60]; omega)
     ·have e2:(m.guar.size:Int)<=60:=by assumption
      refine csplit (fun h => ?_) (fun h => ?_) <;> (try rw [h]) <;> (try simp only [bools] at h) <;> (try simp -dsimp -implicitDefEqProofs only [go_sem,seval,h6])
      ·exact hno (by simp [fewC,few60]; omega)
      ·refine ⟨by omega,by simp -dsimp -implicitDefEqProofs only [go_sem,seval,hw], ?_⟩
       rw [hall,all_step hm (by simp [fewC,few60]; omega)]
   ·have:i=p.modules.length:=by omega
    subst this
    rw [all_end] at hall
    rw [hall,Bool.true_and] at hF
    clear h6 hw hall
    refine loopY 5316749723862834278251836663111090308 p.locks.length (fun i f=>(f 7).v=vi i/\fewM p=(p.locks.drop i).all fun l=>few60 l.inv) rfl rfl ⟨by simp -dsimp -implicitDefEqProofs only [go_sem,seval],hF⟩ ?_
    rintro i f u kk bb hi ⟨h7,hall⟩
    have hw:=wrapS i (by omega)
    simp -dsimp -implicitDefEqProofs only [go_sem,seval,h7]
    refine csplit (fun h => ?_) (fun h => ?_) <;> (try rw [h]) <;> (try simp only [bools] at h) <;> (try simp -dsimp -implicitDefEqProofs only [go_sem,seval,h7])
    ·obtain ⟨l,hl,_⟩:=get_of ‹i<p.locks.length›
     have hg1:=small_den l.inv 60 (by omega)
     simp -dsimp -implicitDefEqProofs only [go_sem,seval,h7,hl,hg1]
     refine csplit (fun h => ?_) (fun h => ?_) <;> (try rw [h]) <;> (try simp only [bools] at h) <;> (try simp -dsimp -implicitDefEqProofs only [go_sem,seval,h7])
     ·rw [hall,all_stop hl (by simp [few60]; omega)]
     ·refine ⟨by omega,by simp -dsimp -implicitDefEqProofs only [go_sem,seval,hw], ?_⟩
      rw [hall,all_step hl (by simp [few60]; omega)]
    ·have:i=p.locks.length:=by omega
     subst this
     rw [hall,all_end]
 ·have hF:fewM p=false:=by
   cases h:fewM p
   ·rfl
   ·exfalso
    simp only [fewM,Bool.and_eq_true,decide_eq_true_eq] at h
    omega
  rw [hF]
  repeat' (refine csplit (fun h => ?_) (fun h => ?_) <;> (try rw [h]) <;> (try simp only [bools] at h) <;> (try simp -dsimp -implicitDefEqProofs only [go_sem,seval]))
  all_goals (exfalso; omega)
def exOne:Expr:=.mk 1 1 1 []
end Rg
end
section
-- FULL
namespace Rg
open Go
end Rg
end
section
-- FULL
namespace Rg
open Go
structure Prog.lite (p:Prog):Prop where
 steps : ∀ x∈p.threads,x.steps.length<2^50
 cname : ∀ c∈p.cells,c.name.size<2^50
 mname : ∀ m∈p.modules,m.name.size<2^50/\m.owner.size<2^50
 tname : ∀ t∈p.threads,t.name.size<2^50
theorem fewGo_mem {l:List Thread} : ∀ {n:Int},fewGo n l=true->0<=n -> ∀ x∈l,x.steps.length<=24/\x.asserts.length<=48/\x.modules.length<=48/\x.loops.length<=8/\fewT x=true:=by
 induction l with
 | nil=>intro n _ _ x hx; simp at hx
 | cons y r ih =>
  intro n h hn x hx
  rw [fewGo] at h
  split at h
  ·simp at h
  ·rename_i h0
   simp only [not_or,Bool.not_eq_false] at h0
   rcases List.mem_cons.1 hx with rfl | hx
   ·refine ⟨by omega,by omega,by omega,by omega,h0.2.2.2.2⟩
   ·exact ih h (by omega) x hx
theorem few_sane {p:Prog} (hl:p.lite) (h:fewM p=true):p.sane:=by
 simp only [fewM,Bool.and_eq_true,decide_eq_true_eq,List.all_eq_true] at h
 obtain ⟨⟨⟨⟨⟨⟨h1,h2⟩,h3⟩,h4⟩,h5⟩,h6⟩,h7⟩:=h
 have ht:=fewGo_mem h5 (by omega)
 refine ⟨by omega,by omega,by omega,by omega,hl.cname, ?_, ?_, ?_, ?_⟩
 ·intro m hm
  have:=h6 m hm
  simp only [fewC,Bool.and_eq_true,decide_eq_true_eq] at this
  exact ⟨(hl.mname m hm).1,(hl.mname m hm).2,by omega⟩
 ·intro t hm
  obtain ⟨a,b,c,d,_⟩:=ht t hm
  exact ⟨hl.tname t hm,by omega,by omega,by omega,by omega⟩
 ·intro t hm s hs
  obtain ⟨_,_,_,_,e⟩:=ht t hm
  simp only [fewT,Bool.and_eq_true,List.all_eq_true,fewS,decide_eq_true_eq] at e
  have:=e.1.1 s hs
  omega
 ·intro t hm l hll
  obtain ⟨_,_,_,_,e⟩:=ht t hm
  simp only [fewT,Bool.and_eq_true,List.all_eq_true,fewL,decide_eq_true_eq] at e
  have:=e.2 l hll
  omega
end Rg
end
section
namespace Rg
open Go
structure IsC (p:Prog) (c:Config):Prop where
 lm:c.mem.length=p.cells.length
 la:c.at_.length=p.threads.length
 lb:c.buf.length=p.threads.length
 mem : ∀ (i:Nat) (v:Int) (y:Cell),c.mem[i]? = some v->p.cells[i]? = some y->0<=v/\v<2^y.w.toNat
 at_ : ∀ (i:Nat) (a:Int) (x:Thread),c.at_[i]? = some a->p.threads[i]? = some x -> -1<=a/\a<x.points/\(a = -1->x.asleep=true)
 buf : ∀ b∈c.buf,b=[]
theorem zip_all {α β:Type} {l:List α} {m:List β} {f:α×β->Bool}:(l.zip m).all f=true <-> ∀ (i:Nat) (a:α) (b:β),l[i]? = some a->m[i]? = some b->f (a,b)=true:=by
 rw [List.all_eq_true]
 constructor
 ·intro h i a b ha hb
  exact h _ (List.mem_of_getElem? (zip_get ha hb))
 ·intro h q hq
  obtain ⟨i,hi⟩:=List.getElem?_of_mem hq
  rw [List.getElem?_zip_eq_some] at hi
  exact h i _ _ hi.1 hi.2
theorem is_iff {p:Prog} {c:Config}:isM p c=true<->IsC p c:=by
 simp only [isM,fitsM,Bool.and_eq_true,decide_eq_true_eq,zip_all]
 simp only [cellFit,atFit,List.all_eq_true,Bool.and_eq_true,decide_eq_true_eq,Bool.not_eq_true',Bool.and_eq_false_iff,decide_eq_false_iff_not,Bool.not_eq_false',List.isEmpty_iff]
 constructor
 ·rintro ⟨⟨⟨⟨⟨h1,h2⟩,h3⟩,h4⟩,h5⟩,h6⟩
  exact ⟨h1,h2,h5,h3,fun i a x ha hx=>⟨(h4 i a x ha hx).1.1,(h4 i a x ha hx).1.2,fun h0=>by
   rcases (h4 i a x ha hx).2 with h | h
   ·exact absurd h0 h
   ·exact h⟩,h6⟩
 ·rintro ⟨h1,h2,h5,h3,h4,h6⟩
  refine ⟨⟨⟨⟨⟨h1,h2⟩,h3⟩,fun i a x ha hx=>⟨⟨(h4 i a x ha hx).1,(h4 i a x ha hx).2.1⟩, ?_⟩⟩,h5⟩,h6⟩
  by_cases h0:a = -1
  ·exact .inr ((h4 i a x ha hx).2.2 h0)
  ·exact .inl h0
theorem start_is {p:Prog} (hf:formedM p=true):isM p (startM p)=true:=by
 rw [is_iff,startM,if_pos hf]
 refine ⟨by simp,by simp,by simp, ?_, ?_, ?_⟩
 ·intro i v y hv hy
  simp only [List.getElem?_map,hy,Option.map_some,Option.some.injEq] at hv
  subst hv
  exact (formed_cell hf (List.mem_of_getElem? hy)).2.2
 ·intro i a x ha hx
  simp only [List.getElem?_map,hx,Option.map_some,Option.some.injEq] at ha
  have:=points_bound hf hx
  subst ha
  split
  ·rename_i h; exact ⟨by omega,by omega,fun _=>h⟩
  ·exact ⟨by omega,by omega,by omega⟩
 ·intro b hb
  simp only [List.mem_map] at hb
  obtain ⟨_,_,rfl⟩:=hb
  rfl
theorem eval_bound (e:Expr) (old now:List Int):0<=e.eval old now/\e.eval old now<2^e.w.toNat:=by
 unfold Expr.eval
 split
 ·rename_i h; exact ev_bound old now 40 e (formed_deep h)
 ·exact ⟨by omega,pow2_pos _⟩
theorem write_at {p:Prog} {view:List Int} : ∀ {set:List Assign} {mem:List Int},
 (∀ a∈set, ∃ y,p.cells[a.cell.toNat]? = some y/\a.to.w=y.w) ->
 (∀ (i:Nat) (v:Int) (y:Cell),mem[i]? = some v->p.cells[i]? = some y->0<=v/\v<2^y.w.toNat) ->
 ∀ (i:Nat) (v:Int) (y:Cell),(writeM mem view set)[i]? = some v->p.cells[i]? = some y->0<=v/\v<2^y.w.toNat
 | [],mem,_,hm=>hm
 | a::r,mem,hw,hm=>by
  have:writeM mem view (a::r)=writeM (mem.set a.cell.toNat (a.to.eval view view)) view r:=rfl
  rw [this]
  refine write_at (fun b hb=>hw b (List.mem_cons_of_mem _ hb)) ?_
  intro i v y hv hy
  rw [List.getElem?_set] at hv
  split at hv
  ·rename_i hi
   split at hv
   ·cases hv
    obtain ⟨z,hz,hzw⟩:=hw a List.mem_cons_self
    rw [hi,hy] at hz; cases hz
    rw [<- hzw]; exact eval_bound _ _ _
   ·simp at hv
  ·exact hm i v y hv hy
theorem exec_is {p:Prog} (hf:formedM p=true) {c:Config} (hc:isM p c=true) {t i:Nat} {x:Thread} {s:Step} (hx:p.threads[t]? = some x) (hs:x.steps[i]? = some s):isM p (execS p c t s)=true:=by
 rw [is_iff] at hc ⊢
 have hok:=formed_step hf hx hs
 refine ⟨by simp only [execS,write_len]; exact hc.lm, ?_,by simp [execS], ?_, ?_, ?_⟩
 ·simp only [execS]; split <;> simp <;> exact hc.la
 ·exact write_at hok.wid hc.mem
 ·have key : ∀ (j:Nat) (a:Int) (z:Thread),(c.at_.set t s.to)[j]? = some a->p.threads[j]? = some z -> -1<=a/\a<z.points/\(a = -1->z.asleep=true):=by
   intro j a z ha hz
   rw [List.getElem?_set] at ha
   split at ha
   ·rename_i hj
    split at ha
    ·cases ha
     subst hj
     rw [hx] at hz; cases hz
     have:=hok.to
     exact ⟨by omega,by omega,by omega⟩
    ·simp at ha
   ·exact hc.at_ j a z ha hz
  intro j a z ha hz
  simp only [execS] at ha
  split at ha
  ·rw [List.getElem?_set] at ha
   split at ha
   ·split at ha
    ·cases ha
     have:=points_bound hf hz
     exact ⟨by omega,by omega,by omega⟩
    ·simp at ha
   ·exact key j a z ha hz
  ·exact key j a z ha hz
 ·intro b hb
  simp only [execS,List.mem_map] at hb
  obtain ⟨_,_,rfl⟩:=hb
  rfl
theorem next_ok {p:Prog} (hf:formedM p=true) {c:Config} (hc:isM p c=true) {y:Choice} (hy:y∈choicesM p c) :
 ∃ (t:Nat) (x:Thread) (i:Nat) (s:Step),p.threads[t]? = some x/\x.steps[i]? = some s/\enabledM p c t s=true/\y=⟨t,i,0⟩/\nextM p c y=(execS p c t s,0)/\isM p (execS p c t s)=true:=by
 obtain ⟨t,x,i,s,hx,hs,he,rfl⟩:=choices_mem.1 hy
 refine ⟨t,x,i,s,hx,hs,he,rfl, ?_,exec_is hf hc hx hs⟩
 rw [nextM,hf,hc]
 simp only [Bool.and_self,if_true,(hasM_iff _ _).2 hy]
 simp [execM,stepAt,hx,hs]
theorem next_no {p:Prog} (hf:formedM p=true) {c:Config} (hc:isM p c=true) {y:Choice} (hy : ¬ y∈choicesM p c):nextM p c y=(zeroC,110):=by
 rw [nextM,hf,hc]
 have:hasM (choicesM p c) y=false:=by rw [<- Bool.not_eq_true,hasM_iff]; exact hy
 simp [this]
theorem pick_mem {l:List Choice} (h:l≠[]) (k:Int):pickAt l k∈l:=by
 have hl:0<l.length:=List.length_pos_iff.2 h
 have:k.toNat % l.length<l.length:=Nat.mod_lt _ hl
 rw [pickAt,List.getD_eq_getElem?_getD,List.getElem?_eq_getElem this]
 exact List.getElem_mem _
theorem enabledL_eq {p:Prog} (hf:formedM p=true) {c:Config} (hc:isM p c=true):enabledL p c=choicesM p c:=by
 rw [enabledL,hf,hc]; rfl
namespace Expr
mutual
def mapL (f:Expr->Expr):Expr->Expr
 | .mk o w n []=>f (.mk o w n [])
 | .mk o w n (k::ks) => .mk o w n (mapL f k::mapLs f ks)
def mapLs (f:Expr->Expr):List Expr->List Expr
 | []=>[]
 | e::r=>mapL f e::mapLs f r
end
theorem mapLs_eq (f:Expr->Expr) : ∀ l:List Expr,mapLs f l=l.map (mapL f)
 | []=>rfl
 | e::r=>by rw [mapLs,mapLs_eq f r]; rfl
theorem mapL_leaf {f:Expr->Expr} {e:Expr} (h:e.kids=[]):e.mapL f=f e:=by
 obtain ⟨o,w,n,ks⟩:=e
 cases ks with
 | nil=>rfl
 | cons k ks=>simp [Expr.kids] at h
theorem mapL_node {f:Expr->Expr} {e:Expr} (h:e.kids≠[]):e.mapL f = .mk e.op e.w e.n (e.kids.map (mapL f)):=by
 obtain ⟨o,w,n,ks⟩:=e
 cases ks with
 | nil=>simp [Expr.kids] at h
 | cons k ks=>rw [mapL,mapLs_eq]; rfl
end Expr
def Cut (h:Nat->Option O) (lo hi:Nat) (cs:List V) (e:Expr):Prop :=
 ∃ x,cs=[.t (ti e.op), .t (ti e.w), .t (ti e.n),x]/\V.cells x=some [x] /\
  ∀ h2 d,e.size<=d->(∀ k,lo<=k->k<hi->h2 k=h k)->toT h2 d x=some (.sl (e.kids.map Expr.enc))
theorem Cut.mono {h h' : Nat->Option O} {lo hi lo' hi' : Nat} {cs:List V} {e:Expr} (c:Cut h lo hi cs e) (h1:lo' <= lo) (h2:hi<=hi') (hh : ∀ k,lo<=k->k<hi->h' k=h k):Cut h' lo' hi' cs e:=by
 obtain ⟨x,hc,hx,ht⟩:=c
 exact ⟨x,hc,hx,fun g d hd hg=>ht g d hd fun k k1 k2=>(hg k (by omega) (by omega)).trans (hh k k1 k2)⟩
theorem Cut.tree (h:Nat->Option O) (lo hi:Nat) (e:Expr):Cut h lo hi [.t (ti e.op), .t (ti e.w), .t (ti e.n), .t (.sl (e.kids.map Expr.enc))] e :=
 ⟨_,rfl,rfl,fun _ d _ _=>by cases d <;> rfl⟩
theorem mapL_same (e:Expr):e.mapL (fun x=>x)=e:=by
 induction e using Expr.ind with
 | _ e ih =>
 by_cases hk:e.kids=[]
 ·exact Expr.mapL_leaf hk
 ·rw [Expr.mapL_node hk]
  have:e.kids.map (Expr.mapL fun x=>x)=e.kids:=by
   have:=List.map_congr_left (f:=Expr.mapL fun x=>x) (g:=id) (l:=e.kids) fun k hk=>ih k hk
   simpa using this
  rw [this]
  obtain ⟨o,w,n,ks⟩:=e
  rfl
def asg (set:List Assign) (c:Int):Option Expr:=(set.find? fun a=>decide (a.cell=c)).map Assign.to
end Rg
end
section
namespace Rg
open Go
theorem node_inner {e:Expr} (h:nodeOk e=true) (hk:e.kids≠[]):e.op≠1/\e.op≠2/\e.op≠3:=by
 have ha:=node_arity h
 refine ⟨fun ho => ?_,fun ho => ?_,fun ho => ?_⟩ <;> rw [ho] at ha <;> simp [arity] at ha <;> exact hk (List.eq_nil_of_length_eq_zero (by omega))
theorem lv_mem {e x:Expr} (h:x∈e.lv):x.kids=[]:=by
 induction e using Expr.ind with
 | _ e ih =>
  rw [Expr.lv_eq] at h
  split at h
  ·rename_i hk; rw [List.mem_singleton.1 h]; exact hk
  ·obtain ⟨k,hk,hx⟩:=List.mem_flatMap.1 h
   exact ih k hk hx
theorem lv_kid {e k:Expr} (hk:k∈e.kids) {x:Expr} (hx:x∈k.lv):x∈e.lv:=by
 rw [Expr.lv_eq,if_neg (by intro h; rw [h] at hk; simp at hk)]
 exact List.mem_flatMap.2 ⟨k,hk,hx⟩
theorem lv_self {e:Expr} (hk:e.kids=[]):e∈e.lv:=by rw [Expr.lv_eq,if_pos hk]; simp
theorem lv_deep {x:Expr} : ∀ {d:Nat} {e:Expr},e.deep d=true->x∈e.lv->nodeOk x=true:=by
 intro d
 induction d with
 | zero=>intro e h; simp [Expr.deep] at h
 | succ d ih =>
  intro e h hx
  rw [Expr.lv_eq] at hx
  split at hx
  ·rw [List.mem_singleton.1 hx]; exact deep_node h
  ·obtain ⟨k,hk,hx⟩:=List.mem_flatMap.1 hx
   exact ih (deep_kid h hk) hx
theorem lv_allE {f:Expr->Bool} {x:Expr} : ∀ {e:Expr},e.allE f=true->x∈e.lv->f x=true:=by
 intro e
 induction e using Expr.ind with
 | _ e ih =>
  intro h hx
  rw [Expr.lv_eq] at hx
  split at hx
  ·rw [List.mem_singleton.1 hx]; exact Expr.allE_self h
  ·obtain ⟨k,hk,hx⟩:=List.mem_flatMap.1 hx
   exact ih k hk (Expr.allE_kid h hk) hx
theorem mapL_ev {f:Expr->Expr} {o1 m1 o2 m2:List Int} : ∀ {d:Nat} {e:Expr},e.deep d=true->(∀ x∈e.lv,(f x).ev o1 m1=x.ev o2 m2)->(e.mapL f).ev o1 m1=e.ev o2 m2:=by
 intro d
 induction d with
 | zero=>intro e h; simp [Expr.deep] at h
 | succ d ih =>
  intro e h hl
  by_cases hk:e.kids=[]
  ·rw [Expr.mapL_leaf hk]; exact hl e (lv_self hk)
  ·obtain ⟨n1,n2,n3⟩:=node_inner (deep_node h) hk
   rw [Expr.mapL_node hk,Expr.ev_eq,Expr.ev_eq o2 m2 e]
   have:(e.kids.map (Expr.mapL f)).map (Expr.ev o1 m1)=e.kids.map (Expr.ev o2 m2):=by
    rw [List.map_map]
    exact List.map_congr_left fun k hk=>ih (deep_kid h hk) fun x hx=>hl x (lv_kid hk hx)
   simp only [go_sem,n1,n2,n3,if_false,this]
structure SetOk (p:Prog) (set:List Assign):Prop where
 rng : ∀ a∈set,inR a.cell p.cells.length=true/\a.to.valid p.cells false=true
 wid : ∀ a∈set, ∃ y,p.cells[a.cell.toNat]? = some y/\a.to.w=y.w
 dif : ∀ (i j:Nat) (a b:Assign),set[i]? = some a->set[j]? = some b->a.cell=b.cell->i=j
theorem valid_lv {cells:List Cell} {e x:Expr} (h:e.valid cells false=true) (hx:x∈e.lv):x.kids=[]/\nodeOk x=true/\(x.op=1\/x.op=2/\0<=x.n/\x.n<32 /\ ∃ c,cells[x.n.toNat]? = some c/\c.w=x.w):=by
 simp only [Expr.valid,Bool.and_eq_true] at h
 have hk:=lv_mem hx
 have hn:=lv_deep (formed_deep h.1) hx
 have hl:=lv_allE h.2 hx
 have hc:=lv_allE (deep_lcS 40 e (formed_deep h.1)) hx
 simp only [lcS,Bool.and_eq_true,decide_eq_true_eq] at hc
 refine ⟨hk,hn, ?_⟩
 have h3:x.op≠3:=fun h3=>by simp [leafOk,h3] at hl
 rcases hc.1.2 hk with h1 | ⟨h2 | h2,hlt⟩
 ·exact .inl h1
 ·refine .inr ⟨h2,hc.1.1,hlt, ?_⟩
  simp only [leafOk,h2] at hl
  cases hcc:cells[x.n.toNat]? with
  | none=>simp [hcc] at hl
  | some c=>exact ⟨c,rfl,by simpa [hcc] using hl⟩
 ·exact absurd h2 h3
end Rg
end
