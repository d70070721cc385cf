/- Part of the proof of the laws of the package relyguardlaw30: an abstract machine for the program's functions, what they compute, and that the machine is the program's. No condition. (H46a H42b H42c H42d) -/
import Derived.Test.YtcgkpboneipghaaGreatDoorPartAZ
set_option linter.unusedSimpArgs false
set_option linter.unusedVariables false
section
namespace Rg
open Go
def atomS (k:Int) (s:Step):Step:=if s.kind=k then { s with kind:=4,release:=false } else s
def atomT (k:Int) (x:Thread):Thread:={ x with steps:=x.steps.map (atomS k) }
def atomP (k:Int) (p:Prog):Prog:={ p with threads:=p.threads.map (atomT k) }
theorem over_mono {p:Prog} {e:Expr} {t:Int} (h:overOk p e false t=true):overOk p e true t=true:=by
 unfold overOk at h ⊢
 simp only [Bool.and_eq_true,List.all_eq_true] at h ⊢
 exact ⟨fun c hc=>own_sees (h.1 c hc),fun c hc=>own_sees (h.2 c hc)⟩
theorem leaf_sup3 {e:Expr} (hv:e.formed=true) (ho:e.op=2):e.sup 3=[]:=by
 refine List.eq_nil_iff_forall_not_mem.2 fun c hc => ?_
 obtain ⟨h0,_,x,hx,hxo,hxn⟩:=sup_mem hc
 have hn:=deep_node (formed_deep hv)
 have hk:e.kids=[]:=by
  by_cases hk:e.kids=[]
  ·exact hk
  ·exact absurd ho (node_inner hn hk).2.1
 rw [Expr.lv_eq,if_pos hk,List.mem_singleton] at hx
 subst hx
 omega
theorem atom_kind {p:Prog} {t:Int} {s:Step} (hf : ∀ a∈s.set,a.to.formed=true) (hk:s.kind=2\/s.kind=3) (h:kindOk p t s=true):(valuesOk p s true t&&s.set.all fun a=>sees p t a.cell)=true:=by
 unfold kindOk at h
 rcases hk with hk | hk
 ·rw [if_neg (by omega),if_pos hk] at h
  unfold loadOk at h
  unfold valuesOk
  split at h
  ·cases h
  ·rename_i a r hs
   rw [hs] at hf ⊢
   simp only [Bool.and_eq_true,decide_eq_true_eq,List.all_eq_true,Bool.not_eq_true',List.all_cons] at h ⊢
   obtain ⟨⟨⟨⟨⟨⟨h1,h2⟩,h3⟩,h4⟩,h5⟩,h6⟩,h7⟩:=h
   refine ⟨⟨over_mono h1, ?_,fun b hb=>over_mono (h7 b hb).2⟩,own_sees h2,fun b hb=>own_sees (h7 b hb).1.1⟩
   have hfa:=hf a (List.mem_cons_self ..)
   unfold overOk
   rw [leaf_sup3 hfa h4]
   simp only [List.all_nil,Bool.true_and,List.all_eq_true]
   intro c hc
   rw [leaf_sup hfa h4 c hc]
   show sees p t a.to.n=true
   unfold sees; rw [h5]; rfl
 ·rw [if_neg (by omega),if_neg (by omega),if_pos hk] at h
  unfold storeOk at h
  split at h
  ·cases h
  ·rename_i a r hs
   simp only [valuesOk,hs,Bool.and_eq_true,decide_eq_true_eq,List.all_eq_true,Bool.not_eq_true',List.all_cons] at h ⊢
   obtain ⟨⟨⟨⟨h1,h1a,h1b⟩,h2⟩,h3⟩,h4⟩:=h
   refine ⟨⟨over_mono h1,over_mono h1a,fun b hb=>over_mono (h1b b hb)⟩, ?_,fun b hb=>(h4 b hb).2⟩
   unfold sees; rw [h2]; rfl
theorem atom_step {p:Prog} {t n:Int} {s:Step} {k:Int} (hk:k=2\/k=3) (h:stepErr p t n s=0):stepErr p t n (atomS k s)=0:=by
 unfold atomS
 by_cases hs:s.kind=k
 ·rw [if_pos hs]
  obtain ⟨hb,hg,hset,hkk⟩:=stepErr_iff.1 h
  have hf : ∀ a∈s.set,a.to.formed=true:=by
   intro a ha
   obtain ⟨j,hj,rfl⟩:=List.mem_iff_getElem.1 ha
   have:=(setErr_iff.1 (hset j _ (List.getElem?_eq_getElem hj))).2.1
   simp only [Expr.valid,Bool.and_eq_true] at this
   exact this.1
  refine stepErr_iff.2 ⟨?_,hg,hset, ?_⟩
  ·simp only [stepBad,Bool.or_eq_false_iff,decide_eq_false_iff_not,Bool.and_eq_false_iff,Bool.not_eq_false'] at hb ⊢
   obtain ⟨⟨⟨⟨⟨⟨b1,b2⟩,b3⟩,b4⟩,b5⟩,b6⟩,b7⟩:=hb
   refine ⟨⟨⟨⟨⟨⟨by decide,by decide⟩,b3⟩,b4⟩,b5⟩,by simp⟩, ?_⟩
   rcases b7 with b7 | b7
   ·exact .inl b7
   ·simp only [Bool.or_eq_true,decide_eq_true_eq] at b7; omega
  ·have:=atom_kind (p:=p) (t:=t) hf (by omega) hkk
   unfold kindOk
   have e4:({ s with kind:=4,release:=false }:Step).kind=4:=rfl
   rw [e4,if_neg (by decide),if_neg (by decide),if_neg (by decide),if_pos rfl]
   exact this
 ·rw [if_neg hs]; exact h
variable {p:Prog} {k:Int}
theorem atom_get (j:Nat):(atomP k p).threads[j]? = (p.threads[j]?).map (atomT k):=by simp [atomP]
theorem atom_like:Like p (atomP k p):=by
 refine ⟨rfl,rfl,by simp [atomP],fun t => ?_⟩
 unfold asleepAt
 rw [atom_get]
 cases p.threads[t.toNat]? <;> rfl
theorem atom_ok (hk:k=2\/k=3) (hok:p.ok):(atomP k p).ok:=by
 have h:=ok_iff.1 hok
 have hl:=atom_like (p:=p) (k:=k)
 refine ok_iff.2 ⟨?_,fun j c hc => ?_,fun j m hm => ?_,fun j l hl' => ?_,fun j y hy => ?_⟩
 ·have h1:=limits_iff.1 h.lim
  refine limits_iff.2 ⟨⟨h1.1.1,h1.1.2.1,h1.1.2.2.1,by rw [<- hl.thr]; exact h1.1.2.2.2⟩,fun y hy => ?_⟩
  obtain ⟨x,hx,rfl⟩:=List.mem_map.1 hy
  have:=h1.2 x hx
  exact ⟨this.1,by simpa [atomT] using this.2.1,this.2.2⟩
 ·rw [<- cellErr_like (p:=p) (q:=atomP k p) rfl rfl hl.thr]; exact h.cells j c hc
 ·rw [<- modErr_like (p:=p) (q:=atomP k p) rfl rfl]; exact h.modules j m hm
 ·rw [<- lockErr_like (p:=p) (q:=atomP k p) rfl rfl rfl]; exact h.locks j l hl'
 ·rw [atom_get] at hy
  obtain ⟨x,hx,rfl⟩:=Option.map_eq_some_iff.1 hy
  obtain ⟨a1,a2,a3,a4,a5,a6,a7⟩:=threadErr_iff.1 (h.threads j x hx)
  have htr : ∀ e b t,truthOk (atomP k p) e b t=truthOk p e b t:=fun e b t=>(truthOk_like (p:=p) (q:=atomP k p) rfl e b t).symm
  refine threadErr_iff.2 ⟨a1, ?_,a3,a4, ?_,fun i s hs => ?_,fun i l hl2 => ?_⟩
  ·show ((p.threads.map (atomT k)).take j).any _=false
   rw [<- List.map_take,List.any_map]; exact a2
  ·simp only [htr]; exact a5
  ·simp only [atomT,List.getElem?_map] at hs
   obtain ⟨s',hs',rfl⟩:=Option.map_eq_some_iff.1 hs
   show stepErr (atomP k p) j x.points _=0
   rw [<- stepErr_like hl]
   exact atom_step hk (a6 i s' hs')
  ·show loopErr (atomP k p) j x.points l=0
   rw [<- loopErr_like (p:=p) (q:=atomP k p) rfl]; exact a7 i l hl2
theorem atom_small {L:Int} (hs:p.SmallP L):(atomP k p).SmallP L:=by
 refine ⟨hs.cells,hs.modules,hs.locks,by simpa [atomP] using hs.threads,hs.mods,hs.lcks,fun z hz => ?_,fun z hz => ?_,fun z hz => ?_⟩
 all_goals obtain ⟨x,hx,rfl⟩:=List.mem_map.1 hz
 ·have:=hs.thr x hx
  exact ⟨this.1,this.2.1,by simpa [atomT] using this.2.2.1,this.2.2.2⟩
 ·intro s hs'
  obtain ⟨s',h',rfl⟩:=List.mem_map.1 hs'
  have:=hs.steps x hx s' h'
  unfold atomS
  split
  ·exact this
  ·exact this
 ·exact hs.loops x hx
theorem atom_lite (hl:p.lite7):(atomP k p).lite7:=by
 refine ⟨hl.cname,hl.mname,fun z hz => ?_⟩
 obtain ⟨x,hx,rfl⟩:=List.mem_map.1 hz
 exact hl.tname x hx
theorem atom_stepAt (t i:Nat) (hk:k≠0):((atomP k p).stepAt t i).kind≠k\/k=4:=by
 unfold Prog.stepAt
 rw [List.getD_eq_getElem?_getD,List.getD_eq_getElem?_getD,atom_get]
 cases ht:p.threads[t]? with
 | none=>left; simp; exact fun h=>hk h.symm
 | some x =>
   simp only [Option.map_some,Option.getD_some,atomT,List.getElem?_map]
   cases hi:x.steps[i]? with
   | none=>left; simp; exact fun h=>hk h.symm
   | some s =>
     simp only [Option.map_some,Option.getD_some]
     unfold atomS
     by_cases h:s.kind=k
     ·rw [if_pos h]; simp only; omega
     ·rw [if_neg h]; exact .inl h
theorem rob_store (hok:p.ok) (model:Int):robM (atomP 3 p) model=true:=by
 have h:=atom_ok (k:=3) (.inr rfl) hok
 simp only [robM,validB,Bool.and_eq_true,decide_eq_true_eq,Option.isNone_iff_eq_none]
 refine ⟨h,Gr.shortest_nopair (Gr.nopair_of_early fun a _ => ?_)⟩
 show (a.wr&&decide (((atomP 3 p).stepAt a.th a.st).kind=3))=false
 rcases atom_stepAt (p:=p) (k:=3) a.th a.st (by decide) with h | h
 ·simp [h]
 ·omega
theorem rob_load (hok:p.ok):robM (atomP 2 p) 1=true:=by
 have h:=atom_ok (k:=2) (.inl rfl) hok
 simp only [robM,validB,Bool.and_eq_true,decide_eq_true_eq,Option.isNone_iff_eq_none]
 refine ⟨h,Gr.shortest_nopair (Gr.nopair_of_late fun a _ => ?_)⟩
 show lateM 1 ((atomP 2 p).stepAt a.th a.st).kind ((atomP 2 p).stepAt a.th a.st).release a.wr=false
 rcases atom_stepAt (p:=p) (k:=2) a.th a.st (by decide) with h | h
 ·cases a.wr <;> simp [lateM,h]
 ·omega
end Rg
end
section
namespace Rg
open Go
def rowsT (f:Nat->Nat->Nat):List T:=(List.range 256).map fun j => .int .u64 (f (j / 64) (j % 64):Nat)
def restT (g:Gr):List T:=rowsT g.ldAt++rowsT g.qkAt++[.opq]
abbrev u64s (l:List Nat):T:=.sl (l.map fun m:Nat=>[.int .u64 m])
theorem rowsT_len (f:Nat->Nat->Nat):(rowsT f).length=256:=by simp [rowsT]
theorem rowsT_at (f:Nat->Nat->Nat) {t i:Nat} (ht:t<4) (hi:i<64):(rowsT f)[t*64+i]? = some (.int .u64 (f t i)):=by
 simp only [rowsT,List.getElem?_map]
 rw [List.getElem?_range (by omega)]
 simp only [Option.map_some]
 rw [show (t*64+i) / 64=t by omega,show (t*64+i) % 64=i by omega]
theorem take1_at {α:Type} {l:List α} {i:Nat} {x:α} (h:l[i]? = some x):List.take 1 (List.drop i l)=[x]:=by
 have hi:=(List.getElem?_eq_some_iff.1 h).1
 rw [drop_of h]; rfl
theorem rest_ld (g:Gr) {t i:Nat} (ht:t<4) (hi:i<64):List.take 1 (List.drop i (List.drop (t*64) (restT g)))=[.int .u64 (g.ldAt t i)]:=by
 rw [List.drop_drop]
 refine take1_at ?_
 rw [restT,List.append_assoc,List.getElem?_append_left (by rw [rowsT_len]; omega),rowsT_at _ ht hi]
theorem rest_qk (g:Gr) {t i:Nat} (ht:t<4) (hi:i<64):List.take 1 (List.drop i (List.drop (t*64) (List.drop 256 (restT g))))=[.int .u64 (g.qkAt t i)]:=by
 rw [List.drop_drop,List.drop_drop]
 refine take1_at ?_
 rw [restT,List.append_assoc,List.getElem?_append_right (by rw [rowsT_len]; omega),rowsT_len,show 256+(t*64+i)-256=t*64+i by omega,List.getElem?_append_left (by rw [rowsT_len]; omega),rowsT_at _ ht hi]
theorem rest_len (g:Gr):(restT g).length=513:=by simp [restT,rowsT_len]
theorem natE (a b:Nat):((a:Int)=(b:Int))=(a=b):=propext Int.ofNat_inj
abbrev grT (cs ms ls ts:List (List T)) (model:Int) (g:Gr):T:=.ip (.sl cs :: .sl ms :: .sl ls :: .sl ts :: .int .i64 model :: .sl (g.all.map Acc.enc)::ints (g.cls.map fun c:Nat=>(c:Int))::u64s g.msk::restT g)
theorem partner_den (cs ms ls ts:List (List T)) (model:Int) (g:Gr) (hg:g.Ok) (hn:g.nt<=4) (a b:Nat) (ha:a<g.all.length) (hb:b<g.all.length) :
 Den Γ G 327 [.t (grT cs ms ls ts model g),vi a,vi b]=some (vb (g.partner a b)):=by
 (refine den_ofY Γ327 rfl ?_; dsimp only [f327])
 have hxa:g.all[a]? = some (g.ac a):=by simp [Gr.ac,List.getD_eq_getElem?_getD,List.getElem?_eq_getElem ha]
 have hxb:g.all[b]? = some (g.ac b):=by simp [Gr.ac,List.getD_eq_getElem?_getD,List.getElem?_eq_getElem hb]
 have ht:(g.ac a).th<4:=by have:=hg.th_lt a ha; omega
 have hi:=hg.st_lt a ha
 have hj:=hg.st_lt b hb
 have hr:=rest_ld g ht hi
 have ht' : (((g.ac a).th:Int)<4)=True:=by simp; omega
 have hi' : (((g.ac a).st:Int)<64)=True:=by simp; omega
 have hlt:=hg.ld_lt (g.ac a).th (g.ac a).st
 have hs:=u_shr (g.ldAt (g.ac a).th (g.ac a).st) (g.ac b).st (by omega)
 have h1:=u_and1 (u_shrlt (i:=(g.ac b).st) hlt)
 have hb1:=u_bit (a:=g.ldAt (g.ac a).th (g.ac a).st) (i:=(g.ac b).st) (by omega)
 unfold Gr.partner
 have hl:=rest_len g
 have hc1:(1<=(List.drop (g.ac a).st (List.drop ((g.ac a).th*64) (restT g))).length)=True:=by simp [hl]; omega
 have hm1:(g.ac a).st*1=(g.ac a).st:=by omega
 simp -dsimp -implicitDefEqProofs only [go_sem,seval,hxa,hxb,natE]
 refine csplit (fun h => ?_) (fun h => ?_) <;> (try rw [h]) <;> (try simp only [bools] at h) <;> (try simp -dsimp -implicitDefEqProofs only [go_sem,seval,natE])
 ·refine csplit (fun h => ?_) (fun h => ?_) <;> (try rw [h]) <;> (try simp only [bools] at h) <;> (try simp -dsimp -implicitDefEqProofs only [go_sem,seval,natE])
  ·refine csplit (fun h => ?_) (fun h => ?_) <;> (try rw [h]) <;> (try simp only [bools] at h) <;> (try simp -dsimp -implicitDefEqProofs only [go_sem,seval,natE])
   ·simp_all
   ·simp -dsimp -implicitDefEqProofs only [go_sem,seval,ht',hi',hr,hs,h1,hb1,hc1,hm1]
    simp_all
  ·simp_all
 ·simp_all
theorem delay_den (cs ms ls:List (List T)) (p:Prog) (hp:p.ok) (model:Int) (a b:Nat) (ha:a<(accsM p).length) (hb:b<(accsM p).length) :
 Den Γ G 306 [.t (grT cs ms ls (p.threads.map Thread.enc) model (grM p model)),vi a,vi b]=some (vb ((grM p model).delay a b)):=by
 have hg:=grM_ok hp model
 have hn:=(limits_iff.1 (ok_iff.1 hp).lim).1.2.2.2
 generalize hG:grM p model=g at hg ⊢
 have hal:g.all=accsM p:=by rw [<- hG]; rfl
 have hxa:g.all[a]? = some (g.ac a):=by simp [Gr.ac,List.getD_eq_getElem?_getD,hal,List.getElem?_eq_getElem ha]
 have hxb:g.all[b]? = some (g.ac b):=by simp [Gr.ac,List.getD_eq_getElem?_getD,hal,List.getElem?_eq_getElem hb]
 have hma:g.ac a∈accsM p:=by rw [<- hal]; exact List.mem_of_getElem? hxa
 have hmb:g.ac b∈accsM p:=by rw [<- hal]; exact List.mem_of_getElem? hxb
 obtain ⟨x,s,hx1,hx2,_⟩:=mem_accs.1 hma
 obtain ⟨y,r,hy1,hy2,_⟩:=mem_accs.1 hmb
 have hb1:=ok_acc hp hma
 have hb2:=ok_acc hp hmb
 have hear:g.ear (g.ac a)=((g.ac a).wr&&decide (s.kind=3)):=by rw [<- hG]; show (_&&decide ((p.stepAt _ _).kind=3))=_; rw [hG,stepAt_of hx1 hx2]
 have hlat:g.lat (g.ac b)=lateM model r.kind r.release (g.ac b).wr:=by rw [<- hG]; show lateM model (p.stepAt _ _).kind (p.stepAt _ _).release _=_; rw [hG,stepAt_of hy1 hy2]
 have he:=gearly_den cs ms ls (p.threads.map Thread.enc) (x.steps.map Step.enc) (.int .i64 model :: .sl (g.all.map Acc.enc)::ints (g.cls.map fun c:Nat=>(c:Int))::u64s g.msk::restT g) _ _ _ _ _ _ _ _ _ _ _ _ _ _ _ _ s.kind (g.ac a).th (g.ac a).st (g.ac a).ce (g.ac a).wr (by rw [List.getElem?_map,hx1]; rfl) (by rw [List.getElem?_map,hx2,Option.map_some,Step.enc,Expr.enc_eq]; rfl)
 have hla:=glate_den cs ms ls (p.threads.map Thread.enc) (y.steps.map Step.enc) (.sl (g.all.map Acc.enc)::ints (g.cls.map fun c:Nat=>(c:Int))::u64s g.msk::restT g) _ _ _ _ _ _ _ _ _ _ _ _ _ _ _ r.kind model r.release (g.ac b).th (g.ac b).st (g.ac b).ce (g.ac b).wr (by rw [List.getElem?_map,hy1]; rfl) (by rw [List.getElem?_map,hy2,Option.map_some,Step.enc,Expr.enc_eq]; rfl)
 (refine den_ofY Γ306 rfl ?_; dsimp only [f306])
 have ht:(g.ac a).th<4:=by omega
 have hi:(g.ac a).st<64:=by omega
 have hj:(g.ac b).st<64:=by omega
 have hr:=rest_qk g ht hi
 have ht' : (((g.ac a).th:Int)<4)=True:=by simp; omega
 have hi' : (((g.ac a).st:Int)<64)=True:=by simp; omega
 have hlt:=hg.qk_lt (g.ac a).th (g.ac a).st
 have hs:=u_shr (g.qkAt (g.ac a).th (g.ac a).st) (g.ac b).st (by omega)
 have h1:=u_and1 (u_shrlt (i:=(g.ac b).st) hlt)
 have hb1:=u_bit (a:=g.qkAt (g.ac a).th (g.ac a).st) (i:=(g.ac b).st) (by omega)
 unfold Gr.delay
 rw [hear,hlat]
 have hl:=rest_len g
 have hc1:(1<=(List.drop (g.ac a).st (List.drop ((g.ac a).th*64) (List.drop 256 (restT g)))).length)=True:=by simp [hl]; omega
 have hm1:(g.ac a).st*1=(g.ac a).st:=by omega
 simp -dsimp -implicitDefEqProofs only [go_sem,seval,hxa,hxb,natE]
 refine csplit (fun h => ?_) (fun h => ?_) <;> (try rw [h]) <;> (try simp only [bools] at h) <;> (try simp -dsimp -implicitDefEqProofs only [go_sem,seval,natE])
 ·refine csplit (fun h => ?_) (fun h => ?_) <;> (try rw [h]) <;> (try simp only [bools] at h) <;> (try simp -dsimp -implicitDefEqProofs only [go_sem,seval,natE,ht',hi',hr,hs,h1,hb1,hc1,hm1])
  ·refine csplit (fun h => ?_) (fun h => ?_) <;> (try rw [h]) <;> (try simp only [bools] at h) <;> (try simp -dsimp -implicitDefEqProofs only [go_sem,seval,natE,he])
   ·cases hw:(g.ac a).wr&&decide (s.kind=3)
    ·simp -dsimp -implicitDefEqProofs only [go_sem,seval,hw]
     simp_all
    ·simp -dsimp -implicitDefEqProofs only [go_sem,seval,hw,hla]
     simp_all
   ·simp_all
  ·simp_all
 ·simp_all
theorem u_not {a b:Nat} (ha:a<2^64) (hb:b<2^64):IntKind.u64.wrap ((BitVec.ofInt IntKind.u64.bits (a:Int) &&& ~~~BitVec.ofInt IntKind.u64.bits (b:Int)).toNat:Int)=((a &&& (2^64-1-b):Nat):Int):=by
 show IntKind.u64.wrap ((BitVec.ofInt 64 (a:Int) &&& ~~~BitVec.ofInt 64 (b:Int)).toNat:Int)=_
 rw [BitVec.toNat_and,BitVec.toNat_not,u_bv ha,u_bv hb,u_wrap (Nat.and_lt_two_pow _ (by omega))]
theorem row_eq {l:List Nat} (h:l.length=64):l=(List.range 64).map fun i=>l.getD i 0:=by
 refine List.ext_getElem (by simp [h]) fun i h1 h2 => ?_
 simp only [List.getElem_map,List.getElem_range,List.getD_eq_getElem?_getD,List.getElem?_eq_getElem h1,Option.getD_some]
theorem rest_row (g:Gr) {t:Nat} (ht:t<4) (hl:(g.ld.getD t []).length=64):(List.take 64 (List.drop (t*64) (restT g))).map V.t=arr (g.ld.getD t []):=by
 rw [row_eq hl,arr,List.map_map]
 refine List.ext_getElem ?_ fun i h1 h2 => ?_
 ·simp only [List.length_map,List.length_take,List.length_drop,rest_len,List.length_range]; omega
 ·have hi:i<64:=by simpa using h2
  have:=rest_ld g ht hi
  have hr:(restT g)[t*64+i]? = some (.int .u64 (g.ldAt t i)):=by
   rw [restT,List.append_assoc,List.getElem?_append_left (by rw [rowsT_len]; omega),rowsT_at _ ht hi]
  obtain ⟨h3,h4⟩:=List.getElem?_eq_some_iff.1 hr
  simp only [List.getElem_map,List.getElem_take,List.getElem_drop,List.getElem_range,Function.comp,h4]
  rfl
theorem rest_qrow (g:Gr) {t:Nat} (ht:t<4) (hl:(g.qk.getD t []).length=64):(List.take 64 (List.drop (t*64) (List.drop 256 (restT g)))).map V.t=arr (g.qk.getD t []):=by
 rw [row_eq hl,arr,List.map_map]
 refine List.ext_getElem ?_ fun i h1 h2 => ?_
 ·simp only [List.length_map,List.length_take,List.length_drop,rest_len,List.length_range]; omega
 ·have hi:i<64:=by simpa using h2
  have hr:(restT g)[256+(t*64+i)]? = some (.int .u64 (g.qkAt t i)):=by
   rw [restT,List.append_assoc,List.getElem?_append_right (by rw [rowsT_len]; omega),rowsT_len,show 256+(t*64+i)-256=t*64+i by omega,List.getElem?_append_left (by rw [rowsT_len]; omega),rowsT_at _ ht hi]
  obtain ⟨h3,h4⟩:=List.getElem?_eq_some_iff.1 hr
  simp only [List.getElem_map,List.getElem_take,List.getElem_drop,List.getElem_range,Function.comp,h4]
  rfl
def rowN (same:Bool) (r:List Nat) (i:Nat):List Nat:=(r.mapIdx fun i m=>Gr.rowC same i m).take i++r.drop i
theorem rowN_len {same:Bool} {r:List Nat} {i:Nat} (h:i<=r.length):(rowN same r i).length=r.length:=by simp [rowN]; omega
theorem rowN_at {same:Bool} {r:List Nat} {i x:Nat} (h:r[i]? = some x):(rowN same r i)[i]? = some x:=by
 have hi:=(List.getElem?_eq_some_iff.1 h).1
 have hl:((r.mapIdx fun i m=>Gr.rowC same i m).take i).length=i:=by simp; omega
 rw [rowN,List.getElem?_append_right (by omega),hl,Nat.sub_self,List.getElem?_drop]; simpa using h
theorem rowN_succ {same:Bool} {r:List Nat} {i x:Nat} (hx:r[i]? = some x):rowN same r (i+1)=(rowN same r i).set i (Gr.rowC same i x):=by
 have hi:=(List.getElem?_eq_some_iff.1 hx).1
 have hl:((r.mapIdx fun i m=>Gr.rowC same i m).take i).length=i:=by simp; omega
 have he:(r.mapIdx fun i m=>Gr.rowC same i m)[i]? = some (Gr.rowC same i x):=by simp [List.getElem?_mapIdx,hx]
 rw [rowN,take_succ_of he,rowN,List.set_append_right _ _ (by omega),hl,Nat.sub_self,drop_of hx]
 simp
theorem rowN_zero (same:Bool) (r:List Nat):rowN same r 0=r:=by simp [rowN]
theorem rowN_end (same:Bool) (r:List Nat):rowN same r r.length=r.mapIdx fun i m=>Gr.rowC same i m:=by
 simp [rowN]; exact List.take_of_length_le (by simp)
theorem rowC_lt {same:Bool} {i m:Nat} (hi:i<64) (hm:m<2^64):Gr.rowC same i m<2^64:=by
 unfold Gr.rowC
 split
 ·exact Nat.and_lt_two_pow _ (Nat.lt_of_le_of_lt (Nat.sub_le _ _) (by decide))
 ·exact Nat.or_lt_two_pow hm (one_lt hi)
set_option maxHeartbeats 1000000
theorem couple_den (cs ms ls ts:List (List T)) (model:Int) (g:Gr) (hg:g.Ok) (hn:g.nt<=4) (hcs:g.nc=cs.length) (hcl:cs.length<2^20) (hts:g.nt=ts.length) (c d:Nat) (hc:c<g.msk.length) (hd:d<g.msk.length) :
 Den Γ G 325 [.t (grT cs ms ls ts model g),vi c,vi d]=some (vb (g.couple c d)):=by
 (refine den_ofY Γ325 rfl ?_; dsimp only [f325])
 have hml:=hg.msk_len
 have hsz:g.sz=2*(cs.length+ts.length):=by unfold Gr.sz; rw [hcs,hts]
 have h0:0<cs.length+ts.length:=by
  apply Classical.byContradiction; intro h
  have:g.sz=0:=by omega
  rw [this] at hml; omega
 have hbig:g.msk.length<=4*g.sz:=by rw [hml]; exact Nat.mul_le_mul_right _ hn
 have hth:=gthread_den cs ms ls ts (.int .i64 model :: .sl (g.all.map Acc.enc)::ints (g.cls.map fun c:Nat=>(c:Int))::u64s g.msk::restT g) c (by omega) (by omega) h0 (by omega)
 have hthr:c / (2*(cs.length+ts.length))=g.thr c:=by unfold Gr.thr; rw [hsz]
 rw [hthr] at hth
 have ht:g.thr c<g.nt:=by
  rw [Gr.thr,Nat.div_lt_iff_lt_mul (by omega)]; omega
 have ht' : ((g.thr c:Int)<4)=True:=by simp; omega
 have hrow:=rest_row g (t:=g.thr c) (by omega) (hg.ld_row _ ht)
 have hrl:=hg.ld_row _ ht
 have hl:=rest_len g
 have hc1:(64<=(List.drop (g.thr c*64) (restT g)).length)=True:=by simp [hl]; omega
 have hal:(arr (g.ld.getD (g.thr c) [])).length=64:=by rw [arr_len,hrl]
 have hRb : ∀ x∈g.ld.getD (g.thr c) [],x<2^64:=by
  intro x hx
  obtain ⟨i,hi,rfl⟩:=List.mem_iff_getElem.1 hx
  have:=hg.ld_lt (g.thr c) i
  rw [Gr.ldAt,List.getD_eq_getElem?_getD,List.getElem?_eq_getElem hi] at this
  exact this
 have hxc:g.msk[c]? = some (g.mks c):=by simp [Gr.mks,List.getD_eq_getElem?_getD,List.getElem?_eq_getElem hc]
 have hxd:g.msk[d]? = some (g.mks d):=by simp [Gr.mks,List.getD_eq_getElem?_getD,List.getElem?_eq_getElem hd]
 have hgoal:g.couple c d=meetsM (g.mks c) (g.mks d) ((g.ld.getD (g.thr c) []).mapIdx fun i m=>Gr.rowC (decide (c=d)) i m):=rfl
 rw [hgoal]
 have hcd:((c:Int)=(d:Int))=(decide (c=d)=true):=by rw [decide_eq_true_eq]; exact propext Int.ofNat_inj
 have hkc:=hg.mk_lt c
 have hkd:=hg.mk_lt d
 simp -dsimp -implicitDefEqProofs only [go_sem,seval,hth,ht',hc1,hrow,hal]
 generalize g.ld.getD (g.thr c) []=R at hrow hrl hal hRb ⊢
 generalize decide (c=d)=sm at hcd ⊢
 refine loopY 274877776256 64 (fun i f=>(f 17).v=vi i/\(f 7).v = .lb/\(f 7).box=some (arr (rowN sm R i))) rfl rfl ⟨by simp -dsimp -implicitDefEqProofs only [go_sem,seval],by simp -dsimp -implicitDefEqProofs only [go_sem,seval],by simp -dsimp -implicitDefEqProofs only [go_sem,seval]; rw [rowN_zero]⟩ ?_
 rintro i f u kk bb hi ⟨h17,h7,h7b⟩
 have hw:=wrapS i (by omega)
 simp -dsimp -implicitDefEqProofs only [go_sem,seval,h17]
 refine csplit (fun h => ?_) (fun h => ?_) <;> (try rw [h]) <;> (try simp only [bools] at h) <;> (try simp -dsimp -implicitDefEqProofs only [go_sem,seval,h17])
 ·obtain ⟨x,hx,hxm⟩:=get_of (show i<R.length by omega)
  have hsucc:=rowN_succ (same:=sm) hx
  have hat:=arr_at (rowN_at (same:=sm) hx)
  have hrN:=rowN_len (same:=sm) (r:=R) (i:=i) (by omega)
  have hal2:(arr (rowN sm R i)).length=64:=by rw [arr_len,hrN,hrl]
  have hs1:=u_shl (i:=i) (by omega)
  have ho:=u_or (hRb x hxm) (one_lt (i:=i) (by omega))
  have hwr:=arr_wr (l:=rowN sm R i) (i:=i) (by omega) (x ||| 1 <<< i)
  have hi64:((i:Int)<64)=True:=by simp; omega
  have hi63:(i<=63)=True:=by simp; omega
  have hm1:i*1=i:=by omega
  simp -dsimp -implicitDefEqProofs only [go_sem,seval,h17,h7,h7b,hat,hs1,ho,hal2,hi64,hi63,hm1,hcd,hwr]
  cases sm
  ·have hrc:Gr.rowC false i x=x ||| 1 <<< i:=rfl
   rw [hrc] at hsucc
   simp -dsimp -implicitDefEqProofs only [go_sem,seval,h17]
   refine ⟨by omega,by simp -dsimp -implicitDefEqProofs only [go_sem,seval,h17,hw],by simp -dsimp -implicitDefEqProofs only [go_sem,seval,h7], ?_⟩
   simp -dsimp -implicitDefEqProofs only [go_sem,seval,hsucc]
  ·have hy:x ||| 1 <<< i<2^64:=Nat.or_lt_two_pow (hRb x hxm) (one_lt (by omega))
   have hat2:=arr_at (set_at (y:=x ||| 1 <<< i) (rowN_at (same:=true) hx))
   have hal3:(arr ((rowN true R i).set i (x ||| 1 <<< i))).length=64:=by rw [arr_len,List.length_set,hrN,hrl]
   have hno:=u_not hy (one_lt (i:=i) (by omega))
   have hwr2:=arr_wr (l:=(rowN true R i).set i (x ||| 1 <<< i)) (i:=i) (by rw [List.length_set]; omega) ((x ||| 1 <<< i) &&& (2^64-1-1 <<< i))
   rw [List.set_set] at hwr2
   have hrc:Gr.rowC true i x=(x ||| 1 <<< i) &&& (2^64-1-1 <<< i):=rfl
   rw [hrc] at hsucc
   simp -dsimp -implicitDefEqProofs only [go_sem,seval,h17,h7,hat2,hs1,hno,hal3,hi64,hi63,hm1]
   refine ⟨by omega,by simp -dsimp -implicitDefEqProofs only [go_sem,seval,h17,hw],by simp -dsimp -implicitDefEqProofs only [go_sem,seval,h7], ?_⟩
   simp -dsimp -implicitDefEqProofs only [go_sem,seval,hsucc]
   exact hwr2
 ·have hi6:i=64:=by omega
  subst hi6
  have htk : ∀ l:List Nat,l.length=64->List.take 64 (arr l)=arr l:=fun l hl=>List.take_of_length_le (by rw [arr_len]; omega)
  rw [<- hrl,rowN_end] at h7b
  generalize hR2:(R.mapIdx fun i m=>Gr.rowC sm i m)=R2 at h7b ⊢
  have hR2l:R2.length=64:=by rw [<- hR2]; simp [hrl]
  have hR2b : ∀ x∈R2,x<2^64:=by
   intro x hx
   rw [<- hR2] at hx
   obtain ⟨i,hi,rfl⟩:=List.mem_iff_getElem.1 hx
   rw [List.getElem_mapIdx]
   exact rowC_lt (by simp at hi; omega) (hRb _ (List.getElem_mem _))
  have hmd:=meets_den (g.mks c) (g.mks d) R2 hR2l hkc hkd hR2b
  have hal2:(arr R2).length=64:=by rw [arr_len,hR2l]
  have ht2:=htk R2 hR2l
  have hmd' : Den Γ G 320 [.t (.int .u64 (g.mks c)), .t (.int .u64 (g.mks d)), .agg (arr R2)]=some (vb (meetsM (g.mks c) (g.mks d) R2)):=hmd
  have htt:=arr_toT (fun _=>none) 1000 R2
  rw [show arr R2=List.map V.t (List.map (fun x:Nat=>T.int .u64 x) R2) by simp [arr]] at hmd'
  simp -dsimp -implicitDefEqProofs only [go_sem,seval,h7,h7b,hxc,hxd,hal2,ht2,htt,hmd']
end Rg
end
section
namespace Rg
open Go
def rowsU (l:List Nat):List (List V):=l.map fun x:Nat=>[.t (.int .u64 x)]
theorem rowsU_len (l:List Nat):(rowsU l).length=l.length:=by simp [rowsU]
theorem rowsU_at {l:List Nat} {i x:Nat} (h:l[i]? = some x):(rowsU l)[i]? = some [.t (.int .u64 x)]:=by simp [rowsU,h]
theorem rowsU_set (l:List Nat) (i x:Nat):(rowsU l).set i [.t (.int .u64 x)]=rowsU (l.set i x):=by simp [rowsU,List.map_set]
theorem rowsU_zero (n:Nat):List.replicate n [V.t (.int .u64 0)]=rowsU (List.replicate n 0):=by simp [rowsU]
namespace Gr
variable {g:Gr}
theorem maskF_succ (ho:g.Ok) (f:Acc->Bool) (c:Nat) {i:Nat} (hi:i<g.all.length):g.maskF f c (i+1)=if f (g.ac i)&&decide (g.cl i=c) then g.maskF f c i ||| 1 <<< (g.ac i).st else g.maskF f c i:=by
 have h1:g.all[i]? = some (g.ac i):=by simp [Gr.ac,List.getD_eq_getElem?_getD,List.getElem?_eq_getElem hi]
 have hi2:i<g.cls.length:=by rw [ho.cl_len]; exact hi
 have h2:g.cls[i]? = some (g.cl i):=by simp [Gr.cl,List.getD_eq_getElem?_getD,List.getElem?_eq_getElem hi2]
 have h3:(g.all.zip g.cls)[i]? = some (g.ac i,g.cl i):=by rw [List.getElem?_zip_eq_some]; exact ⟨h1,h2⟩
 unfold maskF
 rw [take_succ_of h3,List.foldl_append]; rfl
theorem maskF_lt (ho:g.Ok) (f:Acc->Bool) (c:Nat) : ∀ i,i<=g.all.length->g.maskF f c i<2^64
 | 0,_=>by simp [maskF]
 | i+1,h=>by
   rw [maskF_succ ho f c (by omega)]
   have:=maskF_lt ho f c i (by omega)
   split
   ·exact Nat.or_lt_two_pow this (one_lt (ho.st_lt i (by omega)))
   ·exact this
def maskL (g:Gr) (f:Acc->Bool) (i:Nat):List Nat:=(List.range g.msk.length).map fun c=>g.maskF f c i
theorem maskL_len (f:Acc->Bool) (i:Nat):(g.maskL f i).length=g.msk.length:=by simp [maskL]
theorem maskL_at (f:Acc->Bool) (i:Nat) {c:Nat} (h:c<g.msk.length):(g.maskL f i)[c]? = some (g.maskF f c i):=by
 simp only [maskL,List.getElem?_map,List.getElem?_range h,Option.map_some]
theorem maskL_zero (f:Acc->Bool):g.maskL f 0=List.replicate g.msk.length 0:=by
 refine List.ext_getElem (by simp [maskL]) fun i h1 h2 => ?_
 simp [maskL,maskF]
theorem maskL_succ (ho:g.Ok) (f:Acc->Bool) {i:Nat} (hi:i<g.all.length):g.maskL f (i+1)=if f (g.ac i) then (g.maskL f i).set (g.cl i) (g.maskF f (g.cl i) i ||| 1 <<< (g.ac i).st) else g.maskL f i:=by
 refine List.ext_getElem? fun c => ?_
 by_cases hc:c<g.msk.length
 ·rw [maskL_at f (i+1) hc,maskF_succ ho f c hi]
  cases hf:f (g.ac i)
  ·simp only [Bool.false_and,Bool.false_eq_true,if_false]; rw [maskL_at f i hc]
  ·simp only [Bool.true_and,decide_eq_true_eq,if_true]
   rw [List.getElem?_set]
   by_cases h:g.cl i=c
   ·subst h; simp [maskL_len,hc]
   ·rw [if_neg h,if_neg h,maskL_at f i hc]
 ·rw [List.getElem?_eq_none (by rw [maskL_len]; omega)]
  split
  ·rw [List.getElem?_eq_none (by rw [List.length_set,maskL_len]; omega)]
  ·rw [List.getElem?_eq_none (by rw [maskL_len]; omega)]
def pairsI (g:Gr) (c j:Nat):List (Nat×Nat):=((List.range j).filter fun d=>g.isPair c d).map fun d=>(c,d)
def pairsN (g:Gr) (i:Nat):List (Nat×Nat):=(List.range i).flatMap fun c=>g.pairsI c g.msk.length
theorem pairsI_succ (c j:Nat):g.pairsI c (j+1)=g.pairsI c j++if g.isPair c j then [(c,j)] else []:=by
 unfold pairsI
 rw [List.range_succ,List.filter_append,List.map_append]
 cases h:g.isPair c j <;> simp [h]
theorem pairsN_succ (i:Nat):g.pairsN (i+1)=g.pairsN i++g.pairsI i g.msk.length:=by
 unfold pairsN
 rw [List.range_succ,List.flatMap_append]; simp
theorem pairsI_len (c j:Nat):(g.pairsI c j).length<=j:=by
 unfold pairsI
 rw [List.length_map]
 exact Nat.le_trans (List.length_filter_le _ _) (by simp)
theorem pairsN_len : ∀ i,(g.pairsN i).length<=i*g.msk.length
 | 0=>by simp [pairsN]
 | i+1=>by
   rw [pairsN_succ,List.length_append,Nat.succ_mul]
   have:=pairsN_len i
   have:=pairsI_len (g:=g) i g.msk.length
   omega
theorem pairsN_all:g.pairsN g.msk.length=g.pairs:=rfl
end Gr
def pairT (x:Nat×Nat):List T:=[ti x.1,ti x.2]
def rowsP (l:List (Nat×Nat)):List (List V):=(l.map pairT).map (·.map V.t)
theorem rowsP_len (l:List (Nat×Nat)):(rowsP l).length=l.length:=by simp [rowsP]
theorem rowsP_app (l m:List (Nat×Nat)):rowsP l++rowsP m=rowsP (l++m):=by simp [rowsP]
theorem rowsP_all (l:List (Nat×Nat)):((rowsP l).all fun r=>decide (r.length=2))=true:=by simp [rowsP,pairT]
theorem pair_norm (l:List (Nat×Nat)) : ∀ e∈l.map pairT, ∀ t∈e,T.norm t=t:=by
 intro e he t ht
 obtain ⟨x,_,rfl⟩:=List.mem_map.1 he
 simp only [pairT,List.mem_cons,List.not_mem_nil,or_false] at ht
 rcases ht with rfl | rfl <;> rfl
theorem OwnB.offR {h:Nat->Option O} {x k sz sz' : Nat} {v:V} {rows rs:List (List V)} {f:Bool} (o:OwnB h x v sz rows) (hk:h k=some (.rows sz' rs f)) (hne:sz≠sz'):offK v k:=by
 rcases o with ⟨rfl,_⟩ | ⟨q,rfl,_,hq⟩
 ·intro i n he; cases he
 ·refine offK_ms ?_ _ _
  rintro rfl
  rw [hq] at hk
  cases hk
  exact hne rfl
structure AskT (cs ms ls ts:List (List T)) (model:Int) (g:Gr):Prop where
 ok:g.Ok
 nt4:g.nt<=4
 nc:g.nc=cs.length
 cl:cs.length<=32
 nt:g.nt=ts.length
 al:g.all.length<2^20
 ear : ∀ i,i<g.all.length->Den Γ G 318 [.t (grT cs ms ls ts model g), .agg [vi (g.ac i).th,vi (g.ac i).st,vi (g.ac i).ce,vb (g.ac i).wr]]=some (vb (g.ear (g.ac i)))
 lat : ∀ i,i<g.all.length->Den Γ G 319 [.t (grT cs ms ls ts model g), .agg [vi (g.ac i).th,vi (g.ac i).st,vi (g.ac i).ce,vb (g.ac i).wr]]=some (vb (g.lat (g.ac i)))
set_option maxHeartbeats 2000000
theorem pairs_den {cs ms ls ts:List (List T)} {model:Int} {g:Gr} (ha:AskT cs ms ls ts model g) :
 Den Γ G 314 [.t (grT cs ms ls ts model g)]=some (.t (.sl (g.pairs.map pairT))):=by
 have hg:=ha.ok
 have hml:=hg.msk_len
 have hsz:g.sz<=72:=by have:=ha.nt4; have:=ha.cl; have:=ha.nc; unfold Gr.sz; omega
 have hbig:g.msk.length<=4*72:=by rw [hml]; exact Nat.mul_le_mul ha.nt4 hsz
 have hal:=ha.al
 have hncl:=hg.cl_len
 (refine den_ofY Γ314 rfl ?_; dsimp only [f314])
 have hc1:((g.msk.length:Int)<0)=False:=by simp
 have hc2:((g.msk.length:Int)<=g.msk.length)=True:=by simp
 have hc3:((g.msk.length:Int)<=4294967296)=True:=by simp; omega
 simp -dsimp -implicitDefEqProofs only [go_sem,seval,hc1,hc2,hc3]
 rw [rowsU_zero]
 refine loopYH 590295810358571434080 g.all.length (fun i f h x=>(f 27).v=vi i/\h 6=some (.rows 1 (rowsU (g.maskL g.ear i)) false)/\h 12=some (.rows 1 (rowsU (g.maskL g.lat i)) false)/\13<=x) rfl ⟨by simp -dsimp -implicitDefEqProofs only [go_sem,seval],by rw [Gr.maskL_zero]; simp -dsimp -implicitDefEqProofs only [go_sem,seval],by rw [Gr.maskL_zero]; simp -dsimp -implicitDefEqProofs only [go_sem,seval],by simp -dsimp -implicitDefEqProofs only [go_sem,seval]⟩ ?_
 rintro i f u H z bs hi ⟨h27,hE,hL,hz⟩
 have hw:=wrapS i (by omega)
 simp -dsimp -implicitDefEqProofs only [go_sem,seval,h27]
 refine csplit (fun h => ?_) (fun h => ?_) <;> (try rw [h]) <;> (try simp only [bools] at h) <;> (try simp -dsimp -implicitDefEqProofs only [go_sem,seval,h27])
 ·have hi2:i<g.all.length:=by assumption
  have hxa:g.all[i]? = some (g.ac i):=by simp [Gr.ac,List.getD_eq_getElem?_getD,List.getElem?_eq_getElem hi2]
  have hxc:g.cls[i]? = some (g.cl i):=by simp [Gr.cl,List.getD_eq_getElem?_getD,List.getElem?_eq_getElem (show i<g.cls.length by omega)]
  have hce:=ha.ear i hi2
  have hcl:=ha.lat i hi2
  have hclt:=hg.cl_lt i hi2
  have hst:=hg.st_lt i hi2
  have hse:=Gr.maskL_succ hg g.ear hi2
  have hsl:=Gr.maskL_succ hg g.lat hi2
  have hs1:=u_shl (i:=(g.ac i).st) (by omega)
  have hre:=rowsU_at (Gr.maskL_at (g:=g) g.ear i hclt)
  have hrl:=rowsU_at (Gr.maskL_at (g:=g) g.lat i hclt)
  have hle:(rowsU (g.maskL g.ear i)).length=g.msk.length:=by rw [rowsU_len,Gr.maskL_len]
  have hll:(rowsU (g.maskL g.lat i)).length=g.msk.length:=by rw [rowsU_len,Gr.maskL_len]
  have hoe:=u_or (Gr.maskF_lt hg g.ear (g.cl i) i hi) (one_lt (i:=(g.ac i).st) hst)
  have hol:=u_or (Gr.maskF_lt hg g.lat (g.cl i) i hi) (one_lt (i:=(g.ac i).st) hst)
  have hci:((g.cl i:Int)<g.msk.length)=True:=by simp; omega
  simp -dsimp -implicitDefEqProofs only [go_sem,seval,h27,hxa,hce]
  cases he:g.ear (g.ac i)
  ·rw [he] at hse
   simp only [Bool.false_eq_true,if_false] at hse
   simp -dsimp -implicitDefEqProofs only [go_sem,seval,h27,hxa,hcl]
   cases hl:g.lat (g.ac i)
   ·rw [hl] at hsl
    simp only [Bool.false_eq_true,if_false] at hsl
    simp -dsimp -implicitDefEqProofs only [go_sem,seval,h27]
    exact ⟨by omega,by simp -dsimp -implicitDefEqProofs only [go_sem,seval,h27,hw],by simp -dsimp -implicitDefEqProofs only [go_sem,seval,hE,hse],by simp -dsimp -implicitDefEqProofs only [go_sem,seval,hL,hsl],by (try simp -dsimp -implicitDefEqProofs only [go_sem,seval]) <;> omega⟩
   ·rw [hl,if_pos rfl] at hsl
    simp -dsimp -implicitDefEqProofs only [go_sem,seval,h27,hxc,hL,hrl,hll,hci,hs1,hol]
    exact ⟨by omega,by simp -dsimp -implicitDefEqProofs only [go_sem,seval,h27,hw],by simp -dsimp -implicitDefEqProofs only [go_sem,seval,hE,hse],by simp -dsimp -implicitDefEqProofs only [go_sem,seval,rowsU_set,hsl],by (try simp -dsimp -implicitDefEqProofs only [go_sem,seval]) <;> omega⟩
  ·rw [he,if_pos rfl] at hse
   simp -dsimp -implicitDefEqProofs only [go_sem,seval,h27,hxc,hE,hre,hle,hci,hs1,hoe,hxa,hcl]
   cases hl:g.lat (g.ac i)
   ·rw [hl] at hsl
    simp only [Bool.false_eq_true,if_false] at hsl
    simp -dsimp -implicitDefEqProofs only [go_sem,seval,h27]
    exact ⟨by omega,by simp -dsimp -implicitDefEqProofs only [go_sem,seval,h27,hw],by simp -dsimp -implicitDefEqProofs only [go_sem,seval,rowsU_set,hse],by simp -dsimp -implicitDefEqProofs only [go_sem,seval,hL,hsl],by (try simp -dsimp -implicitDefEqProofs only [go_sem,seval]) <;> omega⟩
   ·rw [hl,if_pos rfl] at hsl
    simp -dsimp -implicitDefEqProofs only [go_sem,seval,h27,hxc,hL,hrl,hll,hci,hs1,hol]
    exact ⟨by omega,by simp -dsimp -implicitDefEqProofs only [go_sem,seval,h27,hw],by simp -dsimp -implicitDefEqProofs only [go_sem,seval,rowsU_set,hse],by simp -dsimp -implicitDefEqProofs only [go_sem,seval,rowsU_set,hsl],by (try simp -dsimp -implicitDefEqProofs only [go_sem,seval]) <;> omega⟩
 ·have hia:i=g.all.length:=by omega
  subst hia
  have hle:(rowsU (g.maskL g.ear g.all.length)).length=g.msk.length:=by rw [rowsU_len,Gr.maskL_len]
  have hll:(rowsU (g.maskL g.lat g.all.length)).length=g.msk.length:=by rw [rowsU_len,Gr.maskL_len]
  have hth : ∀ c,c<g.msk.length->Den Γ G 316 [.t (grT cs ms ls ts model g),vi c]=some (vi (g.thr c)):=by
   intro c hc
   have h0:0<cs.length+ts.length:=by
    have e:g.sz=2*(cs.length+ts.length):=by unfold Gr.sz; rw [ha.nc,ha.nt]
    apply Classical.byContradiction; intro h
    have:g.sz=0:=by omega
    rw [this] at hml; omega
   have:=gthread_den cs ms ls ts (.int .i64 model :: .sl (g.all.map Acc.enc)::ints (g.cls.map fun c:Nat=>(c:Int))::u64s g.msk::restT g) c (by have:=ha.cl; omega) (by have:=ha.nt; have:=ha.nt4; omega) h0 (by omega)
   rw [<- ha.nc, <- ha.nt] at this
   exact this
  have hz0 : ∀ m:Nat,(((m:Nat):Int)=0)=(m=0):=fun m=>by simp
  have hdv : ∀ c:Nat,c<g.msk.length->IntKind.i64.wrap (((c:Nat):Int).tdiv 2)=((c / 2:Nat):Int):=by
   intro c hc
   rw [Int.tdiv_eq_ediv_of_nonneg (by omega),wrap64 (by omega)]; push_cast; rfl
  simp -dsimp -implicitDefEqProofs only [go_sem,seval,hE,hle]
  refine loopYH 5444517870735015413052810477473468777344 g.msk.length (fun i f h x=>(f 71).v=vi i/\h 6=some (.rows 1 (rowsU (g.maskL g.ear g.all.length)) false)/\h 12=some (.rows 1 (rowsU (g.maskL g.lat g.all.length)) false)/\OwnB h x (f 7).v 2 (rowsP (g.pairsN i))/\13<=x) rfl ⟨by simp -dsimp -implicitDefEqProofs only [go_sem,seval],by simp -dsimp -implicitDefEqProofs only [go_sem,seval,hE],by simp -dsimp -implicitDefEqProofs only [go_sem,seval,hL], .inl ⟨by simp -dsimp -implicitDefEqProofs only [go_sem,seval],rfl⟩,by (try simp -dsimp -implicitDefEqProofs only [go_sem,seval]) <;> omega⟩ ?_
  clear hE hL hz h27
  rintro i f u H z bs hi ⟨h71,hE,hL,hO,hz⟩
  have hw:=wrapS i (by omega)
  simp -dsimp -implicitDefEqProofs only [go_sem,seval,h71]
  refine csplit (fun h => ?_) (fun h => ?_) <;> (try rw [h]) <;> (try simp only [bools] at h) <;> (try simp -dsimp -implicitDefEqProofs only [go_sem,seval,h71])
  ·have hic:i<g.msk.length:=by assumption
   simp -dsimp -implicitDefEqProofs only [go_sem,seval,h71,hL,hll]
   refine loopYH 2722258935367507632149133133539822273152 g.msk.length (fun j f h x=>(f 76).v=vi j/\h 6=some (.rows 1 (rowsU (g.maskL g.ear g.all.length)) false)/\h 12=some (.rows 1 (rowsU (g.maskL g.lat g.all.length)) false)/\OwnB h x (f 7).v 2 (rowsP (g.pairsN i++g.pairsI i j))/\13<=x) rfl ⟨by simp -dsimp -implicitDefEqProofs only [go_sem,seval],by simp -dsimp -implicitDefEqProofs only [go_sem,seval,hE],by simp -dsimp -implicitDefEqProofs only [go_sem,seval,hL],by rw [show g.pairsI i 0=[] from rfl,List.append_nil]; (try simp -dsimp -implicitDefEqProofs only [go_sem,seval]); exact hO.le (by (try simp -dsimp -implicitDefEqProofs only [go_sem,seval]) <;> omega),by (try simp -dsimp -implicitDefEqProofs only [go_sem,seval]) <;> omega⟩ ?_
   rintro j f2 u2 H2 z2 bs2 hj ⟨h76,hE2,hL2,hO2,hz2⟩
   have hw2:=wrapS j (by omega)
   simp -dsimp -implicitDefEqProofs only [go_sem,seval,h76]
   refine csplit (fun h => ?_) (fun h => ?_) <;> (try rw [h]) <;> (try simp only [bools] at h) <;> (try simp -dsimp -implicitDefEqProofs only [go_sem,seval,h76])
   ·have hjc:j<g.msk.length:=by assumption
    have hre:=rowsU_at (Gr.maskL_at (g:=g) g.ear g.all.length hic)
    have hrl:=rowsU_at (Gr.maskL_at (g:=g) g.lat g.all.length hjc)
    have hci:(i<g.msk.length)=True:=by simp [hic]
    have hcj:(j<g.msk.length)=True:=by simp [hjc]
    have hsucc:=Gr.pairsI_succ (g:=g) i j
    have ht1:=hth i hic
    have ht2:=hth j hjc
    have hd1:=hdv i hic
    have hd2:=hdv j hjc
    simp -dsimp -implicitDefEqProofs only [go_sem,seval,h71,h76,hE2,hre,hle,hci,hL2,hrl,hll,hcj,hz0,ht1,ht2,hd1,hd2,natE]
    refine csplit (fun h => ?_) (fun h => ?_) <;> (try rw [h]) <;> (try simp only [bools] at h) <;> (try simp -dsimp -implicitDefEqProofs only [go_sem,seval,h71,h76,hE2,hre,hle,hci,hL2,hrl,hll,hcj,hz0,ht1,ht2,hd1,hd2,natE])
    ·have hnp:g.isPair i j=false:=by
      cases hp:g.isPair i j
      ·rfl
      ·obtain ⟨k1,k2,k3,k4,k5⟩:=Gr.isPair_iff.1 hp
       exact absurd h (k1)
     rw [hnp] at hsucc
     simp only [Bool.false_eq_true,if_false,List.append_nil] at hsucc
     rw [hsucc]
     exact ⟨by omega,by simp -dsimp -implicitDefEqProofs only [go_sem,seval,h76,hw2],by simp -dsimp -implicitDefEqProofs only [go_sem,seval,hE2],by simp -dsimp -implicitDefEqProofs only [go_sem,seval,hL2],by (try simp -dsimp -implicitDefEqProofs only [go_sem,seval]); exact hO2.le (by (try simp -dsimp -implicitDefEqProofs only [go_sem,seval]) <;> omega),by (try simp -dsimp -implicitDefEqProofs only [go_sem,seval]) <;> omega⟩
    ·refine csplit (fun h => ?_) (fun h => ?_) <;> (try rw [h]) <;> (try simp only [bools] at h) <;> (try simp -dsimp -implicitDefEqProofs only [go_sem,seval,h71,h76,hE2,hre,hle,hci,hL2,hrl,hll,hcj,hz0,ht1,ht2,hd1,hd2,natE])
     ·have hnp:g.isPair i j=false:=by
       cases hp:g.isPair i j
       ·rfl
       ·obtain ⟨k1,k2,k3,k4,k5⟩:=Gr.isPair_iff.1 hp
        exact absurd h (k2)
      rw [hnp] at hsucc
      simp only [Bool.false_eq_true,if_false,List.append_nil] at hsucc
      rw [hsucc]
      exact ⟨by omega,by simp -dsimp -implicitDefEqProofs only [go_sem,seval,h76,hw2],by simp -dsimp -implicitDefEqProofs only [go_sem,seval,hE2],by simp -dsimp -implicitDefEqProofs only [go_sem,seval,hL2],by (try simp -dsimp -implicitDefEqProofs only [go_sem,seval]); exact hO2.le (by (try simp -dsimp -implicitDefEqProofs only [go_sem,seval]) <;> omega),by (try simp -dsimp -implicitDefEqProofs only [go_sem,seval]) <;> omega⟩
     ·refine csplit (fun h => ?_) (fun h => ?_) <;> (try rw [h]) <;> (try simp only [bools] at h) <;> (try simp -dsimp -implicitDefEqProofs only [go_sem,seval,h71,h76,hE2,hre,hle,hci,hL2,hrl,hll,hcj,hz0,ht1,ht2,hd1,hd2,natE])
      ·have hnp:g.isPair i j=false:=by
        cases hp:g.isPair i j
        ·rfl
        ·obtain ⟨k1,k2,k3,k4,k5⟩:=Gr.isPair_iff.1 hp
         exact absurd h (fun h=>h k3)
       rw [hnp] at hsucc
       simp only [Bool.false_eq_true,if_false,List.append_nil] at hsucc
       rw [hsucc]
       exact ⟨by omega,by simp -dsimp -implicitDefEqProofs only [go_sem,seval,h76,hw2],by simp -dsimp -implicitDefEqProofs only [go_sem,seval,hE2],by simp -dsimp -implicitDefEqProofs only [go_sem,seval,hL2],by (try simp -dsimp -implicitDefEqProofs only [go_sem,seval]); exact hO2.le (by (try simp -dsimp -implicitDefEqProofs only [go_sem,seval]) <;> omega),by (try simp -dsimp -implicitDefEqProofs only [go_sem,seval]) <;> omega⟩
      ·refine csplit (fun h => ?_) (fun h => ?_) <;> (try rw [h]) <;> (try simp only [bools] at h) <;> (try simp -dsimp -implicitDefEqProofs only [go_sem,seval,h71,h76,hE2,hre,hle,hci,hL2,hrl,hll,hcj,hz0,ht1,ht2,hd1,hd2,natE])
       ·have hnp:g.isPair i j=false:=by
         cases hp:g.isPair i j
         ·rfl
         ·obtain ⟨k1,k2,k3,k4,k5⟩:=Gr.isPair_iff.1 hp
          exact absurd h (k4)
        rw [hnp] at hsucc
        simp only [Bool.false_eq_true,if_false,List.append_nil] at hsucc
        rw [hsucc]
        exact ⟨by omega,by simp -dsimp -implicitDefEqProofs only [go_sem,seval,h76,hw2],by simp -dsimp -implicitDefEqProofs only [go_sem,seval,hE2],by simp -dsimp -implicitDefEqProofs only [go_sem,seval,hL2],by (try simp -dsimp -implicitDefEqProofs only [go_sem,seval]); exact hO2.le (by (try simp -dsimp -implicitDefEqProofs only [go_sem,seval]) <;> omega),by (try simp -dsimp -implicitDefEqProofs only [go_sem,seval]) <;> omega⟩
       ·have hti:g.thr i<g.nt:=by
         have hszp:0<g.sz:=by
          apply Classical.byContradiction; intro h
          have:g.sz=0:=by omega
          rw [this] at hml; omega
         rw [Gr.thr,Nat.div_lt_iff_lt_mul hszp, <- hml]; exact hic
        have ht4:((g.thr i:Int)<4)=True:=by have:=ha.nt4; simp; omega
        have hqr:=rest_qrow g (t:=g.thr i) (by have:=ha.nt4; omega) (hg.qk_row _ hti)
        have hql:=hg.qk_row _ hti
        have hl:=rest_len g
        have hc1:(64<=(List.drop (g.thr i*64) (List.drop 256 (restT g))).length)=True:=by have:=ha.nt4; simp [hl]; omega
        have hqb : ∀ x∈g.qk.getD (g.thr i) [],x<2^64:=by
         intro x hx
         obtain ⟨n,hn,rfl⟩:=List.mem_iff_getElem.1 hx
         have:=hg.qk_lt (g.thr i) n
         rw [Gr.qkAt,List.getD_eq_getElem?_getD,List.getElem?_eq_getElem hn] at this
         exact this
        have hmd:=meets_den (g.maskF g.ear i g.all.length) (g.maskF g.lat j g.all.length) _ hql (Gr.maskF_lt hg _ _ _ (Nat.le_refl _)) (Gr.maskF_lt hg _ _ _ (Nat.le_refl _)) hqb
        have htt:=arr_toT H2 1000 (g.qk.getD (g.thr i) [])
        have hlr:(arr (g.qk.getD (g.thr i) [])).length=64:=by rw [arr_len,hql]
        have hpr:g.isPair i j=meetsM (g.maskF g.ear i g.all.length) (g.maskF g.lat j g.all.length) (g.qk.getD (g.thr i) []):=by
         unfold Gr.isPair Gr.eaM Gr.laM
         simp_all
        have ear:arr (g.qk.getD (g.thr i) [])=List.map V.t (List.map (fun x:Nat=>T.int .u64 x) (g.qk.getD (g.thr i) [])):=by simp [arr]
        have hmd2:Den Γ G 320 [.t (.int .u64 (g.maskF g.ear i g.all.length)), .t (.int .u64 (g.maskF g.lat j g.all.length)), .agg (List.map V.t (List.map (fun x:Nat=>T.int .u64 x) (g.qk.getD (g.thr i) [])))]=some (vb (g.isPair i j)):=by
         rw [hpr, <- ear]; exact hmd
        simp -dsimp -implicitDefEqProofs only [go_sem,seval,ht4,hc1,hqr,htt,hlr,hmd2]
        cases hp:g.isPair i j
        ·rw [hp] at hsucc
         simp only [Bool.false_eq_true,if_false,List.append_nil] at hsucc
         rw [hsucc]
         simp -dsimp -implicitDefEqProofs only [go_sem,seval,h76]
         exact ⟨by omega,by simp -dsimp -implicitDefEqProofs only [go_sem,seval,h76,hw2],by simp -dsimp -implicitDefEqProofs only [go_sem,seval,hE2],by simp -dsimp -implicitDefEqProofs only [go_sem,seval,hL2],by (try simp -dsimp -implicitDefEqProofs only [go_sem,seval]); exact hO2.le (by (try simp -dsimp -implicitDefEqProofs only [go_sem,seval]) <;> omega),by (try simp -dsimp -implicitDefEqProofs only [go_sem,seval]) <;> omega⟩
        ·rw [hp,if_pos rfl] at hsucc
         have v1:=hO2.valOf
         have v3:=hO2.r5
         have hln:(rowsP (g.pairsN i++g.pairsI i j)).length<2^32:=by
          rw [rowsP_len,List.length_append]
          have h1:=Gr.pairsN_len (g:=g) i
          have h2:=Gr.pairsI_len (g:=g) i j
          have h3:i*g.msk.length<=288*288:=Nat.mul_le_mul (by omega) (by omega)
          omega
         simp -dsimp -implicitDefEqProofs only [go_sem,seval,h71,h76,v1,v3]
         refine putA_app1 (hO2.upd (by omega) _) (by omega) hln (by decide) rfl (rowsP_all _) ?_
         intro v hp hO hoffs hkeep
         have w1:=hO.valOf
         have y6:=hkeep 6 (by omega) (hO2.offR hE2 (by decide))
         have y12:=hkeep 12 (by omega) (hO2.offR hL2 (by decide))
         rw [updC_at,if_neg (by omega),hE2] at y6
         rw [updC_at,if_neg (by omega),hL2] at y12
         rw [show [[V.t (T.int IntKind.i64 (i:Int)),V.t (T.int IntKind.i64 (j:Int))]]=rowsP [(i,j)] from rfl,rowsP_app,List.append_assoc, <- hsucc] at hO
         simp -dsimp -implicitDefEqProofs only [go_sem,seval,w1,h76]
         exact ⟨by omega,by simp -dsimp -implicitDefEqProofs only [go_sem,seval,h76,hw2],by simp -dsimp -implicitDefEqProofs only [go_sem,seval,y6],by simp -dsimp -implicitDefEqProofs only [go_sem,seval,y12],by (try simp -dsimp -implicitDefEqProofs only [go_sem,seval]); exact hO.le (by (try simp -dsimp -implicitDefEqProofs only [go_sem,seval]) <;> omega),by (try simp -dsimp -implicitDefEqProofs only [go_sem,seval]) <;> omega⟩
   ·have hjn:j=g.msk.length:=by omega
    subst hjn
    rw [<- Gr.pairsN_succ] at hO2
    simp -dsimp -implicitDefEqProofs only [go_sem,seval,h71]
    exact ⟨by omega,by simp -dsimp -implicitDefEqProofs only [go_sem,seval,hw],by simp -dsimp -implicitDefEqProofs only [go_sem,seval,hE2],by simp -dsimp -implicitDefEqProofs only [go_sem,seval,hL2],by (try simp -dsimp -implicitDefEqProofs only [go_sem,seval]); exact hO2.le (by (try simp -dsimp -implicitDefEqProofs only [go_sem,seval]) <;> omega),by (try simp -dsimp -implicitDefEqProofs only [go_sem,seval]) <;> omega⟩
  ·have hin:i=g.msk.length:=by omega
   subst hin
   rw [Gr.pairsN_all] at hO
   have v1:=hO.valOf
   have hre:=hO.reify (pair_norm _)
   have v5:=hO.resVal
   simp only [Rg.resVal] at v5
   simp -dsimp -implicitDefEqProofs only [go_sem,seval,v1,v5]
   exact hre
end Rg
end
