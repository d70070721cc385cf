/- Part of the proof of the laws of the package relyguardlaw30: an abstract machine for the program's functions, what they compute, and that the machine is the program's. No condition. (H43c H43d H43e H43f) -/
import Derived.Test.YtcgkpboneipghaaGreatDoorPartBD
import Derived.Test.YtcgkpboneipghaaGreatDoorPartAZ
set_option linter.unusedSimpArgs false
set_option linter.unusedVariables false
section
namespace Rg
open Go
theorem i_bv {x:Nat} (hx:x<2^62):(BitVec.ofInt 64 (x:Int)).toNat=x:=by simp [BitVec.toNat_ofInt]; omega
theorem i_or {a b:Nat} (ha:a<2^62) (hb:b<2^62):IntKind.i64.wrap ((BitVec.ofInt IntKind.i64.bits (a:Int) ||| BitVec.ofInt IntKind.i64.bits (b:Int)).toNat:Int)=((a ||| b:Nat):Int):=by
 show IntKind.i64.wrap ((BitVec.ofInt 64 (a:Int) ||| BitVec.ofInt 64 (b:Int)).toNat:Int)=_
 have:=Nat.or_lt_two_pow ha hb
 rw [BitVec.toNat_or,i_bv ha,i_bv hb,wrap64 (by omega)]
theorem i_and1 {a:Nat} (ha:a<2^62):IntKind.i64.wrap ((BitVec.ofInt IntKind.i64.bits (a:Int) &&& BitVec.ofInt IntKind.i64.bits 1).toNat:Int)=((a &&& 1:Nat):Int):=by
 show IntKind.i64.wrap ((BitVec.ofInt 64 (a:Int) &&& BitVec.ofInt 64 ((1:Nat):Int)).toNat:Int)=_
 have:a &&& 1<=a:=Nat.and_le_left
 rw [BitVec.toNat_and,i_bv ha,i_bv (by omega),wrap64 (by omega)]
theorem i_shl {i:Nat} (h:i<62):(if (i:Int)<0 then none else some (T.int .i64 (IntKind.i64.wrap (1*2^min i 64))))=some (T.int .i64 ((1 <<< i:Nat):Int)):=by
 rw [if_neg (by omega),Nat.min_eq_left (by omega)]
 have e:(1*2^i:Int)=((1 <<< i:Nat):Int):=by rw [Nat.one_shiftLeft]; push_cast; omega
 have h2:(1 <<< i:Nat)<2^62:=by rw [Nat.one_shiftLeft]; exact Nat.pow_lt_pow_right (by omega) h
 rw [e]
 generalize (1 <<< i:Nat)=q at h2 ⊢
 rw [wrap64 (by omega)]
theorem i_shr (a i:Nat) (h:i<=64):(if (i:Int)<0 then none else some (T.int .i64 ((a:Int).fdiv (2^min i 64))))=some (T.int .i64 ((a >>> i:Nat):Int)):=by
 rw [if_neg (by omega),Nat.min_eq_left h]
 congr 2
 rw [Nat.shiftRight_eq_div_pow,Int.fdiv_eq_ediv_of_nonneg _ (by exact Int.le_of_lt (Int.pow_pos (by omega)))]
 simp
def keyT (goal c m r:Nat):T:=.sl [[ti goal,ti c,ti m,ti r]]
def MemoOk (g:Gr) (es:List (T×V)):Prop := ∀ e∈es, ∃ goal c m r:Nat,e.1=keyT goal c m r/\e.2=vb (g.ends r goal c m)
theorem key_eq (a b c d a' b' c' d' : Nat):keyEq (keyT a b c d) (keyT a' b' c' d')=some (decide (a=a' /\ b=b' /\ c=c' /\ d=d')):=by
 have h : ∀ x y:Nat,(((x:Int)==(y:Int)):Bool)=decide (x=y):=by intro x y; rw [beqI]; simp [Int.ofNat_inj]
 simp only [keyT,keyEq,keyEqs,keyEq1,if_true,h,Option.bind_eq_bind,Option.bind_some,Bool.and_true,Bool.decide_and]
theorem memo_find {g:Gr} (goal c m r:Nat) : ∀ {es:List (T×V)},MemoOk g es->mapFind (keyT goal c m r) es=some none\/mapFind (keyT goal c m r) es=some (some (vb (g.ends r goal c m)))
 | [],_ => .inl rfl
 | e::es,h=>by
   obtain ⟨a,b,c',d,h1,h2⟩:=h e List.mem_cons_self
   obtain ⟨k,v⟩:=e
   simp only at h1 h2
   subst h1 h2
   simp only [mapFind,key_eq]
   by_cases he:goal=a/\c=b/\m=c' /\ r=d
   ·rw [decide_eq_true he]
    obtain ⟨rfl,rfl,rfl,rfl⟩:=he
    exact .inr rfl
   ·rw [decide_eq_false he]
    exact memo_find goal c m r fun e he=>h e (List.mem_cons_of_mem _ he)
theorem memo_put {g:Gr} (goal c m r:Nat) : ∀ {es:List (T×V)},MemoOk g es -> ∃ es',mapPut (keyT goal c m r) (vb (g.ends r goal c m)) es=some es' /\ MemoOk g es'
 | [],_=>⟨_,rfl,fun e he=>by rw [List.mem_singleton.1 he]; exact ⟨goal,c,m,r,rfl,rfl⟩⟩
 | e::es,h=>by
   obtain ⟨a,b,c',d,h1,h2⟩:=h e List.mem_cons_self
   obtain ⟨k,v⟩:=e
   simp only at h1 h2
   subst h1 h2
   simp only [mapPut,key_eq]
   by_cases he:goal=a/\c=b/\m=c' /\ r=d
   ·rw [decide_eq_true he]
    refine ⟨_,rfl,fun e he' => ?_⟩
    rcases List.mem_cons.1 he' with rfl | h1
    ·exact ⟨goal,c,m,r,rfl,rfl⟩
    ·exact h e (List.mem_cons_of_mem _ h1)
   ·rw [decide_eq_false he]
    obtain ⟨es',h1,h2⟩:=memo_put goal c m r (es:=es) fun e he=>h e (List.mem_cons_of_mem _ he)
    refine ⟨_,by rw [h1]; rfl,fun e he' => ?_⟩
    rcases List.mem_cons.1 he' with rfl | h3
    ·exact h _ List.mem_cons_self
    ·exact h2 e h3
structure GrB (H:Nat->Option O) (kG kM kn:Nat) (cv:V) (p:Prog) (model:Int) (g:Gr) (f1 f2:Bool):Prop where
 row:H kG=some (.rows 521 [rowG (p.cells.map Cell.enc) (p.modules.map Contract.enc) (p.locks.map Lock.enc) (p.threads.map Thread.enc) model (g.all.map Acc.enc) cv (.ms kM 0 g.msk.length) g.ldAt g.qkAt kn] f1)
 cls:Shw H cv 1 (g.cls.map fun c:Nat=>[ti c])
 msk:H kM=some (.rows 1 (rowsU g.msk) f2)
 neG:kG≠kn
 neM:kM≠kn
 off:offK cv kn
 ok:g.Ok
 nt4:g.nt<=4
 nc:g.nc=p.cells.length
 cl:p.cells.length<=32
 nt:g.nt=p.threads.length
noncomputable def HM (H:Nat->Option O) (kn:Nat) (es:List (T×V)):Nat->Option O:=updC H kn (some (.map es))
theorem HM_upd (H:Nat->Option O) (kn:Nat) (es es' : List (T×V)):updC (HM H kn es) kn (some (.map es'))=HM H kn es' := by
 funext k
 simp only [HM,updC_at]
 split <;> rfl
theorem HM_at (H:Nat->Option O) (kn:Nat) (es:List (T×V)):HM H kn es kn=some (.map es):=by rw [HM,updC_at,if_pos rfl]
theorem HM_ne (H:Nat->Option O) {k kn:Nat} (es:List (T×V)) (h:k≠kn):HM H kn es k=H k:=by rw [HM,updC_at,if_neg h]
namespace GrB
variable {H:Nat->Option O} {kG kM kn:Nat} {cv:V} {p:Prog} {model:Int} {g:Gr} {f1 f2:Bool} (b:GrB H kG kM kn cv p model g f1 f2)
include b
theorem rowM (es:List (T×V)):HM H kn es kG=some (.rows 521 [rowG (p.cells.map Cell.enc) (p.modules.map Contract.enc) (p.locks.map Lock.enc) (p.threads.map Thread.enc) model (g.all.map Acc.enc) cv (.ms kM 0 g.msk.length) g.ldAt g.qkAt kn] f1):=by rw [HM_ne _ _ b.neG,b.row]
theorem mskM (es:List (T×V)):HM H kn es kM=some (.rows 1 (rowsU g.msk) f2):=by rw [HM_ne _ _ b.neM,b.msk]
theorem clsM (es:List (T×V)):Shw (HM H kn es) cv 1 (g.cls.map fun c:Nat=>[ti c]):=by
 rcases b.cls with h | ⟨k,f,rfl,hk⟩
 ·exact .inl h
 ·refine .inr ⟨k,f,rfl, ?_⟩
  have:k≠kn:=by rintro rfl; exact b.off _ _ rfl
  rw [HM_ne _ _ this]; exact hk
theorem tree (es:List (T×V)):toT1 (HM H kn es) (.mp kG 0 0)=some (.t (grT (p.cells.map Cell.enc) (p.modules.map Contract.enc) (p.locks.map Lock.enc) (p.threads.map Thread.enc) model g)):=by
 have:=graph_toT (b.rowM es) (b.clsM es) (by
  intro e he t ht
  obtain ⟨y,_,rfl⟩:=List.mem_map.1 he
  simp only [List.mem_cons,List.not_mem_nil,or_false] at ht
  rw [ht]; rfl) (msk_shw (b.mskM es) rfl) (u64_norm _) (HM_at H kn es)
 rw [this]
 simp only [grT,ints,List.map_map,restT]
 rfl
theorem szL:g.msk.length<=4*72:=by
 have h1:=b.nt4
 have h2:=b.nc
 have h3:=b.cl
 rw [b.ok.msk_len]
 exact Nat.mul_le_mul b.nt4 (by unfold Gr.sz; omega)
theorem szE:g.sz=2*(p.cells.length+p.threads.length):=by unfold Gr.sz; rw [b.nc,b.nt]
theorem pos {c:Nat} (hc:c<g.msk.length):0<p.cells.length+p.threads.length:=by
 have h1:=b.ok.msk_len
 have h2:=b.szE
 apply Classical.byContradiction; intro h
 have:g.sz=0:=by omega
 rw [this] at h1; omega
theorem thr_lt {c:Nat} (hc:c<g.msk.length):g.thr c<4:=by
 have h1:=b.ok.msk_len
 have h2:=b.szE
 have h3:=b.pos hc
 have:g.thr c<g.nt:=by rw [Gr.thr,Nat.div_lt_iff_lt_mul (by omega), <- h1]; exact hc
 have:=b.nt4
 omega
theorem thr_den {c:Nat} (hc:c<g.msk.length):Den Γ G 316 [.t (grT (p.cells.map Cell.enc) (p.modules.map Contract.enc) (p.locks.map Lock.enc) (p.threads.map Thread.enc) model g),vi c]=some (vi (g.thr c)):=by
 have h0:=b.pos hc
 have h1:=b.szL
 have h2:=b.cl
 have h3:=b.nt4
 have h4:=b.nt
 have:=gthread_den (p.cells.map Cell.enc) (p.modules.map Contract.enc) (p.locks.map Lock.enc) (p.threads.map Thread.enc) (.int .i64 model :: .sl (g.all.map Acc.enc)::ints (g.cls.map fun c:Nat=>(c:Int))::u64s g.msk::restT g) c (by simp; omega) (by simp; omega) (by simpa using h0) (by omega)
 simp only [List.length_map] at this
 rw [<- b.szE] at this
 exact this
theorem pr_den {c d:Nat} (hc:c<g.msk.length) (hd:d<g.msk.length):Den Γ G 321 [.t (grT (p.cells.map Cell.enc) (p.modules.map Contract.enc) (p.locks.map Lock.enc) (p.threads.map Thread.enc) model g),vi c,vi d]=some (vb (g.prec c d)):=by
 have h0:=b.pos hc
 have h1:=b.szL
 have h2:=b.cl
 have h3:=b.nt4
 have h4:=b.nt
 have:=prec_den (p.cells.map Cell.enc) (p.modules.map Contract.enc) (p.locks.map Lock.enc) (p.threads.map Thread.enc) (.int .i64 model :: .sl (g.all.map Acc.enc)::ints (g.cls.map fun c:Nat=>(c:Int))::u64s g.msk::restT g) c d (by simp; omega) (by simp; omega) (by simpa using h0) (by omega) (by omega)
 simp only [List.length_map] at this
 rw [<- b.nc, <- b.nt] at this
 exact this
theorem cp_den {c d:Nat} (hc:c<g.msk.length) (hd:d<g.msk.length):Den Γ G 325 [.t (grT (p.cells.map Cell.enc) (p.modules.map Contract.enc) (p.locks.map Lock.enc) (p.threads.map Thread.enc) model g),vi c,vi d]=some (vb (g.couple c d)):=by
 have h2:=b.cl
 exact couple_den _ _ _ _ model g b.ok b.nt4 (by simp [b.nc]) (by simp; omega) (by simp [b.nt]) c d hc hd
end GrB
def PE (H:Nat->Option O) (kG kn:Nat) (g:Gr) (r:Nat):Prop := ∀ (goal c m:Nat) (es:List (T×V)) (n:Nat),goal<g.msk.length->c<g.msk.length->m<16->MemoOk g es ->
 ∃ rr h' n',DenR Γ G 315 [.mp kG 0 0,vi goal,vi c,vi m,vi r] (HM H kn es) n=some (rr,h',n')/\rr=vb (g.ends r goal c m) /\ ∃ es',MemoOk g es' /\ h' = HM H kn es'
def PO (H:Nat->Option O) (kG kn:Nat) (g:Gr) (r:Nat):Prop := ∀ (goal c m:Nat) (es:List (T×V)) (n:Nat),goal<g.msk.length->c<g.msk.length->m<16->MemoOk g es ->
 ∃ rr h' n',DenR Γ G 322 [.mp kG 0 0,vi goal,vi c,vi m,vi r] (HM H kn es) n=some (rr,h',n')/\rr=vb (g.opens r goal c m) /\ ∃ es',MemoOk g es' /\ h' = HM H kn es'
set_option maxHeartbeats 2000000
theorem opens_of {H:Nat->Option O} {kG kM kn:Nat} {cv:V} {p:Prog} {model:Int} {g:Gr} {f1 f2:Bool} (b:GrB H kG kM kn cv p model g f1 f2) {r:Nat} (hr:r<100) (h1:PE H kG kn g r) (h2:0<r->PE H kG kn g (r-1)):PO H kG kn g r:=by
 intro goal c m es n hg hc hm hes
 (refine denR_ofY Γ322 rfl ?_; dsimp only [f322])
 simp -dsimp -implicitDefEqProofs only [go_sem,seval]
 refine rawK_of (h1 goal c m es _ hg hc hm hes) ?_
 rintro _ h' n' ⟨rfl,es1,hes1,rfl⟩
 cases he:g.ends r goal c m
 ·simp -dsimp -implicitDefEqProofs only [go_sem,seval]
  have hM:=b.mskM es1
  have hG:=b.rowM es1
  have hop:g.opens r goal c m=(decide (0<r)&&(List.range g.msk.length).any fun e=>decide (g.thr e=g.thr c)&&(g.couple c e&&g.ends (r-1) goal e m)):=by
   unfold Gr.opens; rw [he,Bool.false_or]
  have hsz:=b.szL
  have hlen:(rowsU g.msk).length=g.msk.length:=rowsU_len _
  simp -dsimp -implicitDefEqProofs only [go_sem,seval,hG,hM]
  refine loopYH 9007199246355456 g.msk.length (fun i f h x=>(f 23).v=vi i/\(∃ es,MemoOk g es/\h=HM H kn es)/\g.opens r goal c m=(decide (0<r)&&(((List.range g.msk.length).drop i).any fun e=>decide (g.thr e=g.thr c)&&(g.couple c e&&g.ends (r-1) goal e m)))) rfl ⟨by simp -dsimp -implicitDefEqProofs only [go_sem,seval],⟨es1,hes1,rfl⟩,hop⟩ ?_
  clear hM hG hes hes1
  rintro i f u h x bs hi ⟨h23,⟨es2,hes2,rfl⟩,hany⟩
  have hw:=wrapS i (by omega)
  simp -dsimp -implicitDefEqProofs only [go_sem,seval,h23]
  refine csplit (fun h => ?_) (fun h => ?_) <;> (try rw [h]) <;> (try simp only [bools] at h) <;> (try simp -dsimp -implicitDefEqProofs only [go_sem,seval,h23])
  ·have hic:i<g.msk.length:=by assumption
   have hT:=b.tree es2
   have ht1:=b.thr_den hic
   have ht2:=b.thr_den hc
   have hcp:=b.cp_den hc hic
   have hri:(List.range g.msk.length)[i]? = some i:=List.getElem?_range hic
   by_cases hr0:0<r
   ·have hr1:((r:Int)>0)=True:=by simp; omega
    have hr2:IntKind.i64.wrap ((r:Int)-1)=((r-1:Nat):Int):=by rw [wrap64 (by omega)]; omega
    rw [decide_eq_true hr0,Bool.true_and] at hany ⊢
    simp -dsimp -implicitDefEqProofs only [go_sem,seval,hr1,h23, ↓hT,ht1,ht2,hcp,natE]
    by_cases hth:g.thr i=g.thr c
    ·simp -dsimp -implicitDefEqProofs only [go_sem,seval,hth,h23, ↓hT,ht1,ht2,hcp,natE]
     cases hco:g.couple c i
     ·simp -dsimp -implicitDefEqProofs only [go_sem,seval,h23]
      exact ⟨by omega,by simp -dsimp -implicitDefEqProofs only [go_sem,seval,h23,hw],⟨es2,hes2,rfl⟩,by rw [hany,any_step hri (by rw [hco]; simp)]⟩
     ·simp -dsimp -implicitDefEqProofs only [go_sem,seval,h23,hr2]
      refine rawK_of (h2 hr0 goal i m es2 _ hg hic hm hes2) ?_
      rintro _ h' n' ⟨rfl,es3,hes3,rfl⟩
      simp -dsimp -implicitDefEqProofs only [go_sem,seval,h23]
      cases hen:g.ends (r-1) goal i m
      ·simp -dsimp -implicitDefEqProofs only [go_sem,seval,h23]
       exact ⟨by omega,by simp -dsimp -implicitDefEqProofs only [go_sem,seval,h23,hw],⟨es3,hes3,rfl⟩,by rw [hany,any_step hri (by rw [hen]; simp)]⟩
      ·simp -dsimp -implicitDefEqProofs only [go_sem,seval,h23]
       exact ⟨by rw [hany,any_stop hri (by rw [hen,hco,hth]; simp)]; rfl,es3,hes3,rfl⟩
    ·have hth' : (g.thr i=g.thr c)=False:=by simp [hth]
     simp -dsimp -implicitDefEqProofs only [go_sem,seval,hth',h23]
     exact ⟨by omega,by simp -dsimp -implicitDefEqProofs only [go_sem,seval,h23,hw],⟨es2,hes2,rfl⟩,by rw [hany,any_step hri (by simp [hth])]⟩
   ·have hr1:((r:Int)>0)=False:=by simp; omega
    simp -dsimp -implicitDefEqProofs only [go_sem,seval,hr1,h23]
    rw [decide_eq_false hr0,Bool.false_and] at hany
    exact ⟨by omega,by simp -dsimp -implicitDefEqProofs only [go_sem,seval,h23,hw],⟨es2,hes2,rfl⟩,by rw [hany,decide_eq_false hr0,Bool.false_and]⟩
  ·have hin:i=g.msk.length:=by omega
   subst hin
   have hrn:=any_end (fun e=>decide (g.thr e=g.thr c)&&(g.couple c e&&g.ends (r-1) goal e m)) (List.range g.msk.length)
   rw [List.length_range] at hrn
   rw [hrn,Bool.and_false] at hany
   exact ⟨by rw [hany]; rfl,es2,hes2,rfl⟩
 ·simp -dsimp -implicitDefEqProofs only [go_sem,seval]
  exact ⟨by unfold Gr.opens; rw [he,Bool.true_or]; rfl,es1,hes1,rfl⟩
theorem mask_lt {m t:Nat} (hm:m<16) (ht:t<4):m ||| 1 <<< t<16:=by
 have h1:1 <<< t<2^4:=by rw [Nat.one_shiftLeft]; exact Nat.pow_lt_pow_right (by omega) ht
 exact Nat.or_lt_two_pow (n:=4) hm h1
theorem ends_zero {H:Nat->Option O} {kG kM kn:Nat} {cv:V} {p:Prog} {model:Int} {g:Gr} {f1 f2:Bool} (b:GrB H kG kM kn cv p model g f1 f2):PE H kG kn g 0:=by
 intro goal c m es n hg hc hm hes
 have hT:=b.tree es
 have hp:=b.pr_den hc hg
 (refine denR_ofY Γ315 rfl ?_; dsimp only [f315])
 simp -dsimp -implicitDefEqProofs only [go_sem,seval, ↓hT,hp]
 exact ⟨rfl,es,hes,rfl⟩
theorem ends_of {H:Nat->Option O} {kG kM kn:Nat} {cv:V} {p:Prog} {model:Int} {g:Gr} {f1 f2:Bool} (b:GrB H kG kM kn cv p model g f1 f2) {r:Nat} (hr:r<100) (h1:PO H kG kn g r):PE H kG kn g (r+1):=by
 intro goal c m es n hg hc hm hes
 have hT:=b.tree es
 have hG:=b.rowM es
 have hM:=b.mskM es
 have hK:=HM_at H kn es
 have hr0:(((r+1:Nat):Int)=0)=False:=by simp; omega
 have hkey:keyOf 88 (.agg [vi goal,vi c,vi m,vi ((r+1:Nat):Int)])=some (keyT goal c m (r+1)):=rfl
 have hrl:=restV_len g.ldAt g.qkAt kn
 have hd2:List.drop 512 (restV g.ldAt g.qkAt kn)=[.mm kn]:=by
  rw [restV,List.drop_append_of_le_length (by rw [List.length_append,rowsV_len,rowsV_len]; omega),List.drop_of_length_le (by rw [List.length_append,rowsV_len,rowsV_len]; omega)]; rfl
 (refine denR_ofY Γ315 rfl ?_; dsimp only [f315])
 simp -dsimp -implicitDefEqProofs only [go_sem,seval,hr0,hG,hd2,hrl,hkey,hK]
 rcases memo_find goal c m (r+1) hes with hf | hf
 ·have hsz:=b.szL
  have hlen:(rowsU g.msk).length=g.msk.length:=rowsU_len _
  have hsu:=Gr.ends_succ g r goal c m
  simp -dsimp -implicitDefEqProofs only [go_sem,seval,hf,hG,hM,Option.getD_none,Option.isSome_none]
  refine loopYH 4835703278454118652334080 g.msk.length (fun i f h x=>(f 42).v=vi i/\(f 12).v=vb false/\(∃ es,MemoOk g es/\h=HM H kn es)/\g.ends (r+1) goal c m=((List.range g.msk.length).drop i).any fun d=>g.ok c d m&&g.opens r goal d (m ||| 1 <<< g.thr d)) rfl ⟨by simp -dsimp -implicitDefEqProofs only [go_sem,seval],by simp -dsimp -implicitDefEqProofs only [go_sem,seval],⟨es,hes,rfl⟩,hsu⟩ ?_
  clear hM hG hes hT hK hf
  rintro i f u h x bs hi ⟨h42,h12,⟨es2,hes2,rfl⟩,hany⟩
  have hw:=wrapS i (by omega)
  have hT:=b.tree es2
  have hG:=b.rowM es2
  have hM:=b.mskM es2
  have hK:=HM_at H kn es2
  simp -dsimp -implicitDefEqProofs only [go_sem,seval,h42]
  refine csplit (fun h => ?_) (fun h => ?_) <;> (try rw [h]) <;> (try simp only [bools] at h) <;> (try simp -dsimp -implicitDefEqProofs only [go_sem,seval,h42])
  ·have hic:i<g.msk.length:=by assumption
   have ht1:=b.thr_den hic
   have hpr:=b.pr_den hc hic
   have hmk:g.msk[i]? = some (g.mks i):=by simp [Gr.mks,List.getD_eq_getElem?_getD,List.getElem?_eq_getElem hic]
   have hrow:=rowsU_at hmk
   have hci:(i<g.msk.length)=True:=by simp [hic]
   have hz0:(((g.mks i:Nat):Int)=0)=(g.mks i=0):=by simp
   have hth:=b.thr_lt hic
   have hsh:=i_shr m (g.thr i) (by omega)
   have hms:m >>> g.thr i<2^62:=Nat.lt_of_le_of_lt (Nat.shiftRight_le _ _) (by omega)
   have han:=i_and1 hms
   have hbt:=u_bit (a:=m) (i:=g.thr i) (by omega)
   have hsl:=i_shl (i:=g.thr i) (by omega)
   have hor:=i_or (a:=m) (b:=1 <<< g.thr i) (by omega) (by have:=mask_lt (m:=0) (by omega) hth; rw [Nat.zero_or] at this; omega)
   have hsb:IntKind.i64.wrap (((r+1:Nat):Int)-1)=((r:Nat):Int):=by rw [wrap64 (by omega)]; omega
   have hri:(List.range g.msk.length)[i]? = some i:=List.getElem?_range hic
   simp -dsimp -implicitDefEqProofs only [go_sem,seval,h42,hG,hM,hrow,hlen,hci,hz0]
   by_cases hm0:g.mks i=0
   ·simp -dsimp -implicitDefEqProofs only [go_sem,seval,hm0,h42]
    have hno:(g.ok c i m&&g.opens r goal i (m ||| 1 <<< g.thr i))=false:=by simp [Gr.ok,hm0]
    exact ⟨by omega,by simp -dsimp -implicitDefEqProofs only [go_sem,seval,h42,hw],by simp -dsimp -implicitDefEqProofs only [go_sem,seval,h12],⟨es2,hes2,rfl⟩,by rw [hany,any_step hri hno]⟩
   ·have hm0' : (g.mks i=0)=False:=by simp [hm0]
    simp -dsimp -implicitDefEqProofs only [go_sem,seval,hm0',h42, ↓hT,ht1,hsh,han,hbt,hpr]
    cases htb:m.testBit (g.thr i)
    ·simp -dsimp -implicitDefEqProofs only [go_sem,seval,h42, ↓hT,hpr]
     cases hpc:g.prec c i
     ·simp -dsimp -implicitDefEqProofs only [go_sem,seval,h42]
      have hno:(g.ok c i m&&g.opens r goal i (m ||| 1 <<< g.thr i))=false:=by simp [Gr.ok,hpc]
      exact ⟨by omega,by simp -dsimp -implicitDefEqProofs only [go_sem,seval,h42,hw],by simp -dsimp -implicitDefEqProofs only [go_sem,seval,h12],⟨es2,hes2,rfl⟩,by rw [hany,any_step hri hno]⟩
     ·simp -dsimp -implicitDefEqProofs only [go_sem,seval,h42, ↓hT,ht1,hsl,hor,hsb]
      refine rawK_of (h1 goal i (m ||| 1 <<< g.thr i) es2 _ hg hic (mask_lt hm hth) hes2) ?_
      rintro _ h' n' ⟨rfl,es3,hes3,rfl⟩
      simp -dsimp -implicitDefEqProofs only [go_sem,seval,h42]
      cases hop:g.opens r goal i (m ||| 1 <<< g.thr i)
      ·simp -dsimp -implicitDefEqProofs only [go_sem,seval,h42]
       have hno:(g.ok c i m&&g.opens r goal i (m ||| 1 <<< g.thr i))=false:=by rw [hop,Bool.and_false]
       exact ⟨by omega,by simp -dsimp -implicitDefEqProofs only [go_sem,seval,h42,hw],by simp -dsimp -implicitDefEqProofs only [go_sem,seval,h12],⟨es3,hes3,rfl⟩,by rw [hany,any_step hri hno]⟩
      ·have hyes:(g.ok c i m&&g.opens r goal i (m ||| 1 <<< g.thr i))=true:=by simp [Gr.ok,hm0,htb,hpc,hop]
       rw [any_stop hri hyes] at hany
       obtain ⟨es4,hp4,hes4⟩:=memo_put goal c m (r+1) hes3
       rw [hany] at hp4
       have hG3:=b.rowM es3
       have hK3:=HM_at H kn es3
       have hup:=HM_upd H kn es3 es4
       simp -dsimp -implicitDefEqProofs only [go_sem,seval,hG3,hd2,hrl,hkey,hK3,hp4,hup]
       exact ⟨by rw [hany]; rfl,es4,hes4,by rw [hpC_cons,hpC_nil]; exact hup⟩
    ·simp -dsimp -implicitDefEqProofs only [go_sem,seval,h42]
     have hno:(g.ok c i m&&g.opens r goal i (m ||| 1 <<< g.thr i))=false:=by simp [Gr.ok,htb]
     exact ⟨by omega,by simp -dsimp -implicitDefEqProofs only [go_sem,seval,h42,hw],by simp -dsimp -implicitDefEqProofs only [go_sem,seval,h12],⟨es2,hes2,rfl⟩,by rw [hany,any_step hri hno]⟩
  ·have hin:i=g.msk.length:=by omega
   subst hin
   have hrn:=any_end (fun d=>g.ok c d m&&g.opens r goal d (m ||| 1 <<< g.thr d)) (List.range g.msk.length)
   rw [List.length_range] at hrn
   rw [hrn] at hany
   obtain ⟨es4,hp4,hes4⟩:=memo_put goal c m (r+1) hes2
   rw [hany] at hp4
   have hup:=HM_upd H kn es2 es4
   simp -dsimp -implicitDefEqProofs only [go_sem,seval,hG,hd2,hrl,hkey,hK,hp4,hup,h12]
   exact ⟨by rw [hany]; rfl,es4,hes4,by rw [hpC_cons,hpC_nil]; exact hup⟩
 ·simp -dsimp -implicitDefEqProofs only [go_sem,seval,hf,Option.getD_some,Option.isSome_some]
  exact ⟨rfl,es,hes,rfl⟩
theorem ends_all {H:Nat->Option O} {kG kM kn:Nat} {cv:V} {p:Prog} {model:Int} {g:Gr} {f1 f2:Bool} (b:GrB H kG kM kn cv p model g f1 f2) : ∀ r,r<100->PE H kG kn g r
 | 0,_=>ends_zero b
 | r+1,h=>ends_of b (by omega) (opens_of b (by omega) (ends_all b r (by omega)) fun hr=>by
    cases r with
    | zero=>omega
    | succ r=>exact ends_all b r (by omega))
theorem gfz_other {L:List (Nat×O)} : ∀ {h:Nat->Option O} {k:Nat},(∀ x∈L,x.1≠k)->hpC h L k=h k:=by
 induction L with
 | nil=>intro h k _; rw [hpC_nil]
 | cons x L ih =>
   intro h k hx
   rw [show x=(x.1,x.2) from rfl,hpC_cons,ih fun y hy=>hx y (List.mem_cons_of_mem _ hy),updC_at,if_neg (fun e=>hx x List.mem_cons_self e.symm)]
theorem gfz_gen {k:Nat} {o:O} : ∀ {L:List (Nat×O)} {h:Nat->Option O},(∀ x∈L,x.1=k->x.2=o)->hpC h L k=h k\/hpC h L k=some o:=by
 intro L
 induction L with
 | nil=>intro h _; rw [hpC_nil]; exact .inl rfl
 | cons x L ih =>
   intro h hx
   rw [show x=(x.1,x.2) from rfl,hpC_cons]
   rcases ih (h:=updC h x.1 (some x.2)) (fun y hy=>hx y (List.mem_cons_of_mem _ hy)) with h1 | h1
   ·rw [h1,updC_at]
    split
    ·rename_i he; rw [hx x List.mem_cons_self he.symm]; exact .inr rfl
    ·exact .inl rfl
   ·exact .inr h1
theorem gfz_rows {h:Nat->Option O} {L:List Nat} {k sz:Nat} {rs:List (List V)} {f:Bool} (hk:h k=some (.rows sz rs f)) : ∃ f',hpC h (freezes h L) k=some (.rows sz rs f'):=by
 have:=gfz_gen (k:=k) (o:=.rows sz rs true) (L:=freezes h L) (h:=h) (by
  intro x hx he
  simp only [freezes,List.mem_filterMap] at hx
  obtain ⟨j,_,hj⟩:=hx
  split at hj
  ·rename_i sz' rs' f' hq
   cases hj
   simp only at he
   subst he
   rw [hk] at hq
   cases hq
   rfl
  ·cases hj)
 rcases this with h1 | h1
 ·exact ⟨f,by rw [h1,hk]⟩
 ·exact ⟨true,h1⟩
theorem gfz_map {h:Nat->Option O} {L:List Nat} {k:Nat} {es:List (T×V)} (hk:h k=some (.map es)):hpC h (freezes h L) k=some (.map es):=by
 rw [<- hk]
 refine gfz_other fun x hx he => ?_
 simp only [freezes,List.mem_filterMap] at hx
 obtain ⟨j,_,hj⟩:=hx
 split at hj
 ·rename_i sz' rs' f' hq
  cases hj
  simp only at he
  subst he
  rw [hk] at hq
  cases hq
 ·cases hj
theorem GrB.frz {H:Nat->Option O} {kG kM kn:Nat} {cv:V} {p:Prog} {model:Int} {g:Gr} {f1 f2:Bool} (b:GrB H kG kM kn cv p model g f1 f2) (es:List (T×V)) (L:List Nat) :
 ∃ H' f1' f2',hpC (HM H kn es) (freezes (HM H kn es) L)=HM H' kn es/\GrB H' kG kM kn cv p model g f1' f2' := by
 obtain ⟨f1',h1⟩:=gfz_rows (L:=L) (b.rowM es)
 obtain ⟨f2',h2⟩:=gfz_rows (L:=L) (b.mskM es)
 have h3:=gfz_map (L:=L) (HM_at H kn es)
 refine ⟨hpC (HM H kn es) (freezes (HM H kn es) L),f1',f2', ?_,⟨h1, ?_,h2,b.neG,b.neM,b.off,b.ok,b.nt4,b.nc,b.cl,b.nt⟩⟩
 ·funext k
  by_cases hk:k=kn
  ·subst hk; rw [HM_at,h3]
  ·rw [HM_ne _ _ hk]
 ·rcases b.clsM es with h | ⟨k,f,rfl,hk⟩
  ·exact .inl h
  ·obtain ⟨f',h4⟩:=gfz_rows (L:=L) hk
   exact .inr ⟨k,f',rfl,h4⟩
end Rg
end
section
namespace Rg
open Go
theorem grM_ask {p:Prog} (hp:p.ok) (model:Int):AskT (p.cells.map Cell.enc) (p.modules.map Contract.enc) (p.locks.map Lock.enc) (p.threads.map Thread.enc) model (grM p model):=by
 obtain ⟨⟨l1,l2,l3,l4⟩,l5⟩:=limits_iff.1 (ok_iff.1 hp).lim
 have hal:(accsM p).length<2^20:=by
  have:=accsN_len p l1 (fun x hx=>(l5 x hx).2.1) _ (Nat.le_refl _)
  unfold accsM; omega
 refine ⟨grM_ok hp model,l4,by simp [grM],by simpa using l1,by simp [grM],hal,fun i hi => ?_,fun i hi => ?_⟩
 ·have hma:(grM p model).ac i∈accsM p:=Gr.ac_mem (g:=grM p model) hi
  obtain ⟨x,s,hx1,hx2,_⟩:=mem_accs.1 hma
  have hear:(grM p model).ear ((grM p model).ac i)=(((grM p model).ac i).wr&&decide (s.kind=3)):=by show (_&&decide ((p.stepAt _ _).kind=3))=_; rw [stepAt_of hx1 hx2]
  rw [hear]
  exact gearly_den _ _ _ (p.threads.map Thread.enc) (x.steps.map Step.enc) _ _ _ _ _ _ _ _ _ _ _ _ _ _ _ _ _ s.kind _ _ _ _ (by rw [List.getElem?_map,hx1]; rfl) (by rw [List.getElem?_map,hx2,Option.map_some,Step.enc,Expr.enc_eq]; rfl)
 ·have hma:(grM p model).ac i∈accsM p:=Gr.ac_mem (g:=grM p model) hi
  obtain ⟨x,s,hx1,hx2,_⟩:=mem_accs.1 hma
  have hlat:(grM p model).lat ((grM p model).ac i)=lateM model s.kind s.release ((grM p model).ac i).wr:=by show lateM model (p.stepAt _ _).kind (p.stepAt _ _).release _=_; rw [stepAt_of hx1 hx2]
  rw [hlat]
  exact glate_den _ _ _ (p.threads.map Thread.enc) (x.steps.map Step.enc) _ _ _ _ _ _ _ _ _ _ _ _ _ _ _ _ s.kind model s.release _ _ _ _ (by rw [List.getElem?_map,hx1]; rfl) (by rw [List.getElem?_map,hx2,Option.map_some,Step.enc,Expr.enc_eq]; rfl)
theorem denS_nl (d:Bool) (h:Nat->Option O) (vs:List V) (K:V->(Nat->Option O)->Prop) (w:WK K):denS (some (.t (.sl []))) d h vs K w=K (.t (.sl [])) h:=by
 simp [denS,V.scalar,V.scalar2,V.scalar1,T.scalar]
theorem GrB.frzK {H:Nat->Option O} {kG kM kn:Nat} {cv:V} {p:Prog} {model:Int} {g:Gr} {f1 f2:Bool} (b:GrB H kG kM kn cv p model g f1 f2) {es:List (T×V)} {vs:List V} {r:V} {K:V->(Nat->Option O)->Prop}
 (hk : ∀ H' f1' f2',GrB H' kG kM kn cv p model g f1' f2' -> K r (HM H' kn es)):Rg.frzK (HM H kn es) vs r K:=by
 obtain ⟨H',f1',f2',h1,b'⟩:=b.frz es (vs.flatMap (reach1 (HM H kn es)))
 unfold Rg.frzK
 rw [h1]
 exact hk _ _ _ b'
def shortV:Option Nat->V
 | none => .tup [vi 0,vb false]
 | some r => .tup [vi r,vb true]
set_option maxHeartbeats 2000000
theorem shortest_den {H:Nat->Option O} {kG kM kn:Nat} {cv:V} {p:Prog} {model:Int} {g:Gr} {f1 f2:Bool} (b:GrB H kG kM kn cv p model g f1 f2)
 (ha:AskT (p.cells.map Cell.enc) (p.modules.map Contract.enc) (p.locks.map Lock.enc) (p.threads.map Thread.enc) model g) (es:List (T×V)) (hes:MemoOk g es) (n:Nat) :
 ∃ rr h' n',DenR Γ G 301 [.mp kG 0 0] (HM H kn es) n=some (rr,h',n')/\rr=shortV g.shortest /\ ∃ H' f1' f2' es',GrB H' kG kM kn cv p model g f1' f2' /\ MemoOk g es' /\ h' = HM H' kn es' := by
 have hpd:=pairs_den ha
 have hT:=b.tree es
 have hpl:=fun c d=>(Gr.mem_pairs (g:=g) (c:=c) (d:=d)).1
 (refine denR_ofY Γ301 rfl ?_; dsimp only [f301])
 cases hp:g.pairs with
 | nil =>
   have hsn:g.shortest=none:=by
    rw [Gr.shortest_none]
    intro r _ _
    unfold Gr.atRest
    rw [hp]; rfl
   rw [hp] at hpd
   have hpd2:Den Γ G 314 [.t (grT (p.cells.map Cell.enc) (p.modules.map Contract.enc) (p.locks.map Lock.enc) (p.threads.map Thread.enc) model g)]=some (.t (.sl [])):=hpd
   simp -dsimp -implicitDefEqProofs only [go_sem,seval, ↓hT,hpd2,denS_nl]
   exact ⟨by rw [hsn]; rfl,H,f1,f2,es,b,hes,rfl⟩
 | cons x l =>
   rw [hp] at hpd
   have hpd2:Den Γ G 314 [.t (grT (p.cells.map Cell.enc) (p.modules.map Contract.enc) (p.locks.map Lock.enc) (p.threads.map Thread.enc) model g)]=some (.t (.sl (pairT x::l.map pairT))):=hpd
   simp -dsimp -implicitDefEqProofs only [go_sem,seval, ↓hT,hpd2,denS_frz]
   refine b.frzK fun H1 e1 e2 b1 => ?_
   rw [show pairT x::l.map pairT=(x::l).map pairT from rfl, <- hp]
   have hne:(((g.pairs.length:Nat):Int)=0)=False:=by rw [hp]; simp; omega
   have hN:g.nt<=4:=b.nt4
   have hnt:=b.nt
   simp -dsimp -implicitDefEqProofs only [go_sem,seval,hne]
   have hsh:g.shortest=(((List.range (2*(g.nt-1))).map (· + 1)).drop 0).find? g.atRest:=rfl
   have hm1:IntKind.i64.wrap ((p.threads.length:Int)-1)=(p.threads.length:Int)-1:=wrap64 (by omega)
   have hm2:IntKind.i64.wrap (2*((p.threads.length:Int)-1))=2*((p.threads.length:Int)-1):=wrap64 (by omega)
   have hmp : ∀ x∈g.pairs,x.1<g.msk.length/\x.2<g.msk.length:=by
    rintro ⟨c,d⟩ hx
    have:=hpl c d hx
    exact ⟨this.1,this.2.1⟩
   refine loopYH 35184372080812 (2*(g.nt-1)) (fun i f h x=>(f 5).v=vi ((i+1:Nat):Int)/\(∃ es,MemoOk g es/\h=HM H1 kn es)/\g.shortest=(((List.range (2*(g.nt-1))).map (· + 1)).drop i).find? g.atRest) rfl ⟨by simp -dsimp -implicitDefEqProofs only [go_sem,seval],⟨es,hes,rfl⟩,hsh⟩ ?_
   clear hT b hpd hpd2 hsh hes
   rintro i f u h z bs hi ⟨h5,⟨es1,hes1,rfl⟩,hfi⟩
   have hG:=b1.rowM es1
   have hw:=wrapS (i+1) (by omega)
   simp -dsimp -implicitDefEqProofs only [go_sem,seval,h5,hG,hm1,hm2]
   refine csplit (fun h => ?_) (fun h => ?_) <;> (try rw [h]) <;> (try simp only [bools] at h) <;> (try simp -dsimp -implicitDefEqProofs only [go_sem,seval,h5])
   ·have hi2:i<2*(g.nt-1):=by omega
    have hri:((List.range (2*(g.nt-1))).map (· + 1))[i]? = some (i+1):=by rw [List.getElem?_map,List.getElem?_range hi2]; rfl
    refine loopYH 35184237871244 g.pairs.length (fun j f h x=>(f 27).v=vi j/\(∃ es,MemoOk g es/\h=HM H1 kn es)/\g.atRest (i+1)=(g.pairs.drop j).any fun x=>g.ends (i+1) x.1 x.2 (1 <<< g.thr x.2)) rfl ⟨by simp -dsimp -implicitDefEqProofs only [go_sem,seval],⟨es1,hes1,rfl⟩,rfl⟩ ?_
    clear hG hes1
    rintro j f2 u2 h2 z2 bs2 hj ⟨h27,⟨es2,hes2,rfl⟩,hany⟩
    have hw2:=wrapS j (by have:g.pairs.length<2^20:=by
                           have h1:=Gr.pairsN_len (g:=g) g.msk.length
                           have h2:=b1.szL
                           have h3:g.msk.length*g.msk.length<=288*288:=Nat.mul_le_mul (by omega) (by omega)
                           rw [Gr.pairsN_all] at h1
                           omega
                          omega)
    simp -dsimp -implicitDefEqProofs only [go_sem,seval,h27]
    refine csplit (fun h => ?_) (fun h => ?_) <;> (try rw [h]) <;> (try simp only [bools] at h) <;> (try simp -dsimp -implicitDefEqProofs only [go_sem,seval,h27])
    ·obtain ⟨⟨c,d⟩,hx,hxm⟩:=get_of ‹j<g.pairs.length›
     obtain ⟨hc,hd⟩:=hmp _ hxm
     simp only at hc hd
     have hT:=b1.tree es2
     have htd:=b1.thr_den hd
     have hth:=b1.thr_lt hd
     have hsl:=i_shl (i:=g.thr d) (by omega)
     simp -dsimp -implicitDefEqProofs only [go_sem,seval,h27,hx, ↓hT,htd,hsl,pairT,h5]
     refine rawK_of (ends_all b1 (i+1) (by omega) c d (1 <<< g.thr d) es2 _ hc hd (by have:=mask_lt (m:=0) (by omega) hth; rw [Nat.zero_or] at this; exact this) hes2) ?_
     rintro _ h' n' ⟨rfl,es3,hes3,rfl⟩
     simp -dsimp -implicitDefEqProofs only [go_sem,seval,h5]
     cases hen:g.ends (i+1) c d (1 <<< g.thr d)
     ·simp -dsimp -implicitDefEqProofs only [go_sem,seval,h27]
      exact ⟨by omega,by simp -dsimp -implicitDefEqProofs only [go_sem,seval,h27,hw2],⟨es3,hes3,rfl⟩,by rw [hany,any_step hx (by simpa using hen)]⟩
     ·simp -dsimp -implicitDefEqProofs only [go_sem,seval,h5]
      rw [any_stop hx (by simpa using hen)] at hany
      rw [drop_of hri,List.find?_cons_of_pos hany] at hfi
      exact ⟨by rw [hfi]; rfl,H1,e1,e2,es3,b1,hes3,rfl⟩
    ·have hjn:j=g.pairs.length:=by omega
     subst hjn
     rw [any_end] at hany
     rw [drop_of hri,List.find?_cons_of_neg (by rw [hany]; simp)] at hfi
     simp -dsimp -implicitDefEqProofs only [go_sem,seval,h5]
     exact ⟨by omega,by simp -dsimp -implicitDefEqProofs only [go_sem,seval,hw],⟨es2,hes2,rfl⟩,hfi⟩
   ·have hin:i=2*(g.nt-1):=by omega
    subst hin
    rw [List.drop_of_length_le (by simp),List.find?_nil] at hfi
    exact ⟨by rw [hfi]; rfl,H1,e1,e2,es1,b1,hes1,rfl⟩
end Rg
end
section
namespace Rg
open Go
theorem GrObj.grB {H:Nat->Option O} {n kG:Nat} {p:Prog} {model:Int} (hp:p.ok) (h:GrObj H n kG p model (grM p model)) : ∃ kM kn cv,GrB H kG kM kn cv p model (grM p model) false false/\H=HM H kn []:=by
 obtain ⟨cv,kM,kn,h1,h2,h3,h4,_,_,_⟩:=h.ex
 obtain ⟨⟨l1,l2,l3,l4⟩,l5⟩:=limits_iff.1 (ok_iff.1 hp).lim
 refine ⟨kM,kn,cv,⟨h1, ?_,h3, ?_, ?_,h2.offM h4,grM_ok hp model,l4,rfl,l1,rfl⟩, ?_⟩
 ·refine OwnB.shw (es:=(grM p model).cls.map fun c:Nat=>[ti c]) (x:=n) ?_
  have e:rowsI ((grM p model).cls.map fun c:Nat=>(c:Int))=((grM p model).cls.map fun c:Nat=>[ti c]).map (·.map V.t):=by simp only [rowsI,List.map_map]; rfl
  rw [<- e]; exact h2
 ·rintro rfl; rw [h1] at h4; cases h4
 ·rintro rfl; rw [h3] at h4; cases h4
 ·funext k
  by_cases hk:k=kn
  ·subst hk; rw [HM_at,h4]
  ·rw [HM_ne _ _ hk]
theorem valid30_den (p:Prog) (hs:p.sane):Den Γ G 299 [(.agg [.t (.sl ((p).cells.map (Cell.enc))), .t (.sl ((p).modules.map (Contract.enc))), .t (.sl ((p).locks.map (Lock.enc))), .t (.sl ((p).threads.map (Thread.enc)))])]=some (vb (validB p)):=by
 have hv:=validP7_den p hs
 (refine den_ofY Γ299 rfl ?_; dsimp only [f299])
 simp -dsimp -implicitDefEqProofs only [go_sem,seval,hv]
 rfl
theorem accesses_den (p:Prog) (hs:p.sane) (hset : ∀ x∈p.threads, ∀ s∈x.steps,s.set.length<2^20):Den Γ G 293 [(.agg [.t (.sl ((p).cells.map (Cell.enc))), .t (.sl ((p).modules.map (Contract.enc))), .t (.sl ((p).locks.map (Lock.enc))), .t (.sl ((p).threads.map (Thread.enc)))])]=some (.t (.sl ((accessesM p).map Acc.enc))):=by
 have hv:=valid30_den p hs
 (refine den_ofY Γ293 rfl ?_; dsimp only [f293])
 simp -dsimp -implicitDefEqProofs only [go_sem,seval,hv]
 unfold accessesM
 cases h:validB p
 ·simp -dsimp -implicitDefEqProofs only [go_sem,seval]
 ·have hp:p.ok:=by simpa [validB] using h
  have ha:=accs_den p hp hset
  simp -dsimp -implicitDefEqProofs only [go_sem,seval,ha]
theorem robust_den (p:Prog) (hs:p.sane) (hset : ∀ x∈p.threads, ∀ s∈x.steps,s.set.length<2^20) (model:Int):Den Γ G 289 [(.agg [.t (.sl ((p).cells.map (Cell.enc))), .t (.sl ((p).modules.map (Contract.enc))), .t (.sl ((p).locks.map (Lock.enc))), .t (.sl ((p).threads.map (Thread.enc)))]),vi model]=some (vb (robM p model)):=by
 have hv:=valid30_den p hs
 (refine den_ofY Γ289 rfl ?_; dsimp only [f289])
 simp -dsimp -implicitDefEqProofs only [go_sem,seval,hv]
 unfold robM
 cases h:validB p
 ·simp -dsimp -implicitDefEqProofs only [go_sem,seval]
  rfl
 ·have hp:p.ok:=by simpa [validB] using h
  simp -dsimp -implicitDefEqProofs only [go_sem,seval]
  refine rawK_of (build_den p hp hset model _ _) ?_
  rintro _ h1 n1 ⟨kG,rfl,hg⟩
  obtain ⟨kM,kn,cv,b,hH⟩:=hg.grB hp
  simp -dsimp -implicitDefEqProofs only [go_sem,seval]
  rw [hH]
  refine rawK_of (shortest_den b (grM_ask hp model) [] (fun e he=>by cases he) _) ?_
  rintro _ h2 n2 ⟨rfl,H',f1',f2',es',b',hes',rfl⟩
  cases hsn:(grM p model).shortest with
  | none =>
    simp -dsimp -implicitDefEqProofs only [go_sem,seval,shortV]
    rfl
  | some r =>
    simp -dsimp -implicitDefEqProofs only [go_sem,seval,shortV]
    rfl
end Rg
end
section
namespace Rg
open Go
def dlT (x:Acc×Acc):List T:=x.1.enc++x.2.enc
def rowsD (l:List (Acc×Acc)):List (List V):=(l.map dlT).map (·.map V.t)
theorem rowsD_len (l:List (Acc×Acc)):(rowsD l).length=l.length:=by simp [rowsD]
theorem rowsD_all (l:List (Acc×Acc)):((rowsD l).all fun r=>decide (r.length=8))=true:=by simp [rowsD,dlT,Acc.enc]
theorem rowsD_snoc (l:List (Acc×Acc)) (a b:Acc):rowsD l++[[vi a.th,vi a.st,vi a.ce,vb a.wr,vi b.th,vi b.st,vi b.ce,vb b.wr]]=rowsD (l++[(a,b)]):=by simp [rowsD,dlT,Acc.enc]
theorem dl_norm (l:List (Acc×Acc)) : ∀ e∈l.map dlT, ∀ t∈e,T.norm t=t:=by
 intro e he t ht
 obtain ⟨x,_,rfl⟩:=List.mem_map.1 he
 simp only [dlT,Acc.enc,List.mem_append,List.mem_cons,List.not_mem_nil,or_false] at ht
 rcases ht with (rfl | rfl | rfl | rfl) | (rfl | rfl | rfl | rfl) <;> rfl
namespace Gr
variable {g:Gr}
def delaysI (g:Gr) (a j:Nat):List (Acc×Acc):=((List.range j).filter fun b=>g.delay a b).map fun b=>(g.ac a,g.ac b)
def delaysN (g:Gr) (i:Nat):List (Acc×Acc):=(List.range i).flatMap fun a=>g.delaysI a g.all.length
theorem delaysI_succ (a j:Nat):g.delaysI a (j+1)=g.delaysI a j++if g.delay a j then [(g.ac a,g.ac j)] else []:=by
 unfold delaysI
 rw [List.range_succ,List.filter_append,List.map_append]
 cases h:g.delay a j <;> simp [h]
theorem delaysN_succ (i:Nat):g.delaysN (i+1)=g.delaysN i++g.delaysI i g.all.length:=by
 unfold delaysN
 rw [List.range_succ,List.flatMap_append]; simp
theorem delaysI_len (a j:Nat):(g.delaysI a j).length<=j:=by
 unfold delaysI
 rw [List.length_map]
 exact Nat.le_trans (List.length_filter_le _ _) (by simp)
theorem delaysN_len : ∀ i,(g.delaysN i).length<=i*g.all.length
 | 0=>by simp [delaysN]
 | i+1=>by
   rw [delaysN_succ,List.length_append,Nat.succ_mul]
   have:=delaysN_len i
   have:=delaysI_len (g:=g) i g.all.length
   omega
end Gr
theorem GrObj.keep {H H' : Nat->Option O} {n n' kG:Nat} {p:Prog} {model:Int} {g:Gr} (h:GrObj H n kG p model g) (hk : ∀ k,k<n->H' k=H k) (hn:n<=n'):GrObj H' n' kG p model g:=by
 obtain ⟨cv,kM,kn,h1,h2,h3,h4,h5,h6,h7⟩:=h.ex
 refine ⟨cv,kM,kn,by rw [hk _ h5]; exact h1, ?_,by rw [hk _ h6]; exact h3,by rw [hk _ h7]; exact h4,by omega,by omega,by omega⟩
 rcases h2 with h2 | ⟨q,rfl,hq,h8⟩
 ·exact .inl h2
 ·exact .inr ⟨q,rfl,by omega,by rw [hk _ hq]; exact h8⟩
theorem GrObj.tree {H:Nat->Option O} {n kG:Nat} {p:Prog} {model:Int} (hp:p.ok) (h:GrObj H n kG p model (grM p model)) :
 toT1 H (.mp kG 0 0)=some (.t (grT (p.cells.map Cell.enc) (p.modules.map Contract.enc) (p.locks.map Lock.enc) (p.threads.map Thread.enc) model (grM p model))):=by
 obtain ⟨kM,kn,cv,b,hH⟩:=h.grB hp
 have:=b.tree []
 rw [<- hH] at this
 exact this
set_option maxHeartbeats 2000000
theorem delays_den (p:Prog) (hs:p.sane) (hset : ∀ x∈p.threads, ∀ s∈x.steps,s.set.length<2^20) (model:Int):Den Γ G 291 [(.agg [.t (.sl ((p).cells.map (Cell.enc))), .t (.sl ((p).modules.map (Contract.enc))), .t (.sl ((p).locks.map (Lock.enc))), .t (.sl ((p).threads.map (Thread.enc)))]),vi model]=some (.t (.sl ((delaysM p model).map dlT))):=by
 have hv:=valid30_den p hs
 (refine den_ofY Γ291 rfl ?_; dsimp only [f291])
 simp -dsimp -implicitDefEqProofs only [go_sem,seval,hv]
 unfold delaysM
 cases h:validB p
 ·simp -dsimp -implicitDefEqProofs only [go_sem,seval]
 ·have hp:p.ok:=by simpa [validB] using h
  simp -dsimp -implicitDefEqProofs only [go_sem,seval]
  refine rawK_of (build_den p hp hset model _ _) ?_
  rintro _ h1 n1 ⟨kG,rfl,hg⟩
  have hg0:GrObj h1 n1 kG p model (grM p model):=hg
  obtain ⟨cv,kM,kn,hG,_,_,_,hkG,_,_⟩:=hg.ex
  have hal:=(grM_ask hp model).al
  have hdd : ∀ a b,a<(grM p model).all.length->b<(grM p model).all.length->Den Γ G 306 [.t (grT (p.cells.map Cell.enc) (p.modules.map Contract.enc) (p.locks.map Lock.enc) (p.threads.map Thread.enc) model (grM p model)),vi a,vi b]=some (vb ((grM p model).delay a b)):=fun a b ha hb=>delay_den _ _ _ p hp model a b ha hb
  have hall:(accsM p).length<=16384:=by
   obtain ⟨⟨l1,l2,l3,l4⟩,l5⟩:=limits_iff.1 (ok_iff.1 hp).lim
   have:=accsN_len p l1 (fun x hx=>(l5 x hx).2.1) _ (Nat.le_refl _)
   unfold accsM; omega
  have hal2:(grM p model).all.length<=16384:=hall
  clear hall
  generalize hGG:grM p model=g at hg hG hal hdd hal2 ⊢
  simp -dsimp -implicitDefEqProofs only [go_sem,seval,hG]
  refine loopYH 36028797017915840 g.all.length (fun i f h x=>(f 20).v=vi i/\(∀ k,k<n1->h k=h1 k)/\n1<=x/\OwnB h x (f 6).v 8 (rowsD (g.delaysN i)) /\ ∀ k,k<n1->offK (f 6).v k) rfl ?_ ?_
  ·refine ⟨by simp -dsimp -implicitDefEqProofs only [go_sem,seval],fun k _=>rfl,by simp -dsimp -implicitDefEqProofs only [go_sem,seval]; omega, .inl ⟨by simp -dsimp -implicitDefEqProofs only [go_sem,seval],rfl⟩,fun k _ => ?_⟩
   simp -dsimp -implicitDefEqProofs only [go_sem,seval]
   intro i n h; cases h
  ·rintro i f u H z bs hi ⟨h20,hk,hz,hO,hof⟩
   have hw:=wrapS i (by omega)
   simp -dsimp -implicitDefEqProofs only [go_sem,seval,h20]
   refine csplit (fun h => ?_) (fun h => ?_) <;> (try rw [h]) <;> (try simp only [bools] at h) <;> (try simp -dsimp -implicitDefEqProofs only [go_sem,seval,h20])
   ·have hia:i<g.all.length:=by assumption
    have hG2:=hk kG hkG
    rw [hG] at hG2
    simp -dsimp -implicitDefEqProofs only [go_sem,seval,h20,hG2]
    refine loopYH 18014398241046848 g.all.length (fun j f h x=>(f 28).v=vi j/\(∀ k,k<n1->h k=h1 k)/\n1<=x/\OwnB h x (f 6).v 8 (rowsD (g.delaysN i++g.delaysI i j)) /\ ∀ k,k<n1->offK (f 6).v k) rfl ?_ ?_
    ·refine ⟨by simp -dsimp -implicitDefEqProofs only [go_sem,seval],hk,by simp -dsimp -implicitDefEqProofs only [go_sem,seval]; omega, ?_,fun k hk => ?_⟩
     ·rw [show g.delaysI i 0=[] from rfl,List.append_nil]
      (try simp -dsimp -implicitDefEqProofs only [go_sem,seval])
      refine hO.le ?_; omega
     ·(try simp -dsimp -implicitDefEqProofs only [go_sem,seval])
      exact hof k hk
    ·rintro j f2 u2 H2 z2 bs2 hj ⟨h28,hk2,hz2,hO2,hof2⟩
     have hw2:=wrapS j (by omega)
     have hT:=(hg0.keep hk2 hz2).tree hp
     rw [hGG] at hT
     simp -dsimp -implicitDefEqProofs only [go_sem,seval,h28]
     refine csplit (fun h => ?_) (fun h => ?_) <;> (try rw [h]) <;> (try simp only [bools] at h) <;> (try simp -dsimp -implicitDefEqProofs only [go_sem,seval,h28, ↓hT])
     ·have hja:j<g.all.length:=by assumption
      have hd:=hdd i j hia hja
      have hG3:=hk2 kG hkG
      rw [hG] at hG3
      have hxa:g.all[i]? = some (g.ac i):=by simp [Gr.ac,List.getD_eq_getElem?_getD,List.getElem?_eq_getElem hia]
      have hxb:g.all[j]? = some (g.ac j):=by simp [Gr.ac,List.getD_eq_getElem?_getD,List.getElem?_eq_getElem hja]
      have hsucc:=Gr.delaysI_succ (g:=g) i j
      simp -dsimp -implicitDefEqProofs only [go_sem,seval,hd]
      cases hdl:g.delay i j
      ·rw [hdl] at hsucc
       simp only [Bool.false_eq_true,if_false,List.append_nil] at hsucc
       rw [hsucc]
       simp -dsimp -implicitDefEqProofs only [go_sem,seval,h28]
       refine ⟨by omega,by simp -dsimp -implicitDefEqProofs only [go_sem,seval,h28,hw2],hk2,by simp -dsimp -implicitDefEqProofs only [go_sem,seval]; omega, ?_,fun k hk => ?_⟩
       ·(try simp -dsimp -implicitDefEqProofs only [go_sem,seval])
        refine hO2.le ?_; omega
       ·(try simp -dsimp -implicitDefEqProofs only [go_sem,seval])
        exact hof2 k hk
      ·rw [hdl,if_pos rfl] at hsucc
       have v1:=hO2.valOf
       have v2:=hO2.r2
       have v3:=hO2.r3
       have v4:=hO2.r4
       have hln:(rowsD (g.delaysN i++g.delaysI i j)).length<2^32:=by
        rw [rowsD_len,List.length_append]
        have h1:=Gr.delaysN_len (g:=g) i
        have h2:=Gr.delaysI_len (g:=g) i j
        have h3:i*g.all.length<=16384*16384:=Nat.mul_le_mul (by omega) hal2
        omega
       simp -dsimp -implicitDefEqProofs only [go_sem,seval,h20,h28,hG3,hxa,hxb,v1,v2,v3,v4]
       refine putA_app1 (hO2.upd (by omega) _) (by omega) hln (by decide) rfl (rowsD_all _) ?_
       intro v hp' hO3 hoffs hkeep
       have w1:=hO3.valOf
       rw [rowsD_snoc,List.append_assoc, <- hsucc] at hO3
       simp -dsimp -implicitDefEqProofs only [go_sem,seval,w1,h28]
       refine ⟨by omega,by simp -dsimp -implicitDefEqProofs only [go_sem,seval,h28,hw2],fun k hk => ?_,by simp -dsimp -implicitDefEqProofs only [go_sem,seval]; omega, ?_,fun k hk => ?_⟩
       ·have:=hkeep k (by omega) (hof2 k hk)
        rw [updC_at,if_neg (by omega),hk2 k hk] at this
        simp -dsimp -implicitDefEqProofs only [go_sem,seval,this]
       ·simp -dsimp -implicitDefEqProofs only [go_sem,seval]
        refine hO3.le ?_; omega
       ·simp -dsimp -implicitDefEqProofs only [go_sem,seval]
        exact hoffs k (by omega)
     ·have hjn:j=g.all.length:=by omega
      subst hjn
      rw [<- Gr.delaysN_succ] at hO2
      simp -dsimp -implicitDefEqProofs only [go_sem,seval,h20]
      refine ⟨by omega,by simp -dsimp -implicitDefEqProofs only [go_sem,seval,hw],hk2,by simp -dsimp -implicitDefEqProofs only [go_sem,seval]; omega, ?_,fun k hk => ?_⟩
      ·simp -dsimp -implicitDefEqProofs only [go_sem,seval]
       refine hO2.le ?_; omega
      ·simp -dsimp -implicitDefEqProofs only [go_sem,seval]
       exact hof2 k hk
   ·have hin:i=g.all.length:=by omega
    subst hin
    have v1:=hO.valOf
    have hre:=hO.reify (dl_norm _)
    have v5:=hO.resVal
    simp only [Rg.resVal] at v5
    simp -dsimp -implicitDefEqProofs only [go_sem,seval,v1,v5]
    exact hre
end Rg
end
