/- Part of the proof of the laws of the package relyguardlaw30: an abstract machine for the program's functions, what they compute, and that the machine is the program's. No condition. (H43b H43c) -/
import Derived.Test.YtcgkpboneipghaaGreatDoorPartBB
set_option linter.unusedSimpArgs false
set_option linter.unusedVariables false
section
namespace Rg
open Go
structure GrObj (H:Nat->Option O) (n kG:Nat) (p:Prog) (model:Int) (g:Gr):Prop where
 ex : ∃ cv kM kn,H kG=some (.rows 521 [rowG (p.cells.map Cell.enc) (p.modules.map Contract.enc) (p.locks.map Lock.enc) (p.threads.map Thread.enc) model (g.all.map Acc.enc) cv (.ms kM 0 g.msk.length) g.ldAt g.qkAt kn] false) /\
  OwnB H n cv 1 (rowsI (g.cls.map fun c:Nat=>(c:Int)))/\H kM=some (.rows 1 (rowsU g.msk) false)/\H kn=some (.map [])/\kG<n/\kM<n/\kn<n
abbrev zu:V:=.t (.int .u64 0)
def restZ:List V:=List.replicate 512 zu++[.t .nilm]
set_option maxRecDepth 20000 in
theorem zero521 : [zn,zn,zn,zn,zi,zn,zn,zn,zu,zu,zu,zu,zu,zu,zu,zu,zu,zu,zu,zu,zu,zu,zu,zu,zu,zu,zu,zu,zu,zu,zu,zu,zu,zu,zu,zu,zu,zu,zu,zu,zu,zu,zu,zu,zu,zu,zu,zu,zu,zu,zu,zu,zu,zu,zu,zu,zu,zu,
 zu,zu,zu,zu,zu,zu,zu,zu,zu,zu,zu,zu,zu,zu,zu,zu,zu,zu,zu,zu,zu,zu,zu,zu,zu,zu,zu,zu,zu,zu,zu,zu,zu,zu,zu,zu,zu,zu,zu,zu,zu,zu,zu,zu,zu,zu,zu,zu,zu,zu,
 zu,zu,zu,zu,zu,zu,zu,zu,zu,zu,zu,zu,zu,zu,zu,zu,zu,zu,zu,zu,zu,zu,zu,zu,zu,zu,zu,zu,zu,zu,zu,zu,zu,zu,zu,zu,zu,zu,zu,zu,zu,zu,zu,zu,zu,zu,zu,zu,zu,zu,
 zu,zu,zu,zu,zu,zu,zu,zu,zu,zu,zu,zu,zu,zu,zu,zu,zu,zu,zu,zu,zu,zu,zu,zu,zu,zu,zu,zu,zu,zu,zu,zu,zu,zu,zu,zu,zu,zu,zu,zu,zu,zu,zu,zu,zu,zu,zu,zu,zu,zu,
 zu,zu,zu,zu,zu,zu,zu,zu,zu,zu,zu,zu,zu,zu,zu,zu,zu,zu,zu,zu,zu,zu,zu,zu,zu,zu,zu,zu,zu,zu,zu,zu,zu,zu,zu,zu,zu,zu,zu,zu,zu,zu,zu,zu,zu,zu,zu,zu,zu,zu,
 zu,zu,zu,zu,zu,zu,zu,zu,zu,zu,zu,zu,zu,zu,zu,zu,zu,zu,zu,zu,zu,zu,zu,zu,zu,zu,zu,zu,zu,zu,zu,zu,zu,zu,zu,zu,zu,zu,zu,zu,zu,zu,zu,zu,zu,zu,zu,zu,zu,zu,
 zu,zu,zu,zu,zu,zu,zu,zu,zu,zu,zu,zu,zu,zu,zu,zu,zu,zu,zu,zu,zu,zu,zu,zu,zu,zu,zu,zu,zu,zu,zu,zu,zu,zu,zu,zu,zu,zu,zu,zu,zu,zu,zu,zu,zu,zu,zu,zu,zu,zu,
 zu,zu,zu,zu,zu,zu,zu,zu,zu,zu,zu,zu,zu,zu,zu,zu,zu,zu,zu,zu,zu,zu,zu,zu,zu,zu,zu,zu,zu,zu,zu,zu,zu,zu,zu,zu,zu,zu,zu,zu,zu,zu,zu,zu,zu,zu,zu,zu,zu,zu,
 zu,zu,zu,zu,zu,zu,zu,zu,zu,zu,zu,zu,zu,zu,zu,zu,zu,zu,zu,zu,zu,zu,zu,zu,zu,zu,zu,zu,zu,zu,zu,zu,zu,zu,zu,zu,zu,zu,zu,zu,zu,zu,zu,zu,zu,zu,zu,zu,zu,zu,
 zu,zu,zu,zu,zu,zu,zu,zu,zu,zu,zu,zu,zu,zu,zu,zu,zu,zu,zu,zu,zu,zu,zu,zu,zu,zu,zu,zu,zu,zu,zu,zu,zu,zu,zu,zu,zu,zu,zu,zu,zu,zu,zu,zu,zu,zu,zu,zu,zu,zu,
 zu,zu,zu,zu,zu,zu,zu,zu,zu,zu,zu,zu, .t .nilm]=zn::zn::zn::zn::zi::zn::zn::zn::restZ:=rfl
theorem restZ_len:restZ.length=513:=by simp only [restZ,List.length_append,List.length_replicate,List.length_cons,List.length_nil]
theorem restZ_set (k:Nat):List.take 512 restZ++[.mm k]++List.drop 513 restZ=restV (fun _ _=>0) (fun _ _=>0) k:=by
 have e : ∀ f:Nat->Nat->Nat,(∀ a b,f a b=0)->rowsV f=List.replicate 256 zu:=by
  intro f hf
  rw [List.eq_replicate_iff]
  refine ⟨rowsV_len f,fun x hx => ?_⟩
  simp only [rowsV,List.mem_map] at hx
  obtain ⟨j,_,rfl⟩:=hx
  rw [hf]; rfl
 have h1:List.take 512 restZ=List.replicate 512 zu:=by
  rw [restZ,List.take_append_of_le_length (by rw [List.length_replicate]; exact Nat.le_refl _),List.take_of_length_le (by rw [List.length_replicate]; exact Nat.le_refl _)]
 have h2:List.drop 513 restZ=[]:=List.drop_of_length_le (by rw [restZ_len]; exact Nat.le_refl _)
 rw [h1,h2,restV,e _ (fun _ _=>rfl),List.replicate_append_replicate,List.append_nil]
def mskN (p:Prog) (i:Nat):List Nat:=(List.range (p.threads.length*(2*(p.cells.length+p.threads.length)))).map fun c=>((accsM p).take i).foldl (fun m a=>if clsM p a=c then m ||| 1 <<< a.st else m) 0
theorem mskN_len (p:Prog) (i:Nat):(mskN p i).length=p.threads.length*(2*(p.cells.length+p.threads.length)):=by simp [mskN]
theorem mskN_zero (p:Prog):mskN p 0=List.replicate (p.threads.length*(2*(p.cells.length+p.threads.length))) 0:=by
 refine List.ext_getElem (by simp [mskN]) fun i h1 h2 => ?_
 simp [mskN]
theorem mskN_at (p:Prog) (i:Nat) {c:Nat} (h:c<p.threads.length*(2*(p.cells.length+p.threads.length))):(mskN p i)[c]? = some (((accsM p).take i).foldl (fun m a=>if clsM p a=c then m ||| 1 <<< a.st else m) 0):=by
 simp only [mskN,List.getElem?_map,List.getElem?_range h,Option.map_some]
theorem mskN_succ (p:Prog) {i m:Nat} {a:Acc} (ha:(accsM p)[i]? = some a) (hm:(mskN p i)[clsM p a]? = some m):mskN p (i+1)=(mskN p i).set (clsM p a) (m ||| 1 <<< a.st):=by
 refine List.ext_getElem? fun c => ?_
 by_cases hc:c<p.threads.length*(2*(p.cells.length+p.threads.length))
 ·rw [mskN_at p (i+1) hc,take_succ_of ha,List.foldl_append,List.getElem?_set]
  by_cases h:clsM p a=c
  ·subst h
   rw [mskN_at p i hc] at hm
   simp [mskN_len,hc,Option.some.inj hm]
  ·rw [if_neg h,mskN_at p i hc]
   simp [h]
 ·rw [List.getElem?_eq_none (by rw [mskN_len]; omega),List.getElem?_eq_none (by rw [List.length_set,mskN_len]; omega)]
theorem mskN_lt (p:Prog) (hp:p.ok) {i c m:Nat} (h:(mskN p i)[c]? = some m):m<2^64:=by
 have hc:=(List.getElem?_eq_some_iff.1 h).1
 rw [mskN_len] at hc
 rw [mskN_at p i hc] at h
 cases h
 refine Nat.lt_pow_two_of_testBit _ fun j hj => ?_
 cases hb:(List.foldl (fun m a=>if clsM p a=c then m ||| 1 <<< a.st else m) 0 ((accsM p).take i)).testBit j
 ·rfl
 ·have:=fold_bits (fun a:Acc=>decide (clsM p a=c)) (fun a=>a.st) j ((accsM p).take i) 0
  simp only [decide_eq_true_eq] at this
  rw [hb] at this
  have h2:=this.symm
  simp only [Nat.zero_testBit,Bool.false_or,List.any_eq_true,Bool.and_eq_true,decide_eq_true_eq] at h2
  obtain ⟨a,h1,_,h3⟩:=h2
  have:=(ok_acc hp (List.mem_of_mem_take h1)).2.1
  omega
theorem OwnB.shw {h:Nat->Option O} {x:Nat} {v:V} {sz:Nat} {es:List (List T)} (o:OwnB h x v sz (es.map (·.map V.t))):Shw h v sz es:=by
 rcases o with ⟨rfl,he⟩ | ⟨k,rfl,_,hk⟩
 ·exact .inl ⟨rfl,by simpa using he⟩
 ·exact .inr ⟨k,false,by simp,hk⟩
theorem OwnB.updO {h:Nat->Option O} {x k sz:Nat} {v:V} {rows:List (List V)} (o:OwnB h x v sz rows) (hk:offK v k) (b:Option O):OwnB (updC h k b) x v sz rows:=by
 rcases o with o | ⟨q,rfl,h2,h3⟩
 ·exact .inl o
 ·refine .inr ⟨q,rfl,h2, ?_⟩
  have:q≠k:=by rintro rfl; exact hk _ _ rfl
  rw [updC_at,if_neg this]; exact h3
theorem OwnB.msE {h:Nat->Option O} {x sz:Nat} {v:V} {rows:List (List V)} (o:OwnB h x v sz rows) (hn:rows≠[]) : ∃ k m,v = .ms k 0 m:=by
 rcases o with ⟨_,h1⟩ | ⟨q,h1,_,_⟩
 ·exact absurd h1 hn
 ·exact ⟨_,_,h1⟩
theorem OwnB.offM {h:Nat->Option O} {x k sz:Nat} {v:V} {rows:List (List V)} {es:List (T×V)} (o:OwnB h x v sz rows) (hk:h k=some (.map es)):offK v k:=by
 rcases o with ⟨rfl,_⟩ | ⟨q,rfl,_,hq⟩
 ·intro i n he; cases he
 ·refine offK_ms ?_ _ _
  rintro rfl
  rw [hq] at hk
  cases hk
def fstR (f:Nat->Nat->Nat) (k:Nat):Nat->Nat->Nat:=fun t i=>if t<k then f t i else 0
theorem u64_norm (l:List Nat):NormT (l.map fun x:Nat=>[T.int .u64 x]):=by
 intro e he t ht
 obtain ⟨x,_,rfl⟩:=List.mem_map.1 he
 simp only [List.mem_cons,List.not_mem_nil,or_false] at ht
 rw [ht]; rfl
theorem rowsU_T (l:List Nat):rowsU l=(l.map fun x:Nat=>[T.int .u64 x]).map (·.map V.t):=by simp [rowsU]
theorem msk_shw {h:Nat->Option O} {k m:Nat} {l:List Nat} {f:Bool} (hk:h k=some (.rows 1 (rowsU l) f)) (hm:m=l.length):Shw h (.ms k 0 m) 1 (l.map fun x:Nat=>[T.int .u64 x]) :=
 .inr ⟨k,f,by simp [hm],by rw [hk,rowsU_T]⟩
set_option maxHeartbeats 4000000
set_option maxRecDepth 4000
theorem build_den (p:Prog) (hp:p.ok) (hset : ∀ x∈p.threads, ∀ s∈x.steps,s.set.length<2^20) (model:Int) (H:Nat->Option O) (n:Nat) :
 ∃ r h' n',DenR Γ G 300 [(.agg [.t (.sl ((p).cells.map (Cell.enc))), .t (.sl ((p).modules.map (Contract.enc))), .t (.sl ((p).locks.map (Lock.enc))), .t (.sl ((p).threads.map (Thread.enc)))]),vi model] H n=some (r,h',n')/\(∃ kG,r = .mp kG 0 0/\GrObj h' n' kG p model (grM p model)):=by
 have hac:=accs_den p hp hset
 (refine denR_ofY Γ300 rfl ?_; dsimp only [f300])
 rw [zero521]
 have hzl:=restZ_len
 have hrs:=restZ_set (n+2+4)
 have hT:toT1 (updC (updC H (n+2+4) (some (.map []))) (n+2+6) (some (.rows 521 [rowG (p.cells.map Cell.enc) (p.modules.map Contract.enc) (p.locks.map Lock.enc) (p.threads.map Thread.enc) model ((accsM p).map Acc.enc) zn zn (fun _ _=>0) (fun _ _=>0) (n+2+4)] false))) (.mp (n+2+6) 0 0) =
  some (.t (.ip (.sl (p.cells.map Cell.enc) :: .sl (p.modules.map Contract.enc) :: .sl (p.locks.map Lock.enc) :: .sl (p.threads.map Thread.enc) :: .int .i64 model :: .sl ((accsM p).map Acc.enc) :: .sl [] :: .sl []::(rowsT (fun _ _=>0)++rowsT (fun _ _=>0)++[.opq])))):=by
  refine graph_toT (by rw [updC_at,if_pos rfl]) (.inl ⟨rfl,rfl⟩) (fun e h=>by cases h) (.inl ⟨rfl,rfl⟩) (fun e h=>by cases h) (by rw [updC_at,if_neg (by omega),updC_at,if_pos rfl])
 have hrl:=restV_len (fun _ _=>0) (fun _ _=>0) (n+2+4)
 obtain ⟨⟨l1,l2,l3,l4⟩,l5⟩:=limits_iff.1 (ok_iff.1 hp).lim
 have hN:p.threads.length*(2*(p.cells.length+p.threads.length))<=4*72:=Nat.mul_le_mul l4 (by omega)
 have hmul:IntKind.i64.wrap ((p.threads.length:Int)*(2*((p.cells.length:Int)+p.threads.length)))=((p.threads.length*(2*(p.cells.length+p.threads.length)):Nat):Int):=by
  rw [show (p.threads.length:Int)*(2*((p.cells.length:Int)+p.threads.length))=((p.threads.length*(2*(p.cells.length+p.threads.length)):Nat):Int) by push_cast; rfl,wrap64 (by omega)]
 have hsz : ∀ tl,Den Γ G 309 [.t (.ip (.sl (p.cells.map Cell.enc) :: .sl (p.modules.map Contract.enc) :: .sl (p.locks.map Lock.enc) :: .sl (p.threads.map Thread.enc)::tl))]=some (vi (2*((p.cells.length:Int)+p.threads.length))):=by
  intro tl
  have:=gsize_den (p.cells.map Cell.enc) (p.modules.map Contract.enc) (p.locks.map Lock.enc) (p.threads.map Thread.enc) tl (by simp; omega) (by simp; omega)
  simpa using this
 generalize hNe:p.threads.length*(2*(p.cells.length+p.threads.length))=N at hN hmul
 have hc1:((N:Int)<0)=False:=by simp
 have hc2:((N:Int)<=N)=True:=by simp
 have hc3:((N:Int)<=4294967296)=True:=by simp; omega
 have hn9:(n=n+9)=False:=by simp
 have hq1:(n+9=n)=False:=by simp
 have hq2:(n=n+2)=False:=by simp
 have hq3:(n+2=n)=False:=by simp
 have hq4:(n=n+11)=False:=by simp
 have hq5:(n+11=n)=False:=by simp
 simp -dsimp -implicitDefEqProofs only [go_sem,seval,hac,hzl,hrs,hrl, ↓hT,hsz,hmul,hc1,hc2,hc3,hn9]
 rw [rowsU_zero]
 generalize hAL:accsM p=AL at hac
 refine loopYH 309485009821345060134846848 AL.length (fun i f h x=>(f 33).v=vi i/\n+18<=x/\h (n+2+8+7)=some (.rows 1 (rowsU (mskN p i)) false)/\h (n+2+4)=some (.map []) /\ ∃ cv,OwnB h x cv 1 (rowsI ((AL.take i).map fun a=>((clsM p a:Nat):Int)))/\offK cv (n+2+8+7) /\
  h (n+2+6)=some (.rows 521 [rowG (p.cells.map Cell.enc) (p.modules.map Contract.enc) (p.locks.map Lock.enc) (p.threads.map Thread.enc) model (AL.map Acc.enc) cv (.ms (n+2+8+7) 0 N) (fun _ _=>0) (fun _ _=>0) (n+2+4)] false)) rfl ?_ ?_
 ·refine ⟨by simp -dsimp -implicitDefEqProofs only [go_sem,seval],by simp -dsimp -implicitDefEqProofs only [go_sem,seval]; omega, ?_, ?_,zn, .inl ⟨rfl,rfl⟩,(fun i m h=>by cases h), ?_⟩
  ·rw [mskN_zero,hNe]
   simp -dsimp -implicitDefEqProofs only [go_sem,seval]
   rw [if_neg (by omega)]
  ·simp -dsimp -implicitDefEqProofs only [go_sem,seval]
   rw [if_neg (by omega),if_neg (by omega),if_neg (by omega)]
  ·simp -dsimp -implicitDefEqProofs only [go_sem,seval]
 ·clear hT hrs hzl hrl
  rintro i f u Hh z bs hi ⟨h33,hz,hM,hK,cv,hO,hof,hG⟩
  have hw:=wrapS i (by have:AL.length<2^20:=by
                        rw [<- hAL]; have:=accsN_len p l1 (fun x hx=>(l5 x hx).2.1) _ (Nat.le_refl _); unfold accsM; omega
                       omega)
  simp -dsimp -implicitDefEqProofs only [go_sem,seval,h33]
  refine csplit (fun h => ?_) (fun h => ?_) <;> (try rw [h]) <;> (try simp only [bools] at h) <;> (try simp -dsimp -implicitDefEqProofs only [go_sem,seval,h33])
  ·obtain ⟨a,ha,ham⟩:=get_of ‹i<AL.length›
   rw [<- hAL] at ham
   obtain ⟨x,s,hx,hs,_⟩:=mem_accs.1 ham
   have hok:=ok_acc hp ham
   have hT:=graph_toT hG (OwnB.shw (es:=(AL.take i).map fun a=>[ti (clsM p a)]) (by
    have e:rowsI ((AL.take i).map fun a=>((clsM p a:Nat):Int))=((AL.take i).map fun a=>[ti (clsM p a)]).map (·.map V.t):=by simp only [rowsI,List.map_map]; rfl
    rw [<- e]; exact hO)) (by
    intro e he t ht
    obtain ⟨y,_,rfl⟩:=List.mem_map.1 he
    simp only [List.mem_cons,List.not_mem_nil,or_false] at ht
    rw [ht]; rfl) (msk_shw hM (by rw [mskN_len,hNe])) (u64_norm _) hK
   have hb:=(clsM_bounds hp ham).2
   rw [hNe] at hb
   have hat:=(mskN_at p i (c:=clsM p a) (by rw [hNe]; exact hb))
   generalize (List.foldl (fun m b=>if clsM p b=clsM p a then m ||| 1 <<< b.st else m) 0 ((accsM p).take i))=m0 at hat
   have hm0:=mskN_lt p hp hat
   have hsucc:=mskN_succ p (by rw [hAL]; exact ha) hat
   have hma:a.th*(2*(p.cells.length+p.threads.length))<=4*72:=Nat.mul_le_mul (by omega) (by omega)
   have hm1:IntKind.i64.wrap ((a.th:Int)*(2*((p.cells.length:Int)+p.threads.length)))=((a.th*(2*(p.cells.length+p.threads.length)):Nat):Int):=by
    rw [show (a.th:Int)*(2*((p.cells.length:Int)+p.threads.length))=((a.th*(2*(p.cells.length+p.threads.length)):Nat):Int) by push_cast; rfl,wrap64 (by omega)]
   have hm2:IntKind.i64.wrap (2*(a.ce:Int))=((2*a.ce:Nat):Int):=by rw [wrap64 (by omega)]; push_cast; rfl
   have hcl:clsM p a=a.th*(2*(p.cells.length+p.threads.length))+2*a.ce+if (a.wr&&decide (a.ce<p.cells.length))||decide ((p.stepAt a.th a.st).kind=7) then 1 else 0:=rfl
   rw [stepAt_of hx hs] at hcl
   generalize a.th*(2*(p.cells.length+p.threads.length))=M at hm1 hma hcl
   have hm3:IntKind.i64.wrap ((M:Int)+((2*a.ce:Nat):Int))=((M+2*a.ce:Nat):Int):=by rw [wrap64 (by omega)]; push_cast; rfl
   have hm4:IntKind.i64.wrap (((M+2*a.ce:Nat):Int)+1)=((M+2*a.ce+1:Nat):Int):=by rw [wrap64 (by omega)]; push_cast; rfl
   have ht2:(p.threads.map Thread.enc)[a.th]? = some x.enc:=by rw [List.getElem?_map,hx]; rfl
   have hln:(rowsI ((AL.take i).map fun a=>((clsM p a:Nat):Int))).length<2^32:=by
    have:=accsN_len p l1 (fun x hx=>(l5 x hx).2.1) _ (Nat.le_refl _)
    rw [rowsI_len,List.length_map,List.length_take, <- hAL]; unfold accsM; omega
   have hsnoc:rowsI ((AL.take i).map fun a=>((clsM p a:Nat):Int))++[[V.t (T.int .i64 (clsM p a))]]=rowsI ((AL.take (i+1)).map fun a=>((clsM p a:Nat):Int)):=by
    rw [take_succ_of ha]; simp [rowsI]
   have hrow:=rowsU_at hat
   have hrlen:(rowsU (mskN p i)).length=N:=by rw [rowsU_len,mskN_len,hNe]
   have hcb:((clsM p a:Int)<N)=True:=by simp; omega
   have hs1:=u_shl (i:=a.st) hok.2.1
   have hor:=u_or hm0 (one_lt (i:=a.st) hok.2.1)
   simp -dsimp -implicitDefEqProofs only [go_sem,seval,h33,ha, ↓hT,hsz,hm1,hm2,hm3]
   by_cases hA:a.wr=true/\a.ce<p.cells.length
   ·obtain ⟨hA1,hA2⟩:=hA
    have hA3:((a.ce:Int)<p.cells.length)=True:=by simp; omega
    rw [hA1,decide_eq_true hA2,Bool.true_and,Bool.true_or,if_pos rfl] at hcl
    rw [<- hcl] at hm4
    have v1:=hO.valOf
    have hO0:=hO.le (y:=z+1) (by omega)
    have v5:=hO0.r5
    simp -dsimp -implicitDefEqProofs only [go_sem,seval,hA1,hA2,hA3,hm4,hG,v1,v5]
    refine putA_app1 (hO0.upd (by omega) _) (by omega) hln (by decide) rfl (rowsI_all _) ?_
    intro v hp' hO2 hoffs hkeep
    obtain ⟨kv,mv,rfl⟩:=hO2.msE (by simp)
    have yG:=hkeep (n+2+6) (by omega) (hO.offR hG (by decide))
    have yM:=hkeep (n+2+8+7) (by omega) hof
    have yK:=hkeep (n+2+4) (by omega) (hO.offM hK)
    rw [updC_at,if_neg (by omega),hG] at yG
    rw [updC_at,if_neg (by omega),hM] at yM
    rw [updC_at,if_neg (by omega),hK] at yK
    have k1:=hoffs (n+2+8+7) (by omega)
    have k2:=hoffs (n+2+6) (by omega)
    rw [hsnoc] at hO2
    simp -dsimp -implicitDefEqProofs only [go_sem,seval,yG,yM,yK,hrow,hrlen,hcb,hs1,hor,h33,hn9,hq1,hq2,hq3,hq4,hq5]
    refine ⟨by omega,by simp -dsimp -implicitDefEqProofs only [go_sem,seval,h33,hw],by simp -dsimp -implicitDefEqProofs only [go_sem,seval]; omega,by simp -dsimp -implicitDefEqProofs only [go_sem,seval,rowsU_set,hsucc],by simp -dsimp -implicitDefEqProofs only [go_sem,seval,yK,hq2,hq4], .ms kv 0 mv, ?_,k1,by simp -dsimp -implicitDefEqProofs only [go_sem,seval,hq1,hn9]⟩
    simp -dsimp -implicitDefEqProofs only [go_sem,seval]
    refine ((hO2.updO k2 _).updO k1 _).le ?_; omega
   ·have hwc:a.wr=false\/(a.wr=true/\((a.ce:Int)<p.cells.length)=False):=by
     cases hwr:a.wr
     ·exact .inl rfl
     ·refine .inr ⟨rfl, ?_⟩
      have : ¬ a.ce<p.cells.length:=fun h=>hA ⟨hwr,h⟩
      simp; omega
    have hfl:(a.wr&&decide (a.ce<p.cells.length))=false:=by
     rcases hwc with h | ⟨h,h2⟩
     ·rw [h]; rfl
     ·simp at h2; rw [h]; simp; omega
    rw [hfl,Bool.false_or] at hcl
    have v1:=hO.valOf
    rcases hwc with hw1 | ⟨hw1,hw2⟩
    all_goals
     first | simp -dsimp -implicitDefEqProofs only [go_sem,seval,hw2,hw1] | simp -dsimp -implicitDefEqProofs only [go_sem,seval,hw1]
     refine rawK_of (gstepH_den _ p a.th a.st _ _ hG hx hs) ?_
     rintro r h' n' ⟨rfl,rfl,hn'⟩
     have hzn:z<=n' := by
      refine Nat.le_trans ?_ hn'
      omega
     have hO0:=hO.le hzn
     have v2:=hO0.r1
     have v3:=hO0.r2
     have v4:=hO0.r3
     have v5:=hO0.r4
     by_cases hk:s.kind=7
     ·rw [decide_eq_true hk,if_pos rfl] at hcl
      rw [<- hcl] at hm4
      simp -dsimp -implicitDefEqProofs only [go_sem,seval,hk,hm4,hG,v1,v2,v3,v4,v5]
      refine putA_app1 (hO0.upd (by omega) _) (by omega) hln (by decide) rfl (rowsI_all _) ?_
      intro v hp' hO2 hoffs hkeep
      obtain ⟨kv,mv,rfl⟩:=hO2.msE (by simp)
      have yG:=hkeep (n+2+6) (by omega) (hO.offR hG (by decide))
      have yM:=hkeep (n+2+8+7) (by omega) hof
      have yK:=hkeep (n+2+4) (by omega) (hO.offM hK)
      rw [updC_at,if_neg (by omega),hG] at yG
      rw [updC_at,if_neg (by omega),hM] at yM
      rw [updC_at,if_neg (by omega),hK] at yK
      have k1:=hoffs (n+2+8+7) (by omega)
      have k2:=hoffs (n+2+6) (by omega)
      rw [hsnoc] at hO2
      simp -dsimp -implicitDefEqProofs only [go_sem,seval,yG,yM,yK,hrow,hrlen,hcb,hs1,hor,h33,hn9,hq1,hq2,hq3,hq4,hq5]
      refine ⟨by omega,by simp -dsimp -implicitDefEqProofs only [go_sem,seval,h33,hw],by simp -dsimp -implicitDefEqProofs only [go_sem,seval]; omega,by simp -dsimp -implicitDefEqProofs only [go_sem,seval,rowsU_set,hsucc],by simp -dsimp -implicitDefEqProofs only [go_sem,seval,yK,hq2,hq4], .ms kv 0 mv, ?_,k1,by simp -dsimp -implicitDefEqProofs only [go_sem,seval,hq1,hn9]⟩
      simp -dsimp -implicitDefEqProofs only [go_sem,seval]
      refine ((hO2.updO k2 _).updO k1 _).le ?_; omega
     ·have hk' : (s.kind=7)=False:=by simp [hk]
      rw [decide_eq_false hk] at hcl
      simp only [Bool.false_eq_true,if_false,Nat.add_zero] at hcl
      rw [hcl] at hsucc hrow hcb hsnoc
      simp -dsimp -implicitDefEqProofs only [go_sem,seval,hk',hG,v1,v2,v3,v4,v5]
      refine putA_app1 (hO0.upd (by omega) _) (by omega) hln (by decide) rfl (rowsI_all _) ?_
      intro v hp' hO2 hoffs hkeep
      obtain ⟨kv,mv,rfl⟩:=hO2.msE (by simp)
      have yG:=hkeep (n+2+6) (by omega) (hO.offR hG (by decide))
      have yM:=hkeep (n+2+8+7) (by omega) hof
      have yK:=hkeep (n+2+4) (by omega) (hO.offM hK)
      rw [updC_at,if_neg (by omega),hG] at yG
      rw [updC_at,if_neg (by omega),hM] at yM
      rw [updC_at,if_neg (by omega),hK] at yK
      have k1:=hoffs (n+2+8+7) (by omega)
      have k2:=hoffs (n+2+6) (by omega)
      rw [hsnoc] at hO2
      simp -dsimp -implicitDefEqProofs only [go_sem,seval,yG,yM,yK,hrow,hrlen,hcb,hs1,hor,h33,hn9,hq1,hq2,hq3,hq4,hq5]
      refine ⟨by omega,by simp -dsimp -implicitDefEqProofs only [go_sem,seval,h33,hw],by simp -dsimp -implicitDefEqProofs only [go_sem,seval]; omega,by simp -dsimp -implicitDefEqProofs only [go_sem,seval,rowsU_set,hsucc],by simp -dsimp -implicitDefEqProofs only [go_sem,seval,yK,hq2,hq4], .ms kv 0 mv, ?_,k1,by simp -dsimp -implicitDefEqProofs only [go_sem,seval,hq1,hn9]⟩
      simp -dsimp -implicitDefEqProofs only [go_sem,seval]
      refine ((hO2.updO k2 _).updO k1 _).le ?_; omega
  ·have hia:i=AL.length:=by omega
   subst hia
   rw [List.take_length] at hO
   have hmsk:mskN p AL.length=(grM p model).msk:=by
    rw [<- hAL]; unfold mskN; rw [List.take_length]; rfl
   rw [hmsk] at hM
   refine loopYH 10384591241189576686300442860193280 p.threads.length (fun k f h x=>(f 91).v=vi k/\n+18<=x/\h (n+2+8+7)=some (.rows 1 (rowsU (grM p model).msk) false)/\h (n+2+4)=some (.map [])/\OwnB h x cv 1 (rowsI (AL.map fun a=>((clsM p a:Nat):Int))) /\
    h (n+2+6)=some (.rows 521 [rowG (p.cells.map Cell.enc) (p.modules.map Contract.enc) (p.locks.map Lock.enc) (p.threads.map Thread.enc) model (AL.map Acc.enc) cv (.ms (n+2+8+7) 0 N) (fstR (grM p model).ldAt k) (fstR (grM p model).qkAt k) (n+2+4)] false)) rfl ?_ ?_
   ·refine ⟨by simp -dsimp -implicitDefEqProofs only [go_sem,seval],by simp -dsimp -implicitDefEqProofs only [go_sem,seval]; omega,by simp -dsimp -implicitDefEqProofs only [go_sem,seval,hM],by simp -dsimp -implicitDefEqProofs only [go_sem,seval,hK],by (try simp -dsimp -implicitDefEqProofs only [go_sem,seval]); exact hO.le (by (try simp -dsimp -implicitDefEqProofs only [go_sem,seval]) <;> omega),by simp -dsimp -implicitDefEqProofs only [go_sem,seval,hG]; rfl⟩
   ·rintro k f2 u2 H2 z2 bs2 hk ⟨h91,hz2,hM2,hK2,hO2,hG2⟩
    have hw2:=wrapS k (by omega)
    simp -dsimp -implicitDefEqProofs only [go_sem,seval,h91]
    refine csplit (fun h => ?_) (fun h => ?_) <;> (try rw [h]) <;> (try simp only [bools] at h) <;> (try simp -dsimp -implicitDefEqProofs only [go_sem,seval,h91])
    ·obtain ⟨x,hx,hxm⟩:=get_of ‹k<p.threads.length›
     have hr1:=reach_den 312 _ build1_den x.steps (l5 x hxm).2.1
     have hr2:=reach_den 313 _ build2_den x.steps (l5 x hxm).2.1
     have hk4:((k:Int)<4)=True:=by simp; omega
     have hrl:=restV_len (fstR (grM p model).ldAt k) (fstR (grM p model).qkAt k) (n+2+4)
     have ha1:(arr (reachM (fun _=>true) x.steps)).length=64:=by rw [arr_len,reachM_len _ (l5 x hxm).2.1]
     have ha2:(arr (reachM innerM x.steps)).length=64:=by rw [arr_len,reachM_len _ (l5 x hxm).2.1]
     have hc1:(8+k*64<=457)=True:=by simp; omega
     have hc2:(264+k*64<=457)=True:=by simp; omega
     have hgl := @rowG_wl' (p.cells.map Cell.enc) (p.modules.map Contract.enc) (p.locks.map Lock.enc) (p.threads.map Thread.enc) (AL.map Acc.enc) model cv (.ms (n+2+8+7) 0 N) (fstR (grM p model).ldAt k) (fstR (grM p model).qkAt k) (n+2+4) k (reachM (fun _=>true) x.steps) (by omega) (reachM_len _ (l5 x hxm).2.1)
     have hgq := @rowG_wq' (p.cells.map Cell.enc) (p.modules.map Contract.enc) (p.locks.map Lock.enc) (p.threads.map Thread.enc) (AL.map Acc.enc) model cv (.ms (n+2+8+7) 0 N) (fstR (grM p model).ldAt (k+1)) (fstR (grM p model).qkAt k) (n+2+4) k (reachM innerM x.steps) (by omega) (reachM_len _ (l5 x hxm).2.1)
     have e0 : ∀ (F:Nat->Nat->Nat) (l:List Nat),(∀ i,F k i=l.getD i 0)->updR (fstR F k) k l=fstR F (k+1):=by
      intro F l hF
      funext t i
      unfold updR fstR
      by_cases h1:t=k
      ·subst h1; simp [hF]
      ·rw [if_neg h1]
       by_cases h2:t<k
       ·rw [if_pos h2,if_pos (by omega)]
       ·rw [if_neg h2,if_neg (by omega)]
     have e1:=e0 (grM p model).ldAt (reachM (fun _=>true) x.steps) (fun i=>by simp [Gr.ldAt,grM,List.getD_eq_getElem?_getD,hx])
     have e2:=e0 (grM p model).qkAt (reachM innerM x.steps) (fun i=>by simp [Gr.qkAt,grM,List.getD_eq_getElem?_getD,hx])
     rw [e1] at hgl
     rw [e2] at hgq
     have hrl2:=restV_len (fstR (grM p model).ldAt (k+1)) (fstR (grM p model).qkAt k) (n+2+4)
     simp -dsimp -implicitDefEqProofs only [go_sem,seval,h91,hx,hr1,hr2,hG2,hk4,ha1,ha2,hrl,hrl2,hgl,hgq,hc1,hc2]
     refine ⟨by omega,by simp -dsimp -implicitDefEqProofs only [go_sem,seval,h91,hw2],by simp -dsimp -implicitDefEqProofs only [go_sem,seval]; omega,by simp -dsimp -implicitDefEqProofs only [go_sem,seval,hM2,hn9,hq1],by simp -dsimp -implicitDefEqProofs only [go_sem,seval,hK2,hq2], ?_,by simp -dsimp -implicitDefEqProofs only [go_sem,seval]⟩
     simp -dsimp -implicitDefEqProofs only [go_sem,seval]
     have ho:=hO2.offR hG2 (by decide)
     refine ((hO2.updO ho _).updO ho _).le ?_; omega
    ·have hkn:k=p.threads.length:=by omega
     subst hkn
     have hfl : ∀ f:Nat->Nat->Nat,(∀ t i,p.threads.length<=t->f t i=0)->fstR f p.threads.length=f:=by
      intro f hf
      funext t i
      unfold fstR
      split
      ·rfl
      ·rw [hf t i (by omega)]
     rw [hfl (grM p model).ldAt (fun t i h=>by simp [Gr.ldAt,grM,List.getD_eq_getElem?_getD,List.getElem?_eq_none h]),hfl (grM p model).qkAt (fun t i h=>by simp [Gr.qkAt,grM,List.getD_eq_getElem?_getD,List.getElem?_eq_none h])] at hG2
     refine ⟨n+2+6,rfl,⟨cv,n+2+8+7,n+2+4, ?_, ?_,hM2,hK2, ?_, ?_, ?_⟩⟩
     ·rw [hG2,show (grM p model).msk.length=N by simp [grM,hNe],show (grM p model).all=AL from hAL]
     ·rw [show (grM p model).cls=(accsM p).map (clsM p) from rfl,hAL,List.map_map]
      (try simp -dsimp -implicitDefEqProofs only [go_sem,seval])
      refine hO2.le ?_
      omega
     ·(try simp -dsimp -implicitDefEqProofs only [go_sem,seval]); omega
     ·(try simp -dsimp -implicitDefEqProofs only [go_sem,seval]); omega
     ·(try simp -dsimp -implicitDefEqProofs only [go_sem,seval]); omega
end Rg
end
section
namespace Rg
open Go
theorem i_bv {x:Nat} (hx:x<2^62):(BitVec.ofInt 64 (x:Int)).toNat=x:=by simp [BitVec.toNat_ofInt]; omega
theorem i_or {a b:Nat} (ha:a<2^62) (hb:b<2^62):IntKind.i64.wrap ((BitVec.ofInt IntKind.i64.bits (a:Int) ||| BitVec.ofInt IntKind.i64.bits (b:Int)).toNat:Int)=((a ||| b:Nat):Int):=by
 show IntKind.i64.wrap ((BitVec.ofInt 64 (a:Int) ||| BitVec.ofInt 64 (b:Int)).toNat:Int)=_
 have:=Nat.or_lt_two_pow ha hb
 rw [BitVec.toNat_or,i_bv ha,i_bv hb,wrap64 (by omega)]
theorem i_and1 {a:Nat} (ha:a<2^62):IntKind.i64.wrap ((BitVec.ofInt IntKind.i64.bits (a:Int) &&& BitVec.ofInt IntKind.i64.bits 1).toNat:Int)=((a &&& 1:Nat):Int):=by
 show IntKind.i64.wrap ((BitVec.ofInt 64 (a:Int) &&& BitVec.ofInt 64 ((1:Nat):Int)).toNat:Int)=_
 have:a &&& 1<=a:=Nat.and_le_left
 rw [BitVec.toNat_and,i_bv ha,i_bv (by omega),wrap64 (by omega)]
theorem i_shl {i:Nat} (h:i<62):(if (i:Int)<0 then none else some (T.int .i64 (IntKind.i64.wrap (1*2^min i 64))))=some (T.int .i64 ((1 <<< i:Nat):Int)):=by
 rw [if_neg (by omega),Nat.min_eq_left (by omega)]
 have e:(1*2^i:Int)=((1 <<< i:Nat):Int):=by rw [Nat.one_shiftLeft]; push_cast; omega
 have h2:(1 <<< i:Nat)<2^62:=by rw [Nat.one_shiftLeft]; exact Nat.pow_lt_pow_right (by omega) h
 rw [e]
 generalize (1 <<< i:Nat)=q at h2 ⊢
 rw [wrap64 (by omega)]
theorem i_shr (a i:Nat) (h:i<=64):(if (i:Int)<0 then none else some (T.int .i64 ((a:Int).fdiv (2^min i 64))))=some (T.int .i64 ((a >>> i:Nat):Int)):=by
 rw [if_neg (by omega),Nat.min_eq_left h]
 congr 2
 rw [Nat.shiftRight_eq_div_pow,Int.fdiv_eq_ediv_of_nonneg _ (by exact Int.le_of_lt (Int.pow_pos (by omega)))]
 simp
def keyT (goal c m r:Nat):T:=.sl [[ti goal,ti c,ti m,ti r]]
def MemoOk (g:Gr) (es:List (T×V)):Prop := ∀ e∈es, ∃ goal c m r:Nat,e.1=keyT goal c m r/\e.2=vb (g.ends r goal c m)
theorem key_eq (a b c d a' b' c' d' : Nat):keyEq (keyT a b c d) (keyT a' b' c' d')=some (decide (a=a' /\ b=b' /\ c=c' /\ d=d')):=by
 have h : ∀ x y:Nat,(((x:Int)==(y:Int)):Bool)=decide (x=y):=by intro x y; rw [beqI]; simp [Int.ofNat_inj]
 simp only [keyT,keyEq,keyEqs,keyEq1,if_true,h,Option.bind_eq_bind,Option.bind_some,Bool.and_true,Bool.decide_and]
theorem memo_find {g:Gr} (goal c m r:Nat) : ∀ {es:List (T×V)},MemoOk g es->mapFind (keyT goal c m r) es=some none\/mapFind (keyT goal c m r) es=some (some (vb (g.ends r goal c m)))
 | [],_ => .inl rfl
 | e::es,h=>by
   obtain ⟨a,b,c',d,h1,h2⟩:=h e List.mem_cons_self
   obtain ⟨k,v⟩:=e
   simp only at h1 h2
   subst h1 h2
   simp only [mapFind,key_eq]
   by_cases he:goal=a/\c=b/\m=c' /\ r=d
   ·rw [decide_eq_true he]
    obtain ⟨rfl,rfl,rfl,rfl⟩:=he
    exact .inr rfl
   ·rw [decide_eq_false he]
    exact memo_find goal c m r fun e he=>h e (List.mem_cons_of_mem _ he)
theorem memo_put {g:Gr} (goal c m r:Nat) : ∀ {es:List (T×V)},MemoOk g es -> ∃ es',mapPut (keyT goal c m r) (vb (g.ends r goal c m)) es=some es' /\ MemoOk g es'
 | [],_=>⟨_,rfl,fun e he=>by rw [List.mem_singleton.1 he]; exact ⟨goal,c,m,r,rfl,rfl⟩⟩
 | e::es,h=>by
   obtain ⟨a,b,c',d,h1,h2⟩:=h e List.mem_cons_self
   obtain ⟨k,v⟩:=e
   simp only at h1 h2
   subst h1 h2
   simp only [mapPut,key_eq]
   by_cases he:goal=a/\c=b/\m=c' /\ r=d
   ·rw [decide_eq_true he]
    refine ⟨_,rfl,fun e he' => ?_⟩
    rcases List.mem_cons.1 he' with rfl | h1
    ·exact ⟨goal,c,m,r,rfl,rfl⟩
    ·exact h e (List.mem_cons_of_mem _ h1)
   ·rw [decide_eq_false he]
    obtain ⟨es',h1,h2⟩:=memo_put goal c m r (es:=es) fun e he=>h e (List.mem_cons_of_mem _ he)
    refine ⟨_,by rw [h1]; rfl,fun e he' => ?_⟩
    rcases List.mem_cons.1 he' with rfl | h3
    ·exact h _ List.mem_cons_self
    ·exact h2 e h3
structure GrB (H:Nat->Option O) (kG kM kn:Nat) (cv:V) (p:Prog) (model:Int) (g:Gr) (f1 f2:Bool):Prop where
 row:H kG=some (.rows 521 [rowG (p.cells.map Cell.enc) (p.modules.map Contract.enc) (p.locks.map Lock.enc) (p.threads.map Thread.enc) model (g.all.map Acc.enc) cv (.ms kM 0 g.msk.length) g.ldAt g.qkAt kn] f1)
 cls:Shw H cv 1 (g.cls.map fun c:Nat=>[ti c])
 msk:H kM=some (.rows 1 (rowsU g.msk) f2)
 neG:kG≠kn
 neM:kM≠kn
 off:offK cv kn
 ok:g.Ok
 nt4:g.nt<=4
 nc:g.nc=p.cells.length
 cl:p.cells.length<=32
 nt:g.nt=p.threads.length
noncomputable def HM (H:Nat->Option O) (kn:Nat) (es:List (T×V)):Nat->Option O:=updC H kn (some (.map es))
theorem HM_upd (H:Nat->Option O) (kn:Nat) (es es' : List (T×V)):updC (HM H kn es) kn (some (.map es'))=HM H kn es' := by
 funext k
 simp only [HM,updC_at]
 split <;> rfl
theorem HM_at (H:Nat->Option O) (kn:Nat) (es:List (T×V)):HM H kn es kn=some (.map es):=by rw [HM,updC_at,if_pos rfl]
theorem HM_ne (H:Nat->Option O) {k kn:Nat} (es:List (T×V)) (h:k≠kn):HM H kn es k=H k:=by rw [HM,updC_at,if_neg h]
namespace GrB
variable {H:Nat->Option O} {kG kM kn:Nat} {cv:V} {p:Prog} {model:Int} {g:Gr} {f1 f2:Bool} (b:GrB H kG kM kn cv p model g f1 f2)
include b
theorem rowM (es:List (T×V)):HM H kn es kG=some (.rows 521 [rowG (p.cells.map Cell.enc) (p.modules.map Contract.enc) (p.locks.map Lock.enc) (p.threads.map Thread.enc) model (g.all.map Acc.enc) cv (.ms kM 0 g.msk.length) g.ldAt g.qkAt kn] f1):=by rw [HM_ne _ _ b.neG,b.row]
theorem mskM (es:List (T×V)):HM H kn es kM=some (.rows 1 (rowsU g.msk) f2):=by rw [HM_ne _ _ b.neM,b.msk]
theorem clsM (es:List (T×V)):Shw (HM H kn es) cv 1 (g.cls.map fun c:Nat=>[ti c]):=by
 rcases b.cls with h | ⟨k,f,rfl,hk⟩
 ·exact .inl h
 ·refine .inr ⟨k,f,rfl, ?_⟩
  have:k≠kn:=by rintro rfl; exact b.off _ _ rfl
  rw [HM_ne _ _ this]; exact hk
theorem tree (es:List (T×V)):toT1 (HM H kn es) (.mp kG 0 0)=some (.t (grT (p.cells.map Cell.enc) (p.modules.map Contract.enc) (p.locks.map Lock.enc) (p.threads.map Thread.enc) model g)):=by
 have:=graph_toT (b.rowM es) (b.clsM es) (by
  intro e he t ht
  obtain ⟨y,_,rfl⟩:=List.mem_map.1 he
  simp only [List.mem_cons,List.not_mem_nil,or_false] at ht
  rw [ht]; rfl) (msk_shw (b.mskM es) rfl) (u64_norm _) (HM_at H kn es)
 rw [this]
 simp only [grT,ints,List.map_map,restT]
 rfl
theorem szL:g.msk.length<=4*72:=by
 have h1:=b.nt4
 have h2:=b.nc
 have h3:=b.cl
 rw [b.ok.msk_len]
 exact Nat.mul_le_mul b.nt4 (by unfold Gr.sz; omega)
theorem szE:g.sz=2*(p.cells.length+p.threads.length):=by unfold Gr.sz; rw [b.nc,b.nt]
theorem pos {c:Nat} (hc:c<g.msk.length):0<p.cells.length+p.threads.length:=by
 have h1:=b.ok.msk_len
 have h2:=b.szE
 apply Classical.byContradiction; intro h
 have:g.sz=0:=by omega
 rw [this] at h1; omega
theorem thr_lt {c:Nat} (hc:c<g.msk.length):g.thr c<4:=by
 have h1:=b.ok.msk_len
 have h2:=b.szE
 have h3:=b.pos hc
 have:g.thr c<g.nt:=by rw [Gr.thr,Nat.div_lt_iff_lt_mul (by omega), <- h1]; exact hc
 have:=b.nt4
 omega
theorem thr_den {c:Nat} (hc:c<g.msk.length):Den Γ G 316 [.t (grT (p.cells.map Cell.enc) (p.modules.map Contract.enc) (p.locks.map Lock.enc) (p.threads.map Thread.enc) model g),vi c]=some (vi (g.thr c)):=by
 have h0:=b.pos hc
 have h1:=b.szL
 have h2:=b.cl
 have h3:=b.nt4
 have h4:=b.nt
 have:=gthread_den (p.cells.map Cell.enc) (p.modules.map Contract.enc) (p.locks.map Lock.enc) (p.threads.map Thread.enc) (.int .i64 model :: .sl (g.all.map Acc.enc)::ints (g.cls.map fun c:Nat=>(c:Int))::u64s g.msk::restT g) c (by simp; omega) (by simp; omega) (by simpa using h0) (by omega)
 simp only [List.length_map] at this
 rw [<- b.szE] at this
 exact this
theorem pr_den {c d:Nat} (hc:c<g.msk.length) (hd:d<g.msk.length):Den Γ G 321 [.t (grT (p.cells.map Cell.enc) (p.modules.map Contract.enc) (p.locks.map Lock.enc) (p.threads.map Thread.enc) model g),vi c,vi d]=some (vb (g.prec c d)):=by
 have h0:=b.pos hc
 have h1:=b.szL
 have h2:=b.cl
 have h3:=b.nt4
 have h4:=b.nt
 have:=prec_den (p.cells.map Cell.enc) (p.modules.map Contract.enc) (p.locks.map Lock.enc) (p.threads.map Thread.enc) (.int .i64 model :: .sl (g.all.map Acc.enc)::ints (g.cls.map fun c:Nat=>(c:Int))::u64s g.msk::restT g) c d (by simp; omega) (by simp; omega) (by simpa using h0) (by omega) (by omega)
 simp only [List.length_map] at this
 rw [<- b.nc, <- b.nt] at this
 exact this
theorem cp_den {c d:Nat} (hc:c<g.msk.length) (hd:d<g.msk.length):Den Γ G 325 [.t (grT (p.cells.map Cell.enc) (p.modules.map Contract.enc) (p.locks.map Lock.enc) (p.threads.map Thread.enc) model g),vi c,vi d]=some (vb (g.couple c d)):=by
 have h2:=b.cl
 exact couple_den _ _ _ _ model g b.ok b.nt4 (by simp [b.nc]) (by simp; omega) (by simp [b.nt]) c d hc hd
end GrB
def PE (H:Nat->Option O) (kG kn:Nat) (g:Gr) (r:Nat):Prop := ∀ (goal c m:Nat) (es:List (T×V)) (n:Nat),goal<g.msk.length->c<g.msk.length->m<16->MemoOk g es ->
 ∃ rr h' n',DenR Γ G 315 [.mp kG 0 0,vi goal,vi c,vi m,vi r] (HM H kn es) n=some (rr,h',n')/\rr=vb (g.ends r goal c m) /\ ∃ es',MemoOk g es' /\ h' = HM H kn es'
def PO (H:Nat->Option O) (kG kn:Nat) (g:Gr) (r:Nat):Prop := ∀ (goal c m:Nat) (es:List (T×V)) (n:Nat),goal<g.msk.length->c<g.msk.length->m<16->MemoOk g es ->
 ∃ rr h' n',DenR Γ G 322 [.mp kG 0 0,vi goal,vi c,vi m,vi r] (HM H kn es) n=some (rr,h',n')/\rr=vb (g.opens r goal c m) /\ ∃ es',MemoOk g es' /\ h' = HM H kn es'
set_option maxHeartbeats 2000000
theorem opens_of {H:Nat->Option O} {kG kM kn:Nat} {cv:V} {p:Prog} {model:Int} {g:Gr} {f1 f2:Bool} (b:GrB H kG kM kn cv p model g f1 f2) {r:Nat} (hr:r<100) (h1:PE H kG kn g r) (h2:0<r->PE H kG kn g (r-1)):PO H kG kn g r:=by
 intro goal c m es n hg hc hm hes
 (refine denR_ofY Γ322 rfl ?_; dsimp only [f322])
 simp -dsimp -implicitDefEqProofs only [go_sem,seval]
 refine rawK_of (h1 goal c m es _ hg hc hm hes) ?_
 rintro _ h' n' ⟨rfl,es1,hes1,rfl⟩
 cases he:g.ends r goal c m
 ·simp -dsimp -implicitDefEqProofs only [go_sem,seval]
  have hM:=b.mskM es1
  have hG:=b.rowM es1
  have hop:g.opens r goal c m=(decide (0<r)&&(List.range g.msk.length).any fun e=>decide (g.thr e=g.thr c)&&(g.couple c e&&g.ends (r-1) goal e m)):=by
   unfold Gr.opens; rw [he,Bool.false_or]
  have hsz:=b.szL
  have hlen:(rowsU g.msk).length=g.msk.length:=rowsU_len _
  simp -dsimp -implicitDefEqProofs only [go_sem,seval,hG,hM]
  refine loopYH 9007199246355456 g.msk.length (fun i f h x=>(f 23).v=vi i/\(∃ es,MemoOk g es/\h=HM H kn es)/\g.opens r goal c m=(decide (0<r)&&(((List.range g.msk.length).drop i).any fun e=>decide (g.thr e=g.thr c)&&(g.couple c e&&g.ends (r-1) goal e m)))) rfl ⟨by simp -dsimp -implicitDefEqProofs only [go_sem,seval],⟨es1,hes1,rfl⟩,hop⟩ ?_
  clear hM hG hes hes1
  rintro i f u h x bs hi ⟨h23,⟨es2,hes2,rfl⟩,hany⟩
  have hw:=wrapS i (by omega)
  simp -dsimp -implicitDefEqProofs only [go_sem,seval,h23]
  refine csplit (fun h => ?_) (fun h => ?_) <;> (try rw [h]) <;> (try simp only [bools] at h) <;> (try simp -dsimp -implicitDefEqProofs only [go_sem,seval,h23])
  ·have hic:i<g.msk.length:=by assumption
   have hT:=b.tree es2
   have ht1:=b.thr_den hic
   have ht2:=b.thr_den hc
   have hcp:=b.cp_den hc hic
   have hri:(List.range g.msk.length)[i]? = some i:=List.getElem?_range hic
   by_cases hr0:0<r
   ·have hr1:((r:Int)>0)=True:=by simp; omega
    have hr2:IntKind.i64.wrap ((r:Int)-1)=((r-1:Nat):Int):=by rw [wrap64 (by omega)]; omega
    rw [decide_eq_true hr0,Bool.true_and] at hany ⊢
    simp -dsimp -implicitDefEqProofs only [go_sem,seval,hr1,h23, ↓hT,ht1,ht2,hcp,natE]
    by_cases hth:g.thr i=g.thr c
    ·simp -dsimp -implicitDefEqProofs only [go_sem,seval,hth,h23, ↓hT,ht1,ht2,hcp,natE]
     cases hco:g.couple c i
     ·simp -dsimp -implicitDefEqProofs only [go_sem,seval,h23]
      exact ⟨by omega,by simp -dsimp -implicitDefEqProofs only [go_sem,seval,h23,hw],⟨es2,hes2,rfl⟩,by rw [hany,any_step hri (by rw [hco]; simp)]⟩
     ·simp -dsimp -implicitDefEqProofs only [go_sem,seval,h23,hr2]
      refine rawK_of (h2 hr0 goal i m es2 _ hg hic hm hes2) ?_
      rintro _ h' n' ⟨rfl,es3,hes3,rfl⟩
      simp -dsimp -implicitDefEqProofs only [go_sem,seval,h23]
      cases hen:g.ends (r-1) goal i m
      ·simp -dsimp -implicitDefEqProofs only [go_sem,seval,h23]
       exact ⟨by omega,by simp -dsimp -implicitDefEqProofs only [go_sem,seval,h23,hw],⟨es3,hes3,rfl⟩,by rw [hany,any_step hri (by rw [hen]; simp)]⟩
      ·simp -dsimp -implicitDefEqProofs only [go_sem,seval,h23]
       exact ⟨by rw [hany,any_stop hri (by rw [hen,hco,hth]; simp)]; rfl,es3,hes3,rfl⟩
    ·have hth' : (g.thr i=g.thr c)=False:=by simp [hth]
     simp -dsimp -implicitDefEqProofs only [go_sem,seval,hth',h23]
     exact ⟨by omega,by simp -dsimp -implicitDefEqProofs only [go_sem,seval,h23,hw],⟨es2,hes2,rfl⟩,by rw [hany,any_step hri (by simp [hth])]⟩
   ·have hr1:((r:Int)>0)=False:=by simp; omega
    simp -dsimp -implicitDefEqProofs only [go_sem,seval,hr1,h23]
    rw [decide_eq_false hr0,Bool.false_and] at hany
    exact ⟨by omega,by simp -dsimp -implicitDefEqProofs only [go_sem,seval,h23,hw],⟨es2,hes2,rfl⟩,by rw [hany,decide_eq_false hr0,Bool.false_and]⟩
  ·have hin:i=g.msk.length:=by omega
   subst hin
   have hrn:=any_end (fun e=>decide (g.thr e=g.thr c)&&(g.couple c e&&g.ends (r-1) goal e m)) (List.range g.msk.length)
   rw [List.length_range] at hrn
   rw [hrn,Bool.and_false] at hany
   exact ⟨by rw [hany]; rfl,es2,hes2,rfl⟩
 ·simp -dsimp -implicitDefEqProofs only [go_sem,seval]
  exact ⟨by unfold Gr.opens; rw [he,Bool.true_or]; rfl,es1,hes1,rfl⟩
theorem mask_lt {m t:Nat} (hm:m<16) (ht:t<4):m ||| 1 <<< t<16:=by
 have h1:1 <<< t<2^4:=by rw [Nat.one_shiftLeft]; exact Nat.pow_lt_pow_right (by omega) ht
 exact Nat.or_lt_two_pow (n:=4) hm h1
theorem ends_zero {H:Nat->Option O} {kG kM kn:Nat} {cv:V} {p:Prog} {model:Int} {g:Gr} {f1 f2:Bool} (b:GrB H kG kM kn cv p model g f1 f2):PE H kG kn g 0:=by
 intro goal c m es n hg hc hm hes
 have hT:=b.tree es
 have hp:=b.pr_den hc hg
 (refine denR_ofY Γ315 rfl ?_; dsimp only [f315])
 simp -dsimp -implicitDefEqProofs only [go_sem,seval, ↓hT,hp]
 exact ⟨rfl,es,hes,rfl⟩
theorem ends_of {H:Nat->Option O} {kG kM kn:Nat} {cv:V} {p:Prog} {model:Int} {g:Gr} {f1 f2:Bool} (b:GrB H kG kM kn cv p model g f1 f2) {r:Nat} (hr:r<100) (h1:PO H kG kn g r):PE H kG kn g (r+1):=by
 intro goal c m es n hg hc hm hes
 have hT:=b.tree es
 have hG:=b.rowM es
 have hM:=b.mskM es
 have hK:=HM_at H kn es
 have hr0:(((r+1:Nat):Int)=0)=False:=by simp; omega
 have hkey:keyOf 88 (.agg [vi goal,vi c,vi m,vi ((r+1:Nat):Int)])=some (keyT goal c m (r+1)):=rfl
 have hrl:=restV_len g.ldAt g.qkAt kn
 have hd2:List.drop 512 (restV g.ldAt g.qkAt kn)=[.mm kn]:=by
  rw [restV,List.drop_append_of_le_length (by rw [List.length_append,rowsV_len,rowsV_len]; omega),List.drop_of_length_le (by rw [List.length_append,rowsV_len,rowsV_len]; omega)]; rfl
 (refine denR_ofY Γ315 rfl ?_; dsimp only [f315])
 simp -dsimp -implicitDefEqProofs only [go_sem,seval,hr0,hG,hd2,hrl,hkey,hK]
 rcases memo_find goal c m (r+1) hes with hf | hf
 ·have hsz:=b.szL
  have hlen:(rowsU g.msk).length=g.msk.length:=rowsU_len _
  have hsu:=Gr.ends_succ g r goal c m
  simp -dsimp -implicitDefEqProofs only [go_sem,seval,hf,hG,hM,Option.getD_none,Option.isSome_none]
  refine loopYH 4835703278454118652334080 g.msk.length (fun i f h x=>(f 42).v=vi i/\(f 12).v=vb false/\(∃ es,MemoOk g es/\h=HM H kn es)/\g.ends (r+1) goal c m=((List.range g.msk.length).drop i).any fun d=>g.ok c d m&&g.opens r goal d (m ||| 1 <<< g.thr d)) rfl ⟨by simp -dsimp -implicitDefEqProofs only [go_sem,seval],by simp -dsimp -implicitDefEqProofs only [go_sem,seval],⟨es,hes,rfl⟩,hsu⟩ ?_
  clear hM hG hes hT hK hf
  rintro i f u h x bs hi ⟨h42,h12,⟨es2,hes2,rfl⟩,hany⟩
  have hw:=wrapS i (by omega)
  have hT:=b.tree es2
  have hG:=b.rowM es2
  have hM:=b.mskM es2
  have hK:=HM_at H kn es2
  simp -dsimp -implicitDefEqProofs only [go_sem,seval,h42]
  refine csplit (fun h => ?_) (fun h => ?_) <;> (try rw [h]) <;> (try simp only [bools] at h) <;> (try simp -dsimp -implicitDefEqProofs only [go_sem,seval,h42])
  ·have hic:i<g.msk.length:=by assumption
   have ht1:=b.thr_den hic
   have hpr:=b.pr_den hc hic
   have hmk:g.msk[i]? = some (g.mks i):=by simp [Gr.mks,List.getD_eq_getElem?_getD,List.getElem?_eq_getElem hic]
   have hrow:=rowsU_at hmk
   have hci:(i<g.msk.length)=True:=by simp [hic]
   have hz0:(((g.mks i:Nat):Int)=0)=(g.mks i=0):=by simp
   have hth:=b.thr_lt hic
   have hsh:=i_shr m (g.thr i) (by omega)
   have hms:m >>> g.thr i<2^62:=Nat.lt_of_le_of_lt (Nat.shiftRight_le _ _) (by omega)
   have han:=i_and1 hms
   have hbt:=u_bit (a:=m) (i:=g.thr i) (by omega)
   have hsl:=i_shl (i:=g.thr i) (by omega)
   have hor:=i_or (a:=m) (b:=1 <<< g.thr i) (by omega) (by have:=mask_lt (m:=0) (by omega) hth; rw [Nat.zero_or] at this; omega)
   have hsb:IntKind.i64.wrap (((r+1:Nat):Int)-1)=((r:Nat):Int):=by rw [wrap64 (by omega)]; omega
   have hri:(List.range g.msk.length)[i]? = some i:=List.getElem?_range hic
   simp -dsimp -implicitDefEqProofs only [go_sem,seval,h42,hG,hM,hrow,hlen,hci,hz0]
   by_cases hm0:g.mks i=0
   ·simp -dsimp -implicitDefEqProofs only [go_sem,seval,hm0,h42]
    have hno:(g.ok c i m&&g.opens r goal i (m ||| 1 <<< g.thr i))=false:=by simp [Gr.ok,hm0]
    exact ⟨by omega,by simp -dsimp -implicitDefEqProofs only [go_sem,seval,h42,hw],by simp -dsimp -implicitDefEqProofs only [go_sem,seval,h12],⟨es2,hes2,rfl⟩,by rw [hany,any_step hri hno]⟩
   ·have hm0' : (g.mks i=0)=False:=by simp [hm0]
    simp -dsimp -implicitDefEqProofs only [go_sem,seval,hm0',h42, ↓hT,ht1,hsh,han,hbt,hpr]
    cases htb:m.testBit (g.thr i)
    ·simp -dsimp -implicitDefEqProofs only [go_sem,seval,h42, ↓hT,hpr]
     cases hpc:g.prec c i
     ·simp -dsimp -implicitDefEqProofs only [go_sem,seval,h42]
      have hno:(g.ok c i m&&g.opens r goal i (m ||| 1 <<< g.thr i))=false:=by simp [Gr.ok,hpc]
      exact ⟨by omega,by simp -dsimp -implicitDefEqProofs only [go_sem,seval,h42,hw],by simp -dsimp -implicitDefEqProofs only [go_sem,seval,h12],⟨es2,hes2,rfl⟩,by rw [hany,any_step hri hno]⟩
     ·simp -dsimp -implicitDefEqProofs only [go_sem,seval,h42, ↓hT,ht1,hsl,hor,hsb]
      refine rawK_of (h1 goal i (m ||| 1 <<< g.thr i) es2 _ hg hic (mask_lt hm hth) hes2) ?_
      rintro _ h' n' ⟨rfl,es3,hes3,rfl⟩
      simp -dsimp -implicitDefEqProofs only [go_sem,seval,h42]
      cases hop:g.opens r goal i (m ||| 1 <<< g.thr i)
      ·simp -dsimp -implicitDefEqProofs only [go_sem,seval,h42]
       have hno:(g.ok c i m&&g.opens r goal i (m ||| 1 <<< g.thr i))=false:=by rw [hop,Bool.and_false]
       exact ⟨by omega,by simp -dsimp -implicitDefEqProofs only [go_sem,seval,h42,hw],by simp -dsimp -implicitDefEqProofs only [go_sem,seval,h12],⟨es3,hes3,rfl⟩,by rw [hany,any_step hri hno]⟩
      ·have hyes:(g.ok c i m&&g.opens r goal i (m ||| 1 <<< g.thr i))=true:=by simp [Gr.ok,hm0,htb,hpc,hop]
       rw [any_stop hri hyes] at hany
       obtain ⟨es4,hp4,hes4⟩:=memo_put goal c m (r+1) hes3
       rw [hany] at hp4
       have hG3:=b.rowM es3
       have hK3:=HM_at H kn es3
       have hup:=HM_upd H kn es3 es4
       simp -dsimp -implicitDefEqProofs only [go_sem,seval,hG3,hd2,hrl,hkey,hK3,hp4,hup]
       exact ⟨by rw [hany]; rfl,es4,hes4,by rw [hpC_cons,hpC_nil]; exact hup⟩
    ·simp -dsimp -implicitDefEqProofs only [go_sem,seval,h42]
     have hno:(g.ok c i m&&g.opens r goal i (m ||| 1 <<< g.thr i))=false:=by simp [Gr.ok,htb]
     exact ⟨by omega,by simp -dsimp -implicitDefEqProofs only [go_sem,seval,h42,hw],by simp -dsimp -implicitDefEqProofs only [go_sem,seval,h12],⟨es2,hes2,rfl⟩,by rw [hany,any_step hri hno]⟩
  ·have hin:i=g.msk.length:=by omega
   subst hin
   have hrn:=any_end (fun d=>g.ok c d m&&g.opens r goal d (m ||| 1 <<< g.thr d)) (List.range g.msk.length)
   rw [List.length_range] at hrn
   rw [hrn] at hany
   obtain ⟨es4,hp4,hes4⟩:=memo_put goal c m (r+1) hes2
   rw [hany] at hp4
   have hup:=HM_upd H kn es2 es4
   simp -dsimp -implicitDefEqProofs only [go_sem,seval,hG,hd2,hrl,hkey,hK,hp4,hup,h12]
   exact ⟨by rw [hany]; rfl,es4,hes4,by rw [hpC_cons,hpC_nil]; exact hup⟩
 ·simp -dsimp -implicitDefEqProofs only [go_sem,seval,hf,Option.getD_some,Option.isSome_some]
  exact ⟨rfl,es,hes,rfl⟩
theorem ends_all {H:Nat->Option O} {kG kM kn:Nat} {cv:V} {p:Prog} {model:Int} {g:Gr} {f1 f2:Bool} (b:GrB H kG kM kn cv p model g f1 f2) : ∀ r,r<100->PE H kG kn g r
 | 0,_=>ends_zero b
 | r+1,h=>ends_of b (by omega) (opens_of b (by omega) (ends_all b r (by omega)) fun hr=>by
    cases r with
    | zero=>omega
    | succ r=>exact ends_all b r (by omega))
theorem gfz_other {L:List (Nat×O)} : ∀ {h:Nat->Option O} {k:Nat},(∀ x∈L,x.1≠k)->hpC h L k=h k:=by
 induction L with
 | nil=>intro h k _; rw [hpC_nil]
 | cons x L ih =>
   intro h k hx
   rw [show x=(x.1,x.2) from rfl,hpC_cons,ih fun y hy=>hx y (List.mem_cons_of_mem _ hy),updC_at,if_neg (fun e=>hx x List.mem_cons_self e.symm)]
theorem gfz_gen {k:Nat} {o:O} : ∀ {L:List (Nat×O)} {h:Nat->Option O},(∀ x∈L,x.1=k->x.2=o)->hpC h L k=h k\/hpC h L k=some o:=by
 intro L
 induction L with
 | nil=>intro h _; rw [hpC_nil]; exact .inl rfl
 | cons x L ih =>
   intro h hx
   rw [show x=(x.1,x.2) from rfl,hpC_cons]
   rcases ih (h:=updC h x.1 (some x.2)) (fun y hy=>hx y (List.mem_cons_of_mem _ hy)) with h1 | h1
   ·rw [h1,updC_at]
    split
    ·rename_i he; rw [hx x List.mem_cons_self he.symm]; exact .inr rfl
    ·exact .inl rfl
   ·exact .inr h1
theorem gfz_rows {h:Nat->Option O} {L:List Nat} {k sz:Nat} {rs:List (List V)} {f:Bool} (hk:h k=some (.rows sz rs f)) : ∃ f',hpC h (freezes h L) k=some (.rows sz rs f'):=by
 have:=gfz_gen (k:=k) (o:=.rows sz rs true) (L:=freezes h L) (h:=h) (by
  intro x hx he
  simp only [freezes,List.mem_filterMap] at hx
  obtain ⟨j,_,hj⟩:=hx
  split at hj
  ·rename_i sz' rs' f' hq
   cases hj
   simp only at he
   subst he
   rw [hk] at hq
   cases hq
   rfl
  ·cases hj)
 rcases this with h1 | h1
 ·exact ⟨f,by rw [h1,hk]⟩
 ·exact ⟨true,h1⟩
theorem gfz_map {h:Nat->Option O} {L:List Nat} {k:Nat} {es:List (T×V)} (hk:h k=some (.map es)):hpC h (freezes h L) k=some (.map es):=by
 rw [<- hk]
 refine gfz_other fun x hx he => ?_
 simp only [freezes,List.mem_filterMap] at hx
 obtain ⟨j,_,hj⟩:=hx
 split at hj
 ·rename_i sz' rs' f' hq
  cases hj
  simp only at he
  subst he
  rw [hk] at hq
  cases hq
 ·cases hj
theorem GrB.frz {H:Nat->Option O} {kG kM kn:Nat} {cv:V} {p:Prog} {model:Int} {g:Gr} {f1 f2:Bool} (b:GrB H kG kM kn cv p model g f1 f2) (es:List (T×V)) (L:List Nat) :
 ∃ H' f1' f2',hpC (HM H kn es) (freezes (HM H kn es) L)=HM H' kn es/\GrB H' kG kM kn cv p model g f1' f2' := by
 obtain ⟨f1',h1⟩:=gfz_rows (L:=L) (b.rowM es)
 obtain ⟨f2',h2⟩:=gfz_rows (L:=L) (b.mskM es)
 have h3:=gfz_map (L:=L) (HM_at H kn es)
 refine ⟨hpC (HM H kn es) (freezes (HM H kn es) L),f1',f2', ?_,⟨h1, ?_,h2,b.neG,b.neM,b.off,b.ok,b.nt4,b.nc,b.cl,b.nt⟩⟩
 ·funext k
  by_cases hk:k=kn
  ·subst hk; rw [HM_at,h3]
  ·rw [HM_ne _ _ hk]
 ·rcases b.clsM es with h | ⟨k,f,rfl,hk⟩
  ·exact .inl h
  ·obtain ⟨f',h4⟩:=gfz_rows (L:=L) hk
   exact .inr ⟨k,f',rfl,h4⟩
end Rg
end
