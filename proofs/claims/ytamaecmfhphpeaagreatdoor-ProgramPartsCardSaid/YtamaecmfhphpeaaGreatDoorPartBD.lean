/- Part of the proof of the laws of the package relyguardlaw07: an abstract machine for the program's functions, what they compute, and that the machine is the program's. No condition. (H32i) -/
import Derived.Test.YtamaecmfhphpeaaGreatDoorPartBC
set_option linter.unusedSimpArgs false
set_option linter.unusedVariables false
section
set_option maxRecDepth 100000
namespace Rg
open Go
theorem putA_appU {h:Nat->Option O} {q sz bytes k0 n0:Nat} {a b:List (List V)} {K:V->List (Nat×O)->Prop} {w:WK K}
 (hh:h k0=some (.rows sz a false)) (hn:n0=a.length) (hlen:a.length+b.length<=2^32) (hby:bytes<=2^12) (hb:(b.all fun r=>decide (r.length=sz))=true) (ha:(a.all fun r=>decide (r.length=sz))=true)
 (hK : ∀ k hp,(k=k0\/k=q)->hpC h hp k=some (.rows sz (a++b) false)->(∀ j,j≠k0->j≠q->hpC h hp j=h j)->K (.ms k 0 (a++b).length) hp):putA false (appS h q sz bytes (.ms k0 0 n0) a b) K w:=by
 subst hn
 cases b with
 | nil =>
  unfold appS
  rw [if_pos ⟨⟨hlen,hby⟩,hb,ha⟩]
  simp only [List.isEmpty_nil,if_true,putA_some]
  have:=hK k0 [] (.inl rfl) (by rw [hpC_nil,List.append_nil]; exact hh) (fun j _ _=>by rw [hpC_nil])
  rwa [List.append_nil] at this
 | cons r rs =>
  refine putA_appE hh hlen hby hb ha (by simp) ?_
  rw [<- List.length_append]
  refine hK q _ (.inr rfl) ?_ ?_
  ·simp only [hpC_cons,hpC_nil]; rw [updC_at,if_pos rfl]
  ·intro j h1 h2
   simp only [hpC_cons,hpC_nil]; rw [updC_at,if_neg h2,updC_at,if_neg h1]
theorem rows_all {α:Type} (f:α->List T) {sz:Nat} (hf : ∀ x,(f x).length=sz) (l:List α):(((l.map f).map (fun x=>x.map V.t)).all fun r=>decide (r.length=sz))=true:=by
 simp [hf]
theorem step_len (s:Step):s.enc.length=11:=by simp [Step.enc,Expr.enc_eq]
theorem loop_len (s:Loop):s.enc.length=6:=by simp [Loop.enc,Expr.enc_eq]
theorem lock_len (s:Lock):s.enc.length=6:=by simp [Lock.enc,Expr.enc_eq]
theorem expr_len (s:Expr):s.enc.length=4:=by simp [Expr.enc_eq]
theorem contract_len (s:Contract):s.enc.length=11:=by simp [Contract.enc,Expr.enc_eq]
theorem rows_app {α:Type} (f:α->List T) (l m:List α):(l.map f).map (fun x=>x.map V.t)++(m.map f).map (fun x=>x.map V.t)=((l++m).map f).map (fun x=>x.map V.t):=by simp
theorem thr_treeX (p:Prog) (i:Nat) (x' : Thread) {h:Nat->Option O} {k:Nat} {row:List V} (hk:h k=some (.rows 7 (((p.threads.map Thread.enc).map (fun x=>x.map V.t)).set i row) false)) (hrow:row.mapM (toT h 999)=some x'.enc) :
 toT1 h (.agg [.t (.sl (p.cells.map Cell.enc)), .t (.sl (p.modules.map Contract.enc)), .t (.sl (p.locks.map Lock.enc)), .ms k 0 p.threads.length])=some (.agg [.t (.sl ((setThr p i x').cells.map (Cell.enc))), .t (.sl ((setThr p i x').modules.map (Contract.enc))), .t (.sl ((setThr p i x').locks.map (Lock.enc))), .t (.sl ((setThr p i x').threads.map (Thread.enc)))]):=by
 have e:toT h 1000 (.ms k 0 p.threads.length)=some (.sl ((p.threads.set i x').map Thread.enc)):=by
  refine toT_ms (r:=((p.threads.map Thread.enc).map (fun x=>x.map V.t)).set i row) hk (by unfold rd; rw [if_pos (by simp),List.drop_zero,List.take_of_length_le (by simp)]) ?_
  refine mapM_some_of _ _ _ (fun j r hr => ?_) (by simp)
  rw [List.getElem?_set] at hr
  rw [List.getElem?_map,List.getElem?_set]
  split at hr
  ·rename_i hij
   subst hij
   split at hr
   ·rename_i hlt
    cases hr
    rw [if_pos rfl,if_pos (by simpa using hlt),hrow]; exact ⟨_,rfl,rfl⟩
   ·cases hr
  ·rename_i hij
   rw [if_neg hij]
   rw [List.getElem?_map,List.getElem?_map] at hr
   cases hy:p.threads[j]? with
   | none=>rw [hy] at hr; cases hr
   | some y =>
    rw [hy] at hr
    cases hr
    refine ⟨y.enc,rfl, ?_⟩
    refine mapM_some_of _ _ _ (fun a b hb => ?_) (by simp)
    rw [List.getElem?_map] at hb
    cases ht:y.enc[a]? with
    | none=>rw [ht] at hb; cases hb
    | some t =>
     rw [ht] at hb
     cases hb
     refine ⟨t,rfl, ?_⟩
     rw [toT_t]
     have hm:=List.mem_of_getElem? ht
     simp only [Thread.enc,List.mem_cons,List.not_mem_nil,or_false] at hm
     rcases hm with rfl | rfl | rfl | rfl | rfl | rfl | rfl <;> rfl
 simp [toT1,e,toT_t,T.norm,setThr]
theorem norm_step : ∀ s:Step, ∀ t∈s.enc,T.norm t=t:=by
 intro s t ht
 simp only [Step.enc,Expr.enc_eq,List.cons_append,List.nil_append,List.mem_cons,List.not_mem_nil,or_false] at ht
 rcases ht with rfl | rfl | rfl | rfl | rfl | rfl | rfl | rfl | rfl | rfl | rfl <;> rfl
theorem norm_loop : ∀ s:Loop, ∀ t∈s.enc,T.norm t=t:=by
 intro s t ht
 simp only [Loop.enc,Expr.enc_eq,List.cons_append,List.nil_append,List.mem_cons,List.not_mem_nil,or_false] at ht
 rcases ht with rfl | rfl | rfl | rfl | rfl | rfl <;> rfl
theorem norm_lock : ∀ s:Lock, ∀ t∈s.enc,T.norm t=t:=by
 intro s t ht
 simp only [Lock.enc,Expr.enc_eq,List.cons_append,List.nil_append,List.mem_cons,List.not_mem_nil,or_false] at ht
 rcases ht with rfl | rfl | rfl | rfl | rfl | rfl <;> rfl
theorem norm_expr : ∀ s:Expr, ∀ t∈s.enc,T.norm t=t:=by
 intro s t ht
 simp only [Expr.enc_eq,List.mem_cons,List.not_mem_nil,or_false] at ht
 rcases ht with rfl | rfl | rfl | rfl <;> rfl
theorem norm_contract : ∀ s:Contract, ∀ t∈s.enc,T.norm t=t:=by
 intro s t ht
 simp only [Contract.enc,Expr.enc_eq,List.cons_append,List.nil_append,List.mem_cons,List.not_mem_nil,or_false] at ht
 rcases ht with rfl | rfl | rfl | rfl | rfl | rfl | rfl | rfl | rfl | rfl | rfl <;> rfl
theorem norm_thread : ∀ s:Thread, ∀ t∈s.enc,T.norm t=t:=by
 intro s t ht
 simp only [Thread.enc,List.mem_cons,List.not_mem_nil,or_false] at ht
 rcases ht with rfl | rfl | rfl | rfl | rfl | rfl | rfl <;> rfl
theorem own_rows {α:Type} (f:α->List T) (hf : ∀ x, ∀ t∈f x,T.norm t=t) (l:List α) {h:Nat->Option O} {k n sz d:Nat} (hk:h k=some (.rows sz ((l.map f).map (fun x=>x.map V.t)) false)) (hn:n=l.length) :
 toT h (d+1) (.ms k 0 n)=some (.sl (l.map f)):=by
 subst hn
 refine toT_ms (r:=(l.map f).map (fun x=>x.map V.t)) hk (by unfold rd; rw [if_pos (by simp),List.drop_zero,List.take_of_length_le (by simp)]) ?_
 refine rows_toT _ d _ ?_
 intro e he t ht
 obtain ⟨s,_,rfl⟩:=List.mem_map.1 he
 exact hf s t ht
theorem lock_tree (p:Prog) (l:List Lock) {h:Nat->Option O} {k k3 n:Nat} (hk:h k=some (.rows 7 ((p.threads.map Thread.enc).map (fun x=>x.map V.t)) false)) (hl:h k3=some (.rows 6 ((l.map Lock.enc).map (fun x=>x.map V.t)) false)) (hn:n=l.length) :
 toT1 h (.agg [.t (.sl (p.cells.map Cell.enc)), .t (.sl (p.modules.map Contract.enc)), .ms k3 0 n, .ms k 0 p.threads.length])=some (.agg [.t (.sl (({ p with locks:=l }).cells.map (Cell.enc))), .t (.sl (({ p with locks:=l }).modules.map (Contract.enc))), .t (.sl (({ p with locks:=l }).locks.map (Lock.enc))), .t (.sl (({ p with locks:=l }).threads.map (Thread.enc)))]):=by
 have e1:=own_rows Thread.enc norm_thread p.threads (d:=999) hk rfl
 have e2:=own_rows Lock.enc norm_lock l (d:=999) hl hn
 simp [toT1,e1,e2,toT_t,T.norm]
theorem mod_tree (p:Prog) (l:List Contract) {h:Nat->Option O} {k k3 n:Nat} (hk:h k=some (.rows 7 ((p.threads.map Thread.enc).map (fun x=>x.map V.t)) false)) (hl:h k3=some (.rows 11 ((l.map Contract.enc).map (fun x=>x.map V.t)) false)) (hn:n=l.length) :
 toT1 h (.agg [.t (.sl (p.cells.map Cell.enc)), .ms k3 0 n, .t (.sl (p.locks.map Lock.enc)), .ms k 0 p.threads.length])=some (.agg [.t (.sl (({ p with modules:=l }).cells.map (Cell.enc))), .t (.sl (({ p with modules:=l }).modules.map (Contract.enc))), .t (.sl (({ p with modules:=l }).locks.map (Lock.enc))), .t (.sl (({ p with modules:=l }).threads.map (Thread.enc)))]):=by
 have e1:=own_rows Thread.enc norm_thread p.threads (d:=999) hk rfl
 have e2:=own_rows Contract.enc norm_contract l (d:=999) hl hn
 simp [toT1,e1,e2,toT_t,T.norm]
theorem lawParts_den (p:Prog) (hl:p.lite7) (a b c:Int) (ha:0<=a/\a<256) (hb:0<=b/\b<256) (hc:0<=c/\c<256):Den Γ G 213 [(.agg [.t (.sl ((p).cells.map (Cell.enc))), .t (.sl ((p).modules.map (Contract.enc))), .t (.sl ((p).locks.map (Lock.enc))), .t (.sl ((p).threads.map (Thread.enc)))]), .t (.int .u8 a), .t (.int .u8 b), .t (.int .u8 c)]=some (vb true):=by
 (refine den_ofY Γ213 rfl ?_; dsimp only [f213])
 have h0:=head7_den
 have h1:=good7_den p hl 40 (by decide)
 cases hg:good7M 40 p
 ·rw [hg] at h1
  simp -dsimp -implicitDefEqProofs only [go_sem,seval,h0,h1]
 rw [hg] at h1
 have hok:=good7_ok hg
 have hsm:=good7_small hg
 simp -dsimp -implicitDefEqProofs only [go_sem,seval,h0,h1]
 have hall:(((p.threads.map Thread.enc).map (fun x=>x.map V.t)).all fun r=>decide (r.length=7))=true:=by simp [Thread.enc]
 have htl:=hsm.threads
 refine putA_appU (a:=[]) (by simp -dsimp -implicitDefEqProofs only [go_sem,seval]) rfl (by simp; omega) (by decide) hall rfl ?_
 intro k hp hk hH hfr
 clear hfr
 have e0:updC (fun x=>none) 10 (some (O.rows 7 [] false))=hpC (fun x=>none) [(10,O.rows 7 [] false)]:=by rw [hpC_cons,hpC_nil]
 rw [e0] at hH
 generalize hpC (hpC (fun x=>none) [(10,O.rows 7 [] false)]) hp=H at hH ⊢
 clear e0
 rw [List.nil_append] at hH ⊢
 rw [List.length_map,List.length_map]
 have hk14:k<14:=by omega
 have hkne : ∀ z:Nat,14<=z->(k=z)=False:=fun z hz=>eq_false (by omega)
 have hkne' : ∀ z:Nat,14<=z->(z=k)=False:=fun z hz=>eq_false (by omega)
 have hm5:0<=a.tmod 5/\a.tmod 5<5:=by rw [Int.tmod_eq_emod_of_nonneg ha.1]; omega
 have hsame:=thr_tree p p.threads (h:=H) (k:=k) (n:=p.threads.length) hH rfl rfl
 have hwb:IntKind.i64.wrap b=b:=wrap64 (by omega)
 have hwc:IntKind.i64.wrap c=c:=wrap64 (by omega)
 simp -dsimp -implicitDefEqProofs only [go_sem,seval,hH]
 have hrem : ∀ (z:Int) (n:Nat),0<=z->0<n -> ∃ i:Nat,z.tmod (n:Int)=i/\i<n:=by
  intro z n hz hn
  refine ⟨(z.tmod n).toNat, ?_, ?_⟩
  ·rw [Int.tmod_eq_emod_of_nonneg hz]; have:=Int.emod_nonneg z (show (n:Int)≠0 by omega); omega
  ·rw [Int.tmod_eq_emod_of_nonneg hz]; have:=Int.emod_lt_of_pos z (show (0:Int)<n by omega); have:=Int.emod_nonneg z (show (n:Int)≠0 by omega); omega
 by_cases m0:a.tmod 5=0
 ·by_cases hsn:0<p.locks.length
  ·have hs1:decide ((p.locks.length:Int)>0)=true:=by simpa using hsn
   have hs0:((p.locks.length:Int)=0)=False:=eq_false (by omega)
   obtain ⟨j,hj,hjl⟩:=hrem c p.locks.length hc.1 hsn
   have hlen:p.locks.length<=80:=by have:=hsm.locks; omega
   have hw1:=wrapS j (by omega)
   have e1:(0<=(j:Int))=True:=eq_true (by omega)
   have e2:((j:Int)<=(p.locks.length:Int))=True:=eq_true (by omega)
   have e3:((j:Int)-0).toNat=j:=by omega
   have e4:((p.locks.map Lock.enc).all fun x=>decide (x.length=6))=true:=by simp [lock_len]
   have t1:List.take j (p.locks.map Lock.enc)=(p.locks.take j).map Lock.enc:=List.map_take.symm
   simp -dsimp -implicitDefEqProofs only [go_sem,seval,m0,hH,decide_true,decide_false,hwc,hs1,hs0,hj,e1,e2,e3,e4,hkne,hkne',t1]
   refine putA_appU (a:=[]) (by simp -dsimp -implicitDefEqProofs only [go_sem,seval]) rfl (by simp; omega) (by decide) (rows_all Lock.enc lock_len _) rfl ?_
   intro k2 hp2 hk2 hA hfr
   have hT:hpC (updC H 32 (some (O.rows 6 [] false))) hp2 k=H k:=by rw [hfr k (by omega) (by omega),updC_at,if_neg (by omega)]
   have e0:updC H 32 (some (O.rows 6 [] false))=hpC H [(32,O.rows 6 [] false)]:=by rw [hpC_cons,hpC_nil]
   rw [hH,e0] at hT
   rw [e0,List.nil_append] at hA
   clear hfr
   generalize hpC (hpC H [(32,O.rows 6 [] false)]) hp2=H2 at hA hT ⊢
   clear e0
   rw [List.nil_append]
   have t2:List.take ((((p.locks.length:Nat):Int)-((j+1:Nat):Int)).toNat) (List.drop (j+1) (p.locks.map Lock.enc))=(p.locks.drop (j+1)).map Lock.enc:=by
    rw [List.take_of_length_le (by simp; omega),List.map_drop]
   have t3:((p.locks.take j).length<=(p.locks.take j).length)=True:=eq_true (Nat.le_refl _)
   have t4:List.take (p.locks.take j).length (((p.locks.take j).map Lock.enc).map (fun x=>x.map V.t))=((p.locks.take j).map Lock.enc).map (fun x=>x.map V.t):=List.take_of_length_le (by simp)
   have g1:(0<=((j+1:Nat):Int))=True:=eq_true (by omega)
   have g2:(((j+1:Nat):Int)<=(p.locks.length:Int))=True:=eq_true (by omega)
   have g3:((p.locks.length:Int)<=(p.locks.length:Int))=True:=eq_true (by omega)
   simp -dsimp -implicitDefEqProofs only [go_sem,seval,hT,hA,hw1,t2,t3,t4,g1,g2,g3,e4,List.length_map]
   refine putA_appU hA (by simp) (by simp; omega) (by decide) (rows_all Lock.enc lock_len _) (rows_all Lock.enc lock_len _) ?_
   intro k3 hp3 hk3 hB hfr
   have hT3:hpC H2 hp3 k=H2 k:=hfr k (by omega) (by omega)
   rw [hT] at hT3
   clear hfr hA hT
   generalize hpC H2 hp3=H3 at hB hT3 ⊢
   rw [rows_app] at hB
   change H3 k3=some (.rows 6 (((eraAt p.locks j).map Lock.enc).map (fun x=>x.map V.t)) false) at hB
   have hnAB:(((p.locks.take j).map Lock.enc).map (fun x=>x.map V.t)++((p.locks.drop (j+1)).map Lock.enc).map (fun x=>x.map V.t)).length=(eraAt p.locks j).length:=by simp [eraAt]
   rw [hnAB]
   have hgood:=part_locks hg hjl
   have hq:=good7_den { p with locks:=eraAt p.locks j } ⟨hl.cname,hl.mname,hl.tname⟩ 40 (by decide)
   rw [hgood] at hq
   have tq:=lock_tree p (eraAt p.locks j) hT3 hB rfl
   by_cases hn:0<p.threads.length
   ·have hn1:decide ((p.threads.length:Int)>0)=true:=by simpa using hn
    have hn0:((p.threads.length:Int)=0)=False:=eq_false (by omega)
    obtain ⟨i,hi,hil⟩:=hrem b p.threads.length hb.1 hn
    obtain ⟨x,hx,hxm⟩:=get_of hil
    have hri:((p.threads.map Thread.enc).map (fun x=>x.map V.t))[i]? = some [.t (.str x.name), .t (ti x.points), .t (.sl (x.asserts.map Expr.enc)), .t (ints x.modules), .t (.sl (x.steps.map Step.enc)), .t (.sl (x.loops.map Loop.enc)), .t (tb x.asleep)]:=by rw [List.getElem?_map,List.getElem?_map,hx]; rfl
    have hil' : (i<p.threads.length)=True:=eq_true hil
    simp -dsimp -implicitDefEqProofs only [go_sem,seval,m0,hT3,hn1,hn0,decide_true,decide_false,hwb,hi,hil',hri, ↓tq,hq]
   ·have hn1:decide ((p.threads.length:Int)>0)=false:=by simpa using hn
    simp -dsimp -implicitDefEqProofs only [go_sem,seval,m0,hT3,hn1,decide_true,decide_false, ↓tq,hq]
  ·have hs1:decide ((p.locks.length:Int)>0)=false:=by simpa using hsn
   by_cases hn:0<p.threads.length
   ·have hn1:decide ((p.threads.length:Int)>0)=true:=by simpa using hn
    have hn0:((p.threads.length:Int)=0)=False:=eq_false (by omega)
    obtain ⟨i,hi,hil⟩:=hrem b p.threads.length hb.1 hn
    obtain ⟨x,hx,hxm⟩:=get_of hil
    have hri:((p.threads.map Thread.enc).map (fun x=>x.map V.t))[i]? = some [.t (.str x.name), .t (ti x.points), .t (.sl (x.asserts.map Expr.enc)), .t (ints x.modules), .t (.sl (x.steps.map Step.enc)), .t (.sl (x.loops.map Loop.enc)), .t (tb x.asleep)]:=by rw [List.getElem?_map,List.getElem?_map,hx]; rfl
    have hil' : (i<p.threads.length)=True:=eq_true hil
    simp -dsimp -implicitDefEqProofs only [go_sem,seval,m0,hH,hs1,hn1,hn0,decide_true,decide_false,hwb,hi,hil',hri, ↓hsame,h1]
   ·have hn1:decide ((p.threads.length:Int)>0)=false:=by simpa using hn
    simp -dsimp -implicitDefEqProofs only [go_sem,seval,m0,hH,hs1,hn1,decide_true,decide_false, ↓hsame,h1]
 by_cases m1:a.tmod 5=1
 ·by_cases hsn:0<p.modules.length
  ·have hs1:decide ((p.modules.length:Int)>0)=true:=by simpa using hsn
   have hs0:((p.modules.length:Int)=0)=False:=eq_false (by omega)
   obtain ⟨j,hj,hjl⟩:=hrem c p.modules.length hc.1 hsn
   obtain ⟨y,hy,hym⟩:=get_of hjl
   have hlen:p.modules.length<=80:=by have:=hsm.modules; omega
   simp -dsimp -implicitDefEqProofs only [go_sem,seval,m0,m1,hH,decide_true,decide_false,hwc,hs1,hs0,hj,hkne,hkne']
   refine putA_appU (a:=[]) (by simp -dsimp -implicitDefEqProofs only [go_sem,seval]) rfl (by simp; omega) (by decide) (rows_all Contract.enc contract_len _) rfl ?_
   intro k2 hp2 hk2 hA hfr
   have hT:hpC (updC H 41 (some (O.rows 11 [] false))) hp2 k=H k:=by rw [hfr k (by omega) (by omega),updC_at,if_neg (by omega)]
   have e0:updC H 41 (some (O.rows 11 [] false))=hpC H [(41,O.rows 11 [] false)]:=by rw [hpC_cons,hpC_nil]
   rw [hH,e0] at hT
   rw [e0,List.nil_append] at hA
   clear hfr
   generalize hpC (hpC H [(41,O.rows 11 [] false)]) hp2=H2 at hA hT ⊢
   clear e0
   rw [List.nil_append,List.length_map,List.length_map]
   have hrm:((p.modules.map Contract.enc).map (fun x=>x.map V.t))[j]? = some [.t (.str y.name), .t (.str y.owner), .t (ti y.rely.op), .t (ti y.rely.w), .t (ti y.rely.n), .t (.sl (y.rely.kids.map Expr.enc)), .t (ti y.guar.op), .t (ti y.guar.w), .t (ti y.guar.n), .t (.sl (y.guar.kids.map Expr.enc)), .t (ints y.frame)]:=by rw [List.getElem?_map,List.getElem?_map,hy]; simp [Contract.enc,Expr.enc_eq]
   have hj1:((j:Int)<(p.modules.length:Int))=True:=eq_true (by omega)
   have hj2:(j<p.modules.length)=True:=eq_true hjl
   have hk2k:(k2=k)=False:=eq_false (by omega)
   have hk2k' : (k=k2)=False:=eq_false (by omega)
   by_cases ho:y.rely.op=0
   ·have hone:=oneR_den
    have hset:((p.modules.map Contract.enc).map (fun x=>x.map V.t)).set j [.t (.str y.name), .t (.str y.owner),vi 1,vi 1,vi 1, .t (.sl []), .t (ti y.guar.op), .t (ti y.guar.w), .t (ti y.guar.n), .t (.sl (y.guar.kids.map Expr.enc)), .t (ints y.frame)]=((p.modules.set j { y with rely:=oneE }).map Contract.enc).map (fun x=>x.map V.t):=by
     rw [List.map_set,List.map_set]; simp [Contract.enc,Expr.enc_eq,oneE,Expr.op,Expr.w,Expr.n,Expr.kids]
    have hgood:=part_rely hg hy
    have hq:=good7_den { p with modules:=p.modules.set j { y with rely:=oneE } } ⟨hl.cname,fun m hm=>by
     rcases List.mem_or_eq_of_mem_set hm with hm | rfl
     ·exact hl.mname m hm
     ·exact hl.mname y hym,hl.tname⟩ 40 (by decide)
    rw [hgood] at hq
    have tq:=mod_tree p (p.modules.set j { y with rely:=oneE }) (k:=k) (k3:=k2) (n:=p.modules.length) (h:=updC H2 k2 (some (.rows 11 (((p.modules.set j { y with rely:=oneE }).map Contract.enc).map (fun x=>x.map V.t)) false)))
     (by rw [updC_at,if_neg (by omega)]; exact hT) (by rw [updC_at,if_pos rfl]) (by simp)
    by_cases hn:0<p.threads.length
    ·have hn1:decide ((p.threads.length:Int)>0)=true:=by simpa using hn
     have hn0:((p.threads.length:Int)=0)=False:=eq_false (by omega)
     obtain ⟨i,hi,hil⟩:=hrem b p.threads.length hb.1 hn
     obtain ⟨x,hx,hxm⟩:=get_of hil
     have hri:((p.threads.map Thread.enc).map (fun x=>x.map V.t))[i]? = some [.t (.str x.name), .t (ti x.points), .t (.sl (x.asserts.map Expr.enc)), .t (ints x.modules), .t (.sl (x.steps.map Step.enc)), .t (.sl (x.loops.map Loop.enc)), .t (tb x.asleep)]:=by rw [List.getElem?_map,List.getElem?_map,hx]; rfl
     have hil' : (i<p.threads.length)=True:=eq_true hil
     simp -dsimp -implicitDefEqProofs only [go_sem,seval,m0,m1,hn1,hn0,decide_true,decide_false,hwb,hi,hil',hri,hT,hA,hrm,hj1,hj2,hj,hwc,ho,hone,hset,hk2k,hk2k',hq, ↓tq]
    ·have hn1:decide ((p.threads.length:Int)>0)=false:=by simpa using hn
     simp -dsimp -implicitDefEqProofs only [go_sem,seval,m0,m1,hn1,decide_true,decide_false,hT,hA,hrm,hj1,hj2,hj,hwc,ho,hone,hset,hk2k,hk2k',hq, ↓tq]
   ·have tq:=mod_tree p p.modules (k:=k) (k3:=k2) (n:=p.modules.length) (h:=H2) hT hA rfl
    by_cases hn:0<p.threads.length
    ·have hn1:decide ((p.threads.length:Int)>0)=true:=by simpa using hn
     have hn0:((p.threads.length:Int)=0)=False:=eq_false (by omega)
     obtain ⟨i,hi,hil⟩:=hrem b p.threads.length hb.1 hn
     obtain ⟨x,hx,hxm⟩:=get_of hil
     have hri:((p.threads.map Thread.enc).map (fun x=>x.map V.t))[i]? = some [.t (.str x.name), .t (ti x.points), .t (.sl (x.asserts.map Expr.enc)), .t (ints x.modules), .t (.sl (x.steps.map Step.enc)), .t (.sl (x.loops.map Loop.enc)), .t (tb x.asleep)]:=by rw [List.getElem?_map,List.getElem?_map,hx]; rfl
     have hil' : (i<p.threads.length)=True:=eq_true hil
     simp -dsimp -implicitDefEqProofs only [go_sem,seval,m0,m1,hn1,hn0,decide_true,decide_false,hwb,hi,hil',hri,hT,hA,hrm,hj1,hj2,hj,hwc,ho,hk2k,hk2k',h1, ↓tq]
    ·have hn1:decide ((p.threads.length:Int)>0)=false:=by simpa using hn
     simp -dsimp -implicitDefEqProofs only [go_sem,seval,m0,m1,hn1,decide_true,decide_false,hT,hA,hrm,hj1,hj2,hj,hwc,ho,hk2k,hk2k',h1, ↓tq]
  ·have hs1:decide ((p.modules.length:Int)>0)=false:=by simpa using hsn
   by_cases hn:0<p.threads.length
   ·have hn1:decide ((p.threads.length:Int)>0)=true:=by simpa using hn
    have hn0:((p.threads.length:Int)=0)=False:=eq_false (by omega)
    obtain ⟨i,hi,hil⟩:=hrem b p.threads.length hb.1 hn
    obtain ⟨x,hx,hxm⟩:=get_of hil
    have hri:((p.threads.map Thread.enc).map (fun x=>x.map V.t))[i]? = some [.t (.str x.name), .t (ti x.points), .t (.sl (x.asserts.map Expr.enc)), .t (ints x.modules), .t (.sl (x.steps.map Step.enc)), .t (.sl (x.loops.map Loop.enc)), .t (tb x.asleep)]:=by rw [List.getElem?_map,List.getElem?_map,hx]; rfl
    have hil' : (i<p.threads.length)=True:=eq_true hil
    simp -dsimp -implicitDefEqProofs only [go_sem,seval,m0,m1,hn1,hn0,decide_true,decide_false,hwb,hi,hil',hri,hH,hs1,h1, ↓hsame]
   ·have hn1:decide ((p.threads.length:Int)>0)=false:=by simpa using hn
    simp -dsimp -implicitDefEqProofs only [go_sem,seval,m0,m1,hn1,decide_true,decide_false,hH,hs1,h1, ↓hsame]
 by_cases hn:0<p.threads.length
 ·have hn1:decide ((p.threads.length:Int)>0)=true:=by simpa using hn
  have hn0:((p.threads.length:Int)=0)=False:=eq_false (by omega)
  obtain ⟨i,hi,hil⟩:=hrem b p.threads.length hb.1 hn
  obtain ⟨x,hx,hxm⟩:=get_of hil
  have hri:((p.threads.map Thread.enc).map (fun x=>x.map V.t))[i]? = some [.t (.str x.name), .t (ti x.points), .t (.sl (x.asserts.map Expr.enc)), .t (ints x.modules), .t (.sl (x.steps.map Step.enc)), .t (.sl (x.loops.map Loop.enc)), .t (tb x.asleep)]:=by rw [List.getElem?_map,List.getElem?_map,hx]; rfl
  have hil' : (i<p.threads.length)=True:=eq_true hil
  by_cases m2:a.tmod 5=2
  ·by_cases hsn:0<x.steps.length
   ·have hs1:decide ((x.steps.length:Int)>0)=true:=by simpa using hsn
    have hs0:((x.steps.length:Int)=0)=False:=eq_false (by omega)
    obtain ⟨j,hj,hjl⟩:=hrem c x.steps.length hc.1 hsn
    have hlen:x.steps.length<=80:=by have:=hsm.thr x hxm; omega
    have hw1:=wrapS j (by omega)
    have e1:(0<=(j:Int))=True:=eq_true (by omega)
    have e2:((j:Int)<=(x.steps.length:Int))=True:=eq_true (by omega)
    have e3:((j:Int)-0).toNat=j:=by omega
    have e4:((x.steps.map Step.enc).all fun x=>decide (x.length=11))=true:=by simp [step_len]
    have t1:List.take j (x.steps.map Step.enc)=(x.steps.take j).map Step.enc:=List.map_take.symm
    simp -dsimp -implicitDefEqProofs only [go_sem,seval,m2,m0,m1,hH,hn1,hn0,decide_true,decide_false,hwb,hwc,hi,hil',hri,hs1,hs0,hj,e1,e2,e3,e4,hkne,hkne',t1]
    refine putA_appU (a:=[]) (by simp -dsimp -implicitDefEqProofs only [go_sem,seval]) rfl (by simp; omega) (by decide) (rows_all Step.enc step_len _) rfl ?_
    intro k2 hp2 hk2 hA hfr
    have hT:hpC (updC H 70 (some (O.rows 11 [] false))) hp2 k=H k:=by rw [hfr k (by omega) (by omega),updC_at,if_neg (by omega)]
    have e0:updC H 70 (some (O.rows 11 [] false))=hpC H [(70,O.rows 11 [] false)]:=by rw [hpC_cons,hpC_nil]
    rw [hH,e0] at hT
    rw [e0,List.nil_append] at hA
    clear hfr
    generalize hpC (hpC H [(70,O.rows 11 [] false)]) hp2=H2 at hA hT ⊢
    clear e0
    rw [List.nil_append]
    have t2:List.take ((((x.steps.length:Nat):Int)-((j+1:Nat):Int)).toNat) (List.drop (j+1) (x.steps.map Step.enc))=(x.steps.drop (j+1)).map Step.enc:=by
     rw [List.take_of_length_le (by simp; omega),List.map_drop]
    have t3:((x.steps.take j).length<=(x.steps.take j).length)=True:=eq_true (Nat.le_refl _)
    have t4:List.take (x.steps.take j).length (((x.steps.take j).map Step.enc).map (fun x=>x.map V.t))=((x.steps.take j).map Step.enc).map (fun x=>x.map V.t):=List.take_of_length_le (by simp)
    have g1:(0<=((j+1:Nat):Int))=True:=eq_true (by omega)
    have g2:(((j+1:Nat):Int)<=(x.steps.length:Int))=True:=eq_true (by omega)
    have g3:((x.steps.length:Int)<=(x.steps.length:Int))=True:=eq_true (by omega)
    simp -dsimp -implicitDefEqProofs only [go_sem,seval,hT,hA,hri,hw1,t2,t3,t4,g1,g2,g3,e4,List.length_map]
    refine putA_appU hA (by simp) (by simp; omega) (by decide) (rows_all Step.enc step_len _) (rows_all Step.enc step_len _) ?_
    intro k3 hp3 hk3 hB hfr
    have hT3:hpC H2 hp3 k=H2 k:=hfr k (by omega) (by omega)
    rw [hT] at hT3
    clear hfr hA hT
    generalize hpC H2 hp3=H3 at hB hT3 ⊢
    rw [rows_app] at hB
    change H3 k3=some (.rows 11 (((eraAt x.steps j).map Step.enc).map (fun x=>x.map V.t)) false) at hB
    have hnAB:(((x.steps.take j).map Step.enc).map (fun x=>x.map V.t)++((x.steps.drop (j+1)).map Step.enc).map (fun x=>x.map V.t)).length=(eraAt x.steps j).length:=by simp [eraAt]
    rw [hnAB]
    have hgood:=part_steps hg hx j
    have hq:=good7_den (setThr p i { x with steps:=eraAt x.steps j }) (setThr_lite hl hx rfl) 40 (by decide)
    rw [hgood] at hq
    have hes:toT (updC H3 k (some (.rows 7 (((p.threads.map Thread.enc).map (fun x=>x.map V.t)).set i [.t (.str x.name), .t (ti x.points), .t (.sl (x.asserts.map Expr.enc)), .t (ints x.modules), .ms k3 0 (eraAt x.steps j).length, .t (.sl (x.loops.map Loop.enc)), .t (tb x.asleep)]) false))) 999 (.ms k3 0 (eraAt x.steps j).length)=some (.sl ((eraAt x.steps j).map Step.enc)) :=
     own_rows Step.enc norm_step _ (d:=998) (by rw [updC_at,if_neg (by omega)]; exact hB) rfl
    have tq:=thr_treeX p i { x with steps:=eraAt x.steps j } (k:=k) (by rw [updC_at,if_pos rfl]) (row:=[.t (.str x.name), .t (ti x.points), .t (.sl (x.asserts.map Expr.enc)), .t (ints x.modules), .ms k3 0 (eraAt x.steps j).length, .t (.sl (x.loops.map Loop.enc)), .t (tb x.asleep)]) (h:=updC H3 k (some (.rows 7 (((p.threads.map Thread.enc).map (fun x=>x.map V.t)).set i [.t (.str x.name), .t (ti x.points), .t (.sl (x.asserts.map Expr.enc)), .t (ints x.modules), .ms k3 0 (eraAt x.steps j).length, .t (.sl (x.loops.map Loop.enc)), .t (tb x.asleep)]) false)))
     (by simp only [List.mapM_cons,List.mapM_nil,toT_t,hes,Option.pure_def,Option.bind_eq_bind,Option.bind_some]; rfl)
    simp -dsimp -implicitDefEqProofs only [go_sem,seval, ↓tq,hT3,hri,hil',hB,hq]
   ·have hs1:decide ((x.steps.length:Int)>0)=false:=by simpa using hsn
    simp -dsimp -implicitDefEqProofs only [go_sem,seval,m2,hH,hn1,hn0,decide_true,decide_false,hwb,hi,hil',hri,hs1, ↓hsame,h1]
  by_cases m3:a.tmod 5=3
  ·by_cases hsn:0<x.loops.length
   ·have hs1:decide ((x.loops.length:Int)>0)=true:=by simpa using hsn
    have hs0:((x.loops.length:Int)=0)=False:=eq_false (by omega)
    obtain ⟨j,hj,hjl⟩:=hrem c x.loops.length hc.1 hsn
    have hlen:x.loops.length<=80:=by have:=hsm.thr x hxm; omega
    have hw1:=wrapS j (by omega)
    have e1:(0<=(j:Int))=True:=eq_true (by omega)
    have e2:((j:Int)<=(x.loops.length:Int))=True:=eq_true (by omega)
    have e3:((j:Int)-0).toNat=j:=by omega
    have e4:((x.loops.map Loop.enc).all fun x=>decide (x.length=6))=true:=by simp [loop_len]
    have t1:List.take j (x.loops.map Loop.enc)=(x.loops.take j).map Loop.enc:=List.map_take.symm
    simp -dsimp -implicitDefEqProofs only [go_sem,seval,m3,m0,m1,hH,hn1,hn0,decide_true,decide_false,hwb,hwc,hi,hil',hri,hs1,hs0,hj,e1,e2,e3,e4,hkne,hkne',t1]
    refine putA_appU (a:=[]) (by simp -dsimp -implicitDefEqProofs only [go_sem,seval]) rfl (by simp; omega) (by decide) (rows_all Loop.enc loop_len _) rfl ?_
    intro k2 hp2 hk2 hA hfr
    have hT:hpC (updC H 82 (some (O.rows 6 [] false))) hp2 k=H k:=by rw [hfr k (by omega) (by omega),updC_at,if_neg (by omega)]
    have e0:updC H 82 (some (O.rows 6 [] false))=hpC H [(82,O.rows 6 [] false)]:=by rw [hpC_cons,hpC_nil]
    rw [hH,e0] at hT
    rw [e0,List.nil_append] at hA
    clear hfr
    generalize hpC (hpC H [(82,O.rows 6 [] false)]) hp2=H2 at hA hT ⊢
    clear e0
    rw [List.nil_append]
    have t2:List.take ((((x.loops.length:Nat):Int)-((j+1:Nat):Int)).toNat) (List.drop (j+1) (x.loops.map Loop.enc))=(x.loops.drop (j+1)).map Loop.enc:=by
     rw [List.take_of_length_le (by simp; omega),List.map_drop]
    have t3:((x.loops.take j).length<=(x.loops.take j).length)=True:=eq_true (Nat.le_refl _)
    have t4:List.take (x.loops.take j).length (((x.loops.take j).map Loop.enc).map (fun x=>x.map V.t))=((x.loops.take j).map Loop.enc).map (fun x=>x.map V.t):=List.take_of_length_le (by simp)
    have g1:(0<=((j+1:Nat):Int))=True:=eq_true (by omega)
    have g2:(((j+1:Nat):Int)<=(x.loops.length:Int))=True:=eq_true (by omega)
    have g3:((x.loops.length:Int)<=(x.loops.length:Int))=True:=eq_true (by omega)
    simp -dsimp -implicitDefEqProofs only [go_sem,seval,hT,hA,hri,hw1,t2,t3,t4,g1,g2,g3,e4,List.length_map]
    refine putA_appU hA (by simp) (by simp; omega) (by decide) (rows_all Loop.enc loop_len _) (rows_all Loop.enc loop_len _) ?_
    intro k3 hp3 hk3 hB hfr
    have hT3:hpC H2 hp3 k=H2 k:=hfr k (by omega) (by omega)
    rw [hT] at hT3
    clear hfr hA hT
    generalize hpC H2 hp3=H3 at hB hT3 ⊢
    rw [rows_app] at hB
    change H3 k3=some (.rows 6 (((eraAt x.loops j).map Loop.enc).map (fun x=>x.map V.t)) false) at hB
    have hnAB:(((x.loops.take j).map Loop.enc).map (fun x=>x.map V.t)++((x.loops.drop (j+1)).map Loop.enc).map (fun x=>x.map V.t)).length=(eraAt x.loops j).length:=by simp [eraAt]
    rw [hnAB]
    have hgood:=part_loops hg hx j
    have hq:=good7_den (setThr p i { x with loops:=eraAt x.loops j }) (setThr_lite hl hx rfl) 40 (by decide)
    rw [hgood] at hq
    have hes:toT (updC H3 k (some (.rows 7 (((p.threads.map Thread.enc).map (fun x=>x.map V.t)).set i [.t (.str x.name), .t (ti x.points), .t (.sl (x.asserts.map Expr.enc)), .t (ints x.modules), .t (.sl (x.steps.map Step.enc)), .ms k3 0 (eraAt x.loops j).length, .t (tb x.asleep)]) false))) 999 (.ms k3 0 (eraAt x.loops j).length)=some (.sl ((eraAt x.loops j).map Loop.enc)) :=
     own_rows Loop.enc norm_loop _ (d:=998) (by rw [updC_at,if_neg (by omega)]; exact hB) rfl
    have tq:=thr_treeX p i { x with loops:=eraAt x.loops j } (k:=k) (by rw [updC_at,if_pos rfl]) (row:=[.t (.str x.name), .t (ti x.points), .t (.sl (x.asserts.map Expr.enc)), .t (ints x.modules), .t (.sl (x.steps.map Step.enc)), .ms k3 0 (eraAt x.loops j).length, .t (tb x.asleep)]) (h:=updC H3 k (some (.rows 7 (((p.threads.map Thread.enc).map (fun x=>x.map V.t)).set i [.t (.str x.name), .t (ti x.points), .t (.sl (x.asserts.map Expr.enc)), .t (ints x.modules), .t (.sl (x.steps.map Step.enc)), .ms k3 0 (eraAt x.loops j).length, .t (tb x.asleep)]) false)))
     (by simp only [List.mapM_cons,List.mapM_nil,toT_t,hes,Option.pure_def,Option.bind_eq_bind,Option.bind_some]; rfl)
    simp -dsimp -implicitDefEqProofs only [go_sem,seval, ↓tq,hT3,hri,hil',hB,hq]
   ·have hs1:decide ((x.loops.length:Int)>0)=false:=by simpa using hsn
    simp -dsimp -implicitDefEqProofs only [go_sem,seval,m3,hH,hn1,hn0,decide_true,decide_false,hwb,hi,hil',hri,hs1, ↓hsame,h1]
  by_cases m4:a.tmod 5=4
  ·by_cases hsn:0<x.asserts.length
   ·have hs1:decide ((x.asserts.length:Int)>0)=true:=by simpa using hsn
    have hs0:((x.asserts.length:Int)=0)=False:=eq_false (by omega)
    obtain ⟨j,hj,hjl⟩:=hrem c x.asserts.length hc.1 hsn
    have hlen:x.asserts.length<=80:=by have:=hsm.thr x hxm; omega
    simp -dsimp -implicitDefEqProofs only [go_sem,seval,m4,m0,m1,hH,hn1,hn0,decide_true,decide_false,hwb,hwc,hi,hil',hri,hs1,hs0,hkne,hkne']
    refine putA_appU (a:=[]) (by simp -dsimp -implicitDefEqProofs only [go_sem,seval]) rfl (by simp; omega) (by decide) (rows_all Expr.enc expr_len _) rfl ?_
    intro k2 hp2 hk2 hA hfr
    have hT:hpC (updC H 85 (some (O.rows 4 [] false))) hp2 k=H k:=by rw [hfr k (by omega) (by omega),updC_at,if_neg (by omega)]
    have e0:updC H 85 (some (O.rows 4 [] false))=hpC H [(85,O.rows 4 [] false)]:=by rw [hpC_cons,hpC_nil]
    rw [hH,e0] at hT
    rw [e0,List.nil_append] at hA
    clear hfr
    generalize hpC (hpC H [(85,O.rows 4 [] false)]) hp2=H2 at hA hT ⊢
    clear e0
    rw [List.nil_append,List.length_map,List.length_map]
    have hk2k:(k2=k)=False:=eq_false (by omega)
    have hk2k' : (k=k2)=False:=eq_false (by omega)
    have hri2:(((p.threads.map Thread.enc).map (fun x=>x.map V.t)).set i [.t (.str x.name), .t (ti x.points), .ms k2 0 x.asserts.length, .t (ints x.modules), .t (.sl (x.steps.map Step.enc)), .t (.sl (x.loops.map Loop.enc)), .t (tb x.asleep)])[i]? = some [.t (.str x.name), .t (ti x.points), .ms k2 0 x.asserts.length, .t (ints x.modules), .t (.sl (x.steps.map Step.enc)), .t (.sl (x.loops.map Loop.enc)), .t (tb x.asleep)]:=by rw [List.getElem?_set]; simp [hil]
    have hj1:((j:Int)<(x.asserts.length:Int))=True:=eq_true (by omega)
    have hj2:(j<x.asserts.length)=True:=eq_true hjl
    have hone:=oneR_den
    have hra : ∃ r,((x.asserts.map Expr.enc).map (fun x=>x.map V.t))[j]? = some r/\r.length=4:=by
     refine ⟨(x.asserts[j].enc).map V.t,by simp [hjl],by simp [Expr.enc_eq]⟩
    obtain ⟨r,hr1,hr2⟩:=hra
    have hdr:List.drop 4 r=[]:=List.drop_eq_nil_of_le (by omega)
    have hgood:=part_asserts hg hx j
    have hq:=good7_den (setThr p i { x with asserts:=x.asserts.set j oneE }) (setThr_lite hl hx rfl) 40 (by decide)
    rw [hgood] at hq
    have hset:((x.asserts.map Expr.enc).map (fun x=>x.map V.t)).set j [vi 1,vi 1,vi 1, .t (.sl [])]=((x.asserts.set j oneE).map Expr.enc).map (fun x=>x.map V.t):=by
     rw [List.map_set,List.map_set]; rfl
    have hes:toT (updC (updC H2 k (some (.rows 7 (((p.threads.map Thread.enc).map (fun x=>x.map V.t)).set i [.t (.str x.name), .t (ti x.points), .ms k2 0 x.asserts.length, .t (ints x.modules), .t (.sl (x.steps.map Step.enc)), .t (.sl (x.loops.map Loop.enc)), .t (tb x.asleep)]) false))) k2 (some (.rows 4 (((x.asserts.set j oneE).map Expr.enc).map (fun x=>x.map V.t)) false))) 999 (.ms k2 0 x.asserts.length)=some (.sl ((x.asserts.set j oneE).map Expr.enc)) :=
     own_rows Expr.enc norm_expr _ (d:=998) (by rw [updC_at,if_pos rfl]) (by simp)
    have tq:=thr_treeX p i { x with asserts:=x.asserts.set j oneE } (k:=k) (by rw [updC_at,if_neg (by omega),updC_at,if_pos rfl]) (row:=[.t (.str x.name), .t (ti x.points), .ms k2 0 x.asserts.length, .t (ints x.modules), .t (.sl (x.steps.map Step.enc)), .t (.sl (x.loops.map Loop.enc)), .t (tb x.asleep)]) (h:=updC (updC H2 k (some (.rows 7 (((p.threads.map Thread.enc).map (fun x=>x.map V.t)).set i [.t (.str x.name), .t (ti x.points), .ms k2 0 x.asserts.length, .t (ints x.modules), .t (.sl (x.steps.map Step.enc)), .t (.sl (x.loops.map Loop.enc)), .t (tb x.asleep)]) false))) k2 (some (.rows 4 (((x.asserts.set j oneE).map Expr.enc).map (fun x=>x.map V.t)) false)))
     (by simp only [List.mapM_cons,List.mapM_nil,toT_t,hes,Option.pure_def,Option.bind_eq_bind,Option.bind_some]; rfl)
    simp -dsimp -implicitDefEqProofs only [go_sem,seval, ↓tq,hT,hA,hri,hri2,hil',hs1,hs0,hwc,hj,hj1,hj2,hk2k,hk2k',hone,hr1,hr2,hdr,hset,hq]
   ·have hs1:decide ((x.asserts.length:Int)>0)=false:=by simpa using hsn
    simp -dsimp -implicitDefEqProofs only [go_sem,seval,m4,hH,hn1,hn0,decide_true,decide_false,hwb,hi,hil',hri,hs1, ↓hsame,h1]
  ·exfalso; omega
 ·have hn1:decide ((p.threads.length:Int)>0)=false:=by simpa using hn
  simp -dsimp -implicitDefEqProofs only [go_sem,seval,m0,m1,hH,hn1,decide_false, ↓hsame,h1]
end Rg
end
