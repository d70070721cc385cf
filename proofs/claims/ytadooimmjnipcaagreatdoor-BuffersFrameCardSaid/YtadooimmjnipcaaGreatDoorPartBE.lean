/- Part of the proof of the laws of the package relyguardlaw12: an abstract machine for the program's functions, what they compute, and that the machine is the program's. No condition. (H21i H21j H21k H21l RgY3 H21m) -/
import Derived.Test.YtadooimmjnipcaaGreatDoorPartBD
import Derived.Test.YtadooimmjnipcaaGreatDoorPartAS
set_option linter.unusedSimpArgs false
set_option linter.unusedVariables false
section
namespace Rg
open Go
def EntO (h:Nat->Option O) (lo z:Nat) (vc vv:V) (cs ws:List Int):Prop :=
 (vc = .t .nils/\vv = .t .nils/\cs=[]/\ws=[]) \/ ∃ kc kv,vc = .ms kc 0 (rowsI cs).length/\vv = .ms kv 0 (rowsI ws).length/\lo<=kc/\kc<z/\lo<=kv/\kv<z/\kc≠kv/\h kc=some (.rows 1 (rowsI cs) false)/\h kv=some (.rows 1 (rowsI ws) false)
theorem execS_den (p:Prog) (hf:formedM p=true) (k:Int) (c:Config) (hc:IsB p c) (t:Nat) (x:Thread) (hx:p.threads[t]? = some x) (i:Nat) (s:Step) (hs:x.steps[i]? = some s) (y:Choice) (hy:y=⟨t,i,0⟩) (hk3:s.kind=3) :
 Den Γ G 192 [stV p k c,(.agg [.t (ti (y).thread), .t (ti (y).step), .t (ti (y).cell)]), .t (ints (viewM c t))]=some (.agg [.t (ints (execB p c t s).mem), .t (ints (execB p c t s).at_), .t (.sl ((execB p c t s).buf.map (fun b=>[.sl (b.map Entry.enc)])))]):=by
 subst hy
 obtain ⟨⟨m1,m2,m3,m4⟩,_⟩:=limits_points (formed_limits hf).1
 have l1:=hc.lm
 have l2:=hc.la
 have l3:=hc.lb
 have hok:=formed_step hf hx hs
 have ht:t<p.threads.length:=(List.getElem?_eq_some_iff.1 hx).1
 have hset:=set_small hok.set
 have hcm : ∀ a∈s.set,0<=a.cell/\a.cell<c.mem.length:=fun a ha=>by
  have:=(hok.rng.2 a ha).1
  simp only [inR,decide_eq_true_eq] at this; omega
 unfold stV
 (refine den_ofY Γ192 rfl ?_; dsimp only [f192])
 simp -dsimp -implicitDefEqProofs only [go_sem,seval]
 refine rawK_of (cloneB_den p hf c hc _) ?_
 rintro r h' n' ⟨vM,vA,kB,rfl,x1,x2,bd,vs,hM,hA,hk0,hk1,hk2,hB,hbs,hbn⟩
 obtain ⟨hva,hca⟩:=hM.val
 rcases hA with ⟨_,h0⟩ | ⟨kA,rfl,a1,a2,a3⟩
 ·exfalso
  have h1:=congrArg List.length h0
  rw [rowsI_len] at h1
  simp at h1
  rw [h1] at l2; simp at l2; omega
 unfold V.cells at hca
 have hbb:=hbs.le (q:=0) (r:=c.buf.length) (by omega) (Nat.le_refl _)
 simp -dsimp -implicitDefEqProofs only [go_sem,seval,hva,hca,hx,hs]
 refine loopYH 18889465931476433377792 s.set.length (fun j f h z=>(f 31).v=vi j/\(f 9).v = .lb /\ ∃ vc vv,(f 9).box=some [vc,vv]/\EntO h n' z vc vv (((s.set.take j).filter (sharedA p)).map Assign.cell) (((s.set.take j).filter (sharedA p)).map fun a=>a.to.eval (viewM c t) (viewM c t)) /\
  OwnI h 0 x1 vM (rowsI (writeM c.mem (viewM c t) ((s.set.take j).filter fun a => !sharedA p a)))/\(∀ q,x1<=q->q<n' -> h q=h' q)/\n' <= z) rfl
  ⟨by simp -dsimp -implicitDefEqProofs only [go_sem,seval],by simp -dsimp -implicitDefEqProofs only [go_sem,seval], .t .nils, .t .nils,by simp -dsimp -implicitDefEqProofs only [go_sem,seval], .inl ⟨rfl,rfl,rfl,rfl⟩,hM,fun _ _ _=>rfl,by simp -dsimp -implicitDefEqProofs only [go_sem,seval]; omega⟩ ?_
 rintro j f u H z bs hj ⟨h31,h9,vc,vv,h9b,hEO,hmj,hfr,hz⟩
 have hw:=wrapS j (by omega)
 simp -dsimp -implicitDefEqProofs only [go_sem,seval,h31]
 refine csplit (fun h => ?_) (fun h => ?_) <;> (try rw [h]) <;> (try simp only [bools] at h) <;> (try simp -dsimp -implicitDefEqProofs only [go_sem,seval,h31])
 ·obtain ⟨a,ha,ham⟩:=get_of ‹j<s.set.length›
  obtain ⟨c0,c1⟩:=hcm a ham
  obtain ⟨y,hy,_⟩:=hok.wid a ham
  have hev:=evalP_den a.to (viewM c t) (viewM c t)
  have hsh:sharedA p a=decide (y.thread = -1):=by rw [sharedA,cellIs_at hy]
  by_cases hyt:y.thread = -1
  ·have hsa:sharedA p a=true:=by rw [hsh]; simpa using hyt
   have hvc:Rg.valOf vc=some vc:=by rcases hEO with ⟨rfl,_⟩ | ⟨_,_,rfl,_⟩ <;> rfl
   have hvv:Rg.valOf vv=some vv:=by rcases hEO with ⟨_,rfl,_⟩ | ⟨_,_,_,rfl,_⟩ <;> rfl
   generalize hcs:((s.set.take j).filter (sharedA p)).map Assign.cell=cs at *
   generalize hws:(((s.set.take j).filter (sharedA p)).map fun a=>a.to.eval (viewM c t) (viewM c t))=ws at *
   have hcl:cs.length<=32:=by
    rw [<- hcs,List.length_map]
    have:=List.length_filter_le (sharedA p) (s.set.take j)
    rw [List.length_take] at this; omega
   have hwl:ws.length<=32:=by
    rw [<- hws,List.length_map]
    have:=List.length_filter_le (sharedA p) (s.set.take j)
    rw [List.length_take] at this; omega
   have hoffc : ∀ q,(q<n' \/ z<=q)->offK vc q:=fun q hq=>by
    rcases hEO with ⟨rfl,_⟩ | ⟨kc,kv,rfl,_,e1,e2,_⟩
    ·intro i n h0; cases h0
    ·exact offK_ms (by omega) _ _
   have hoffv : ∀ q,(q<n' \/ z<=q)->offK vv q:=fun q hq=>by
    rcases hEO with ⟨_,rfl,_⟩ | ⟨kc,kv,_,rfl,_,_,e1,e2,_⟩
    ·intro i n h0; cases h0
    ·exact offK_ms (by omega) _ _
   have hoC:OwnB (updC H (z+1+4+6+14+4) (some (O.rows 1 [[V.t (ti a.cell)]] false))) (z+1+4+6+14+5) vc 1 (rowsI cs):=by
    rcases hEO with ⟨rfl,_,rfl,_⟩ | ⟨kc,kv,rfl,_,e1,e2,e3,e4,e5,e6,e7⟩
    ·exact .inl ⟨rfl,rfl⟩
    ·exact .inr ⟨kc,rfl,by omega,by rw [updC_at,if_neg (by omega)]; exact e6⟩
   have hrc:=hoC.rowsS
   simp -dsimp -implicitDefEqProofs only [go_sem,seval,h31,h9,h9b,ha,hev,hk3,c0,hy,hyt,hvc,hrc]
   refine putA_app1 hoC (Nat.le_refl _) (by rw [rowsI_len]; omega) (by decide) rfl (rowsI_all _) ?_
   intro v1 hp1 hO1 hof1 hkp1
   rcases hO1 with ⟨_,he0⟩ | ⟨k1,rfl,hk1a,hk1h⟩
   ·simp at he0
   have hk1q:z+1+4+6+14+5<=k1:=by
    rcases Nat.lt_or_ge k1 (z+1+4+6+14+5) with h1 | h1
    ·exact absurd rfl (hof1 k1 h1 0 _)
    ·exact h1
   have hp1k : ∀ q,q<z->offK vc q->hpC (updC H (z+1+4+6+14+4) (some (O.rows 1 [[V.t (ti a.cell)]] false))) hp1 q=H q:=fun q q1 q2=>by
    rw [hkp1 q (by omega) q2,updC_at,if_neg (by omega)]
   have hoV:OwnB (updC (hpC (updC H (z+1+4+6+14+4) (some (O.rows 1 [[V.t (ti a.cell)]] false))) hp1) (z+1+4+6+14+8+3) (some (O.rows 1 [[V.t (T.int IntKind.i64 (a.to.eval (viewM c t) (viewM c t)))]] false))) (z+1+4+6+14+8+4) vv 1 (rowsI ws):=by
    rcases hEO with ⟨_,rfl,_,rfl⟩ | ⟨kc,kv,rfl,rfl,e1,e2,e3,e4,e5,e6,e7⟩
    ·exact .inl ⟨rfl,rfl⟩
    ·exact .inr ⟨kv,rfl,by omega,by rw [updC_at,if_neg (by omega),hp1k kv e4 (offK_ms (by omega) _ _)]; exact e7⟩
   have hrv:=hoV.rowsS
   simp -dsimp -implicitDefEqProofs only [go_sem,seval,h31,h9,h9b,hvv,hrv]
   refine putA_app1 hoV (Nat.le_refl _) (by rw [rowsI_len]; omega) (by decide) rfl (rowsI_all _) ?_
   intro v2 hp2 hO2 hof2 hkp2
   rcases hO2 with ⟨_,he0⟩ | ⟨k2,rfl,hk2a,hk2h⟩
   ·simp at he0
   have hk2q:z+1+4+6+14+8+4<=k2:=by
    rcases Nat.lt_or_ge k2 (z+1+4+6+14+8+4) with h1 | h1
    ·exact absurd rfl (hof2 k2 h1 0 _)
    ·exact h1
   have hp2k : ∀ q,q<n' -> hpC (updC (hpC (updC H (z+1+4+6+14+4) (some (O.rows 1 [[V.t (ti a.cell)]] false))) hp1) (z+1+4+6+14+8+3) (some (O.rows 1 [[V.t (T.int IntKind.i64 (a.to.eval (viewM c t) (viewM c t)))]] false))) hp2 q=H q:=fun q hq=>by
    rw [hkp2 q (by omega) (hoffv q (.inl hq)),updC_at,if_neg (by omega),hp1k q (by omega) (hoffc q (.inl hq))]
   have hk1f:hpC (updC (hpC (updC H (z+1+4+6+14+4) (some (O.rows 1 [[V.t (ti a.cell)]] false))) hp1) (z+1+4+6+14+8+3) (some (O.rows 1 [[V.t (T.int IntKind.i64 (a.to.eval (viewM c t) (viewM c t)))]] false))) hp2 k1=some (.rows 1 (rowsI cs++[[V.t (ti a.cell)]]) false):=by
    rw [hkp2 k1 (by omega) (hoffv k1 (.inr (by omega))),updC_at,if_neg (by omega)]; exact hk1h
   have hfs:(s.set.take (j+1)).filter (sharedA p)=(s.set.take j).filter (sharedA p)++[a]:=by
    rw [take_succ_of ha,List.filter_append]; simp [hsa]
   have hfn:((s.set.take (j+1)).filter fun a => !sharedA p a)=(s.set.take j).filter fun a => !sharedA p a:=by
    rw [take_succ_of ha,List.filter_append]; simp [hsa]
   simp -dsimp -implicitDefEqProofs only [go_sem,seval,h31,h9]
   refine ⟨by omega,by simp -dsimp -implicitDefEqProofs only [go_sem,seval,hw],by simp -dsimp -implicitDefEqProofs only [go_sem,seval,h9], .ms k1 0 (rowsI cs++[[V.t (ti a.cell)]]).length, .ms k2 0 (rowsI ws++[[V.t (T.int IntKind.i64 (a.to.eval (viewM c t) (viewM c t)))]]).length,by simp -dsimp -implicitDefEqProofs only [go_sem,seval,h9b], ?_, ?_, ?_,by simp -dsimp -implicitDefEqProofs only [go_sem,seval]; omega⟩
   ·rw [hfs,List.map_append,List.map_append,hcs,hws]
    refine .inr ⟨k1,k2,by rw [<- rowsI_app]; rfl,by rw [<- rowsI_app]; rfl,by omega,by simp -dsimp -implicitDefEqProofs only [go_sem,seval]; omega,by omega,by simp -dsimp -implicitDefEqProofs only [go_sem,seval]; omega,by omega, ?_, ?_⟩
    ·simp -dsimp -implicitDefEqProofs only [go_sem,seval]
     rw [hk1f, <- rowsI_app]
    ·simp -dsimp -implicitDefEqProofs only [go_sem,seval]
     rw [hk2h, <- rowsI_app]
   ·rw [hfn]
    exact hmj.keep fun q q1 q2=>by simp -dsimp -implicitDefEqProofs only [go_sem,seval]; exact hp2k q (by omega)
   ·intro q q1 q2
    simp -dsimp -implicitDefEqProofs only [go_sem,seval]
    rw [hp2k q q2]; exact hfr q q1 q2
  ·have hsa:sharedA p a=false:=by rw [hsh]; simpa using hyt
   have hlen:(writeM c.mem (viewM c t) ((s.set.take j).filter fun a => !sharedA p a)).length=c.mem.length:=write_len (viewM c t) _ c.mem
   have hfs:(s.set.take (j+1)).filter (sharedA p)=(s.set.take j).filter (sharedA p):=by
    rw [take_succ_of ha,List.filter_append]; simp [hsa]
   have hfn:((s.set.take (j+1)).filter fun a => !sharedA p a)=((s.set.take j).filter fun a => !sharedA p a)++[a]:=by
    rw [take_succ_of ha,List.filter_append]; simp [hsa]
   rcases hmj with ⟨_,h0⟩ | ⟨kM,rfl,m5,m6,m7⟩
   ·exfalso
    have h1:=congrArg List.length h0
    rw [rowsI_len,hlen] at h1
    simp at h1
    rw [h1] at c1; simp at c1; omega
   have hgt:=rowsI_get (l:=writeM c.mem (viewM c t) ((s.set.take j).filter fun a => !sharedA p a)) (i:=a.cell.toNat) (by omega)
   have hst:=rowsI_set (writeM c.mem (viewM c t) ((s.set.take j).filter fun a => !sharedA p a)) a.cell.toNat (a.to.eval (viewM c t) (viewM c t))
   have hws:writeM c.mem (viewM c t) (((s.set.take j).filter fun a => !sharedA p a)++[a])=(writeM c.mem (viewM c t) ((s.set.take j).filter fun a => !sharedA p a)).set a.cell.toNat (a.to.eval (viewM c t) (viewM c t)):=by
    unfold writeM; rw [List.foldl_append]; rfl
   rw [<- hws] at hst
   have hl2:(rowsI (writeM c.mem (viewM c t) ((s.set.take j).filter fun a => !sharedA p a))).length=c.mem.length:=by rw [rowsI_len,hlen]
   have hl3:(rowsI (writeM c.mem (viewM c t) (((s.set.take j).filter fun a => !sharedA p a)++[a]))).length=c.mem.length:=by rw [rowsI_len,write_len]
   simp -dsimp -implicitDefEqProofs only [go_sem,seval,h31,h9,ha,hev,hk3,hy,hyt,hl2,c0,c1,m7,hgt,hst]
   refine ⟨by omega,by simp -dsimp -implicitDefEqProofs only [go_sem,seval,hw],by simp -dsimp -implicitDefEqProofs only [go_sem,seval,h9],vc,vv,by simp -dsimp -implicitDefEqProofs only [go_sem,seval,h9b], ?_, ?_, ?_,by simp -dsimp -implicitDefEqProofs only [go_sem,seval]; omega⟩
   ·rw [hfs]
    rcases hEO with h1 | ⟨kc,kv,e0,e0',e1,e2,e3,e4,e5,e6,e7⟩
    ·exact .inl h1
    ·have u1:kc≠kM:=by omega
     have u2:kv≠kM:=by omega
     exact .inr ⟨kc,kv,e0,e0',e1,by simp -dsimp -implicitDefEqProofs only [go_sem,seval]; omega,e3,by simp -dsimp -implicitDefEqProofs only [go_sem,seval]; omega,e5,by simp -dsimp -implicitDefEqProofs only [go_sem,seval,u1,e6],by simp -dsimp -implicitDefEqProofs only [go_sem,seval,u2,e7]⟩
   ·rw [hfn]
    exact .inr ⟨kM,by rw [hl3,hl2],m5,m6,by simp -dsimp -implicitDefEqProofs only [go_sem,seval]⟩
   ·intro q q1 q2
    have u1:q≠kM:=by omega
    simp -dsimp -implicitDefEqProofs only [go_sem,seval,u1]
    exact hfr q q1 q2
 ·have hjs:j=s.set.length:=by omega
  subst hjs
  rw [List.take_length] at hmj hEO
  have hprop:=entry_proper hok hk3 (viewM c t)
  rcases hEO with ⟨_,_,h1,_⟩ | ⟨kc,kv,rfl,rfl,e1,e2,e3,e4,e5,e6,e7⟩
  ·exact absurd h1 hprop.ne
  have g1:H kA=some (.rows 1 (rowsI c.at_) false):=by rw [hfr kA a1 (by omega)]; exact a3
  have g2:H kB=some (.rows 1 vs false):=by rw [hfr kB (by omega) (by omega)]; exact hB
  have hget:=bufM_at (c:=c) (t:=t) (by omega)
  obtain ⟨v,hv,hbv⟩:=hbs.at_ t _ hget
  have h0t:=hbs.le (q:=0) (r:=t) (by omega) (by omega)
  have h1t:=hbs.le (q:=t+1) (r:=c.buf.length) (by omega) (Nat.le_refl _)
  have h2t:=hbs.mono t (by omega)
  obtain ⟨hvv,_⟩:=hbv.val
  obtain ⟨rows,hro,hrl,hr2,hre⟩:=hbv
  have t0:(0:Int)<=(t:Int):=by omega
  have t1:(t:Int)<(c.buf.length:Int):=by omega
  generalize hnc:(rowsI (List.map Assign.cell (List.filter (sharedA p) s.set))).length=nc at *
  generalize hnv:(rowsI (List.map (fun a=>a.to.eval (viewM c t) (viewM c t)) (List.filter (sharedA p) s.set))).length=nv at *
  have hoffq : ∀ q,(q<bd t\/bd (t+1)<=q \/ ∀ rs fz,h' q≠some (O.rows 2 rs fz))->offK v q:=fun q hq=>by
   rcases hro with ⟨rfl,_⟩ | ⟨kb,rfl,d1,d2,d3⟩
   ·intro i n h0; cases h0
   ·refine offK_ms ?_ _ _
    rintro rfl
    rcases hq with h | h | h
    ·omega
    ·omega
    ·exact h _ _ d3
  have hoV:OwnB (updC H (z+1+3+11) (some (O.rows 2 [[V.ms kc 0 nc,V.ms kv 0 nv]] false))) (z+1+3+12) v 2 rows:=by
   rcases hro with ⟨rfl,h1⟩ | ⟨kb,rfl,d1,d2,d3⟩
   ·exact .inl ⟨rfl,h1⟩
   ·exact .inr ⟨kb,rfl,by omega,by rw [updC_at,if_neg (by omega),hfr kb (by omega) (by omega)]; exact d3⟩
  have hrv:=hoV.rowsS
  simp -dsimp -implicitDefEqProofs only [go_sem,seval,hk3,h9,h9b,g2,hv,hvv,t0,t1,hrv]
  have hall:(rows.all fun r=>decide (r.length=2))=true:=by simpa using hr2
  obtain ⟨b1,b2,_⟩:=hc.buf t _ hget
  refine putA_app1 hoV (Nat.le_refl _) (by rw [hrl]; omega) (by decide) rfl hall ?_
  intro v2 hp hO hof hkp
  rcases hO with ⟨_,he0⟩ | ⟨k2,rfl,hk2a,hk2h⟩
  ·simp at he0
  have hk2q:z+1+3+12<=k2:=by
   rcases Nat.lt_or_ge k2 (z+1+3+12) with h1 | h1
   ·exact absurd rfl (hof k2 h1 0 _)
   ·exact h1
  have hpk : ∀ q,q<z->offK v q->hpC (updC H (z+1+3+11) (some (O.rows 2 [[V.ms kc 0 nc,V.ms kv 0 nv]] false))) hp q=H q:=fun q q1 q2=>by
   rw [hkp q (by omega) q2,updC_at,if_neg (by omega)]
  have gB:=hpk kB (by omega) (hoffq kB (.inl (by omega)))
  rw [g2] at gB
  have gA:=hpk kA (by omega) (hoffq kA (.inl (by omega)))
  rw [g1] at gA
  have hAB:kA≠kB:=by omega
  have hBA:kB≠kA:=by omega
  have hgt:=rowsI_get (l:=c.at_) (i:=t) (by omega)
  have hst:=rowsI_set c.at_ t s.to
  have hlt:(t:Int)<(c.at_.length:Int):=by omega
  have k6 : ¬ s.kind=6:=by omega
  simp -dsimp -implicitDefEqProofs only [go_sem,seval,hk3,h9,h9b,gB,hv,t0,t1,hAB,gA,hgt,hlt,hst,rowsI_len]
  have hC:execB p c t s=⟨writeM c.mem (viewM c t) (s.set.filter fun a => !sharedA p a),c.at_.set t s.to,c.buf.set t (bufM c t++[entryOf p (viewM c t) s.set])⟩:=by simp only [execB,if_pos hk3,if_neg k6]
  have hkF : ∀ (o o' : Option O) q,q≠kA->q≠kB->updC (updC (hpC (updC H (z+1+3+11) (some (O.rows 2 [[V.ms kc 0 nc,V.ms kv 0 nv]] false))) hp) kB o) kA o' q=hpC (updC H (z+1+3+11) (some (O.rows 2 [[V.ms kc 0 nc,V.ms kv 0 nv]] false))) hp q:=fun o o' q q1 q2=>by
   rw [updC_at,if_neg q1,updC_at,if_neg q2]
  have hsame : ∀ (o o' : Option O) q,x1<=q->q<n' -> q≠kA->q≠kB->offK v q->updC (updC (hpC (updC H (z+1+3+11) (some (O.rows 2 [[V.ms kc 0 nc,V.ms kv 0 nv]] false))) hp) kB o) kA o' q=h' q:=fun o o' q q0 q1 q2 q3 q4=>by
   rw [hkF o o' q q2 q3,hpk q (by omega) q4,hfr q q0 q1]
  have fM : ∀ o o',toT (updC (updC (hpC (updC H (z+1+3+11) (some (O.rows 2 [[V.ms kc 0 nc,V.ms kv 0 nv]] false))) hp) kB o) kA o') 1000 vM=some (ints (writeM c.mem (viewM c t) (s.set.filter fun a => !sharedA p a))):=fun o o' =>
   (hmj.keep fun q q1 q2=>by rw [hkF o o' q (by omega) (by omega),hpk q (by omega) (hoffq q (.inl (by omega)))]).tree 999
  have f3:List.take c.at_.length (rowsI (c.at_.set t s.to))=rowsI (c.at_.set t s.to):=take_all (by rw [rowsI_len,List.length_set])
  have f5 : ∀ v,(vs.set t [v]).length=c.buf.length:=fun v=>by rw [List.length_set]; exact hbs.len
  have f6 : ∀ v,List.take c.buf.length (vs.set t [v])=vs.set t [v]:=fun v=>take_all (f5 v).symm
  have f7 : ∀ o o' : Option O,(vs.set t [V.ms k2 0 (rows++[[V.ms kc 0 nc,V.ms kv 0 nv]]).length]).mapM (fun row=>row.mapM (toT (updC (updC (hpC (updC H (z+1+3+11) (some (O.rows 2 [[V.ms kc 0 nc,V.ms kv 0 nv]] false))) hp) kB o) kA o') 999))=some ((c.buf.set t (bufM c t++[entryOf p (viewM c t) s.set])).map fun b=>[.sl (b.map Entry.enc)]):=by
   intro o o'
   refine bufs_trees _ _ (by rw [f5,List.length_set]) fun j b hb => ?_
   rw [List.getElem?_set] at hb
   by_cases hj:t=j
   ·subst hj
    rw [if_pos rfl,if_pos (by omega)] at hb
    simp only [Option.some.injEq] at hb
    subst hb
    refine ⟨_,by rw [List.getElem?_set,if_pos rfl,if_pos (by have:=hbs.len; omega)], ?_⟩
    refine BufV.tree (lo:=bd t) (hi:=k2+1) ⟨rows++[[V.ms kc 0 nc,V.ms kv 0 nv]], .inr ⟨k2,rfl,by omega,by omega,by rw [hkF o o' k2 (by omega) (by omega)]; exact hk2h⟩,by rw [List.length_append,List.length_append,hrl]; rfl, ?_,fun q e0 hq => ?_⟩ 997
    ·intro r hr
     rcases List.mem_append.1 hr with hr | hr
     ·exact hr2 r hr
     ·rw [List.mem_singleton] at hr; rw [hr]; rfl
    ·rcases Nat.lt_or_ge q (bufM c t).length with h1 | h1
     ·rw [List.getElem?_append_left h1] at hq
      obtain ⟨r,hr,hE⟩:=hre q e0 hq
      refine ⟨r,by rw [List.getElem?_append_left (by omega)]; exact hr,hE.keep (Nat.le_refl _) (by omega) fun w w1 w2 w3 => ?_⟩
      exact hsame o o' w (by omega) (by omega) (by omega) (by omega) (hoffq w (.inr (.inr w3)))
     ·have hqj:q=(bufM c t).length:=by
       have:=(List.getElem?_eq_some_iff.1 hq).1
       rw [List.length_append,List.length_singleton] at this; omega
      subst hqj
      rw [List.getElem?_append_right (Nat.le_refl _),Nat.sub_self] at hq
      simp only [List.getElem?_cons_zero,Option.some.injEq] at hq
      subst hq
      refine ⟨[V.ms kc 0 nc,V.ms kv 0 nv],by rw [List.getElem?_append_right (by omega),hrl,Nat.sub_self]; rfl, ?_⟩
      have u1 : ∀ q,n' <= q->q<z->updC (updC (hpC (updC H (z+1+3+11) (some (O.rows 2 [[V.ms kc 0 nc,V.ms kv 0 nv]] false))) hp) kB o) kA o' q=H q:=fun q q1 q2=>by
       rw [hkF o o' q (by omega) (by omega),hpk q q2 (hoffq q (.inr (.inl (by omega))))]
      rw [rowsI_len] at hnc hnv
      refine ⟨kc,kv,by rw [<- hnc, <- hnv]; rfl,by omega,by omega,by omega,by omega,by rw [u1 kc e1 e2]; exact e6,by rw [u1 kv e3 e4]; exact e7⟩
   ·rw [if_neg hj] at hb
    obtain ⟨u,hu,hB4⟩:=hbs.at_ j b hb
    have hjl:=(List.getElem?_eq_some_iff.1 hb).1
    refine ⟨u,by rw [List.getElem?_set,if_neg hj]; exact hu, ?_⟩
    refine (hB4.keep (Nat.le_refl _) fun q q1 q2 => ?_).tree 997
    have u1:=hbs.le (q:=0) (r:=j) (by omega) (by omega)
    have u2:=hbs.le (q:=j+1) (r:=c.buf.length) (by omega) (Nat.le_refl _)
    refine hsame o o' q (by omega) (by omega) (by omega) (by omega) (hoffq q ?_)
    rcases Nat.lt_or_ge j t with h1 | h1
    ·have:=hbs.le (q:=j+1) (r:=t) (by omega) (by omega); exact .inl (by omega)
    ·have:=hbs.le (q:=t+1) (r:=j) (by omega) (by omega); exact .inr (.inl (by omega))
  rw [hC]
  simp -dsimp -implicitDefEqProofs only [go_sem,seval,hBA,fM,f3,f5,f6,f7,rowsI_len,List.length_set,rowsI_toT,Nat.le_refl]
end Rg
end
section
namespace Rg
open Go
theorem execB_den (p:Prog) (hf:formedM p=true) (k:Int) (c:Config) (hc:IsB p c) (t:Nat) (x:Thread) (hx:p.threads[t]? = some x) (i:Nat) (s:Step) (hs:x.steps[i]? = some s) (y:Choice) (hy:y=⟨t,i,0⟩) :
 Den Γ G 192 [stV p k c,(.agg [.t (ti (y).thread), .t (ti (y).step), .t (ti (y).cell)]), .t (ints (viewM c t))]=some (.agg [.t (ints (execB p c t s).mem), .t (ints (execB p c t s).at_), .t (.sl ((execB p c t s).buf.map (fun b=>[.sl (b.map Entry.enc)])))]):=by
 by_cases hk:s.kind=3
 ·exact execS_den p hf k c hc t x hx i s hs y hy hk
 ·exact execO_den p hf k c hc t x hx i s hs y hy hk
def stT (p:Prog) (k:Int) (c:Config):List T:=[ints c.mem,ints c.at_, .sl (c.buf.map fun b=>[.sl (b.map Entry.enc)]), .sl (p.cells.map Cell.enc), .sl (p.modules.map Contract.enc), .sl (p.locks.map Lock.enc), .sl (p.threads.map Thread.enc),ti k]
theorem open_den (p:Prog) (k:Int) (c:Config) (t:Nat):Den Γ G 190 [stV p k c,vi t]=some (.t (.fn 200 [] [.ip (stT p k c), .ip [ti t]])):=by
 unfold stV stT
 (refine den_ofY Γ190 rfl ?_; dsimp only [f190])
 simp -dsimp -implicitDefEqProofs only [go_sem,seval]
 done
theorem open1_den (p:Prog) (hf:formedM p=true) (k:Int) (c:Config) (hc:IsB p c) (t:Nat) (ht:t<p.threads.length) (ky:Nat) (Inv:Nat->(Nat->Option O)->Nat->Prop) (Stop:(Nat->Option O)->Nat->Prop)
 (hmono : ∀ i H n m,Inv i H n->n<=m->Inv i H m) (hstop : ∀ H n m,Stop H n->n<=m->Stop H m)
 (hstep : ∀ i e H n,(bufM c t)[i]? = some e->Inv i H n->if openM k (bufM c t) i e then ∃ cont h' n',DenY Γ G ky [vi i, .agg [.t (ints e.cells), .t (ints e.values)]] H n=some (vb cont,h',n')/\(if cont then Inv (i+1) h' n' else Stop h' n') else Inv (i+1) H n)
 (H:Nat->Option O) (n:Nat) (h0:Inv 0 H n) :
 ∃ r h' n',DenR Γ G 200 [.yl ky, .t (.ip (stT p k c)), .t (.ip [ti t])] H n=some (r,h',n')/\(Inv (bufM c t).length h' n' \/ Stop h' n'):=by
 obtain ⟨⟨m1,m2,m3,m4⟩,_⟩:=limits_points (formed_limits hf).1
 have l3:=hc.lb
 have hget:=bufM_at (c:=c) (t:=t) (by omega)
 obtain ⟨b1,b2,_⟩:=hc.buf t _ hget
 unfold stT
 (refine denR_ofY Γ200 rfl ?_; dsimp only [f200])
 simp -dsimp -implicitDefEqProofs only [go_sem,seval,hget]
 refine loopYH 1099511595104 (bufM c t).length (fun i f h z=>(f 15).v=vi i/\Inv i h z) rfl ⟨by simp -dsimp -implicitDefEqProofs only [go_sem,seval],hmono _ _ _ _ h0 (by simp -dsimp -implicitDefEqProofs only [go_sem,seval]; omega)⟩ ?_
 rintro i f u H2 z bs hi ⟨h15,hI⟩
 have hw:=wrapS i (by omega)
 simp -dsimp -implicitDefEqProofs only [go_sem,seval,h15]
 refine csplit (fun h => ?_) (fun h => ?_) <;> (try rw [h]) <;> (try simp only [bools] at h) <;> (try simp -dsimp -implicitDefEqProofs only [go_sem,seval,h15])
 ·obtain ⟨e,he,hem⟩:=get_of ‹i<(bufM c t).length›
  have hpr:=b2 e hem
  have hpl:=proper_len hpr
  have hst0:=hstep i e H2 z he hI
  have hyl:openM k (bufM c t) i e=true -> ∀ m,z<=m -> ∃ r h' n',DenY Γ G ky [vi i, .agg [.t (ints e.cells), .t (ints e.values)]] H2 m=some (r,h',n') /\ ∃ cont:Bool,r=vb cont/\(if cont then Inv (i+1) h' n' else Stop h' n'):=fun ho m hm=>by
   have:=hstep i e H2 m he (hmono _ _ _ _ hI hm)
   rw [if_pos ho] at this
   obtain ⟨cont,h',n',h1,h2⟩:=this
   exact ⟨_,h',n',h1,cont,rfl,h2⟩
  have hall:((((bufM c t).map Entry.enc)).all fun x=>decide (x.length=2))=true:=by simp [Entry.enc]
  have hbl:=blocked_den ((bufM c t).take i) e (by rw [List.length_take]; omega) (by omega) (fun o ho=>by
   have:=proper_len (b2 o (List.mem_of_mem_take ho)); omega)
  rw [List.map_take] at hbl
  have i1:(0:Int)<=(i:Int):=by omega
  have i2:(i:Int)<=((bufM c t).length:Int):=by omega
  have i3:((i:Int)-0).toNat=i:=by omega
  by_cases hi0:i=0
  ·subst hi0
   simp -dsimp -implicitDefEqProofs only [go_sem,seval,h15,he,Entry.enc]
   refine rawK_of (hyl (by simp [openM]) _ (by omega)) ?_
   rintro r h' n' ⟨cont,rfl,hcont⟩
   cases cont
   ·simp -dsimp -implicitDefEqProofs only [go_sem,seval,h15]
    exact .inr (hstop _ _ _ hcont (by omega))
   ·simp -dsimp -implicitDefEqProofs only [go_sem,seval,h15]
    exact ⟨by omega,by simp -dsimp -implicitDefEqProofs only [go_sem,seval,hw],hmono _ _ _ _ hcont (by simp -dsimp -implicitDefEqProofs only [go_sem,seval]; omega)⟩
  ·have hgt:(i:Int)>0:=by omega
   by_cases hk2:k=2
   ·cases hb:blockedM ((bufM c t).take i) e
    ·simp -dsimp -implicitDefEqProofs only [go_sem,seval,h15,he,Entry.enc,hgt,hk2,hbl,hb,i1,i2,i3,hall]
     refine rawK_of (hyl (by simp [openM,hk2,hb]) _ (by omega)) ?_
     rintro r h' n' ⟨cont,rfl,hcont⟩
     cases cont
     ·simp -dsimp -implicitDefEqProofs only [go_sem,seval,h15]
      exact .inr (hstop _ _ _ hcont (by omega))
     ·simp -dsimp -implicitDefEqProofs only [go_sem,seval,h15]
      exact ⟨by omega,by simp -dsimp -implicitDefEqProofs only [go_sem,seval,hw],hmono _ _ _ _ hcont (by simp -dsimp -implicitDefEqProofs only [go_sem,seval]; omega)⟩
    ·simp -dsimp -implicitDefEqProofs only [go_sem,seval,h15,he,Entry.enc,hgt,hk2,hbl,hb,i1,i2,i3,hall]
     rw [if_neg (by simp [openM,hk2,hb,hi0])] at hst0
     exact ⟨by omega,by simp -dsimp -implicitDefEqProofs only [go_sem,seval,hw],hmono _ _ _ _ hst0 (by simp -dsimp -implicitDefEqProofs only [go_sem,seval]; omega)⟩
   ·simp -dsimp -implicitDefEqProofs only [go_sem,seval,h15,he,Entry.enc,hgt,hk2]
    rw [if_neg (by simp [openM,hk2,hi0])] at hst0
    exact ⟨by omega,by simp -dsimp -implicitDefEqProofs only [go_sem,seval,hw],hmono _ _ _ _ hst0 (by simp -dsimp -implicitDefEqProofs only [go_sem,seval]; omega)⟩
 ·have hi2:i=(bufM c t).length:=by omega
  subst hi2
  exact .inl (hmono _ _ _ _ hI (by simp -dsimp -implicitDefEqProofs only [go_sem,seval]; omega))
theorem proper_den (p:Prog) (hf:formedM p=true) (e:Entry) (he:Proper p e):Den Γ G 205 [(.agg [.t (.sl ((p).cells.map (Cell.enc))), .t (.sl ((p).modules.map (Contract.enc))), .t (.sl ((p).locks.map (Lock.enc))), .t (.sl ((p).threads.map (Thread.enc)))]), .agg [.t (ints e.cells), .t (ints e.values)]]=some (vb true):=by
 obtain ⟨⟨m1,m2,m3,m4⟩,_⟩:=limits_points (formed_limits hf).1
 have hl:=proper_len he
 have hv:=he.len
 have n0 : ¬ (e.cells.length:Int)=0:=by
  have:e.cells.length≠0:=fun h=>he.ne (List.eq_nil_of_length_eq_zero h)
  omega
 have n1 : ¬ (e.cells.length:Int)>(p.cells.length:Int):=by omega
 have n2:(e.values.length:Int)=(e.cells.length:Int):=by omega
 (refine den_ofY Γ205 rfl ?_; dsimp only [f205])
 simp -dsimp -implicitDefEqProofs only [go_sem,seval,n0,n1,n2]
 refine loopY 1237940039285380266309189872 e.cells.length (fun i f=>(f 33).v=vi i) rfl rfl (by simp -dsimp -implicitDefEqProofs only [go_sem,seval]) ?_
 rintro i f u kk bb hi h33
 have hw:=wrapS i (by omega)
 simp -dsimp -implicitDefEqProofs only [go_sem,seval,h33]
 refine csplit (fun h => ?_) (fun h => ?_) <;> (try rw [h]) <;> (try simp only [bools] at h) <;> (try simp -dsimp -implicitDefEqProofs only [go_sem,seval,h33])
 ·obtain ⟨n,hn,hnm⟩:=get_of ‹i<e.cells.length›
  obtain ⟨v,hvv,_⟩:=get_of (show i<e.values.length by omega)
  obtain ⟨c0,y,hy,ht,hg,v0,v1⟩:=he.cell i n v hn hvv
  have hyl:=(List.getElem?_eq_some_iff.1 hy).1
  obtain ⟨w1,w2,_⟩:=formed_cell hf (List.mem_of_getElem? hy)
  have hsh:=shl_one (w:=y.w) (by omega)
  have hs0 : ¬ y.w<0:=by omega
  have a1 : ¬ n<0:=by omega
  have a2 : ¬ n>=(p.cells.length:Int):=by omega
  have a3 : ¬ v<0:=by omega
  have a4 : ¬ v>=2^y.w.toNat:=by omega
  have i1:(0:Int)<=(i:Int):=by omega
  have i2:(i:Int)<=(e.cells.length:Int):=by omega
  have i3:((i:Int)-0).toNat=i:=by omega
  have hct:=bContains_den (e.cells.take i) n (by rw [List.length_take]; omega)
  have hcf:(e.cells.take i).contains n=false:=by
   rw [Bool.eq_false_iff]
   intro hc
   have hm:n∈e.cells.take i:=by simpa using hc
   obtain ⟨j,hj⟩:=List.getElem?_of_mem hm
   rw [List.getElem?_take] at hj
   split at hj
   ·rename_i hji
    have h1:=(List.getElem?_eq_some_iff.1 hj)
    have h2:=(List.getElem?_eq_some_iff.1 hn)
    exact List.pairwise_iff_getElem.1 (List.nodup_iff_pairwise_ne.1 he.nd) j i h1.1 h2.1 hji (by rw [h1.2,h2.2])
   ·simp at hj
  rw [hcf] at hct
  have hall:((e.cells.map fun n=>[ti n]).all fun x=>decide (x.length=1))=true:=by simp
  have htm:(e.cells.map fun n=>[ti n]).take i=(e.cells.take i).map fun n=>[ti n]:=by rw [List.map_take]
  have hgi:((y.ghost==decide ((i:Int)>0)) != true)=false:=by
   rw [hg]
   by_cases h0:0<i
   ·have:(i:Int)>0:=by omega
    simp [h0]
   ·have : ¬ (i:Int)>0:=by omega
    simp [h0]
  simp -dsimp -implicitDefEqProofs only [go_sem,seval,h33,hn,a1,a2,i1,i2,i3,hall,htm,hct,c0,hy,ht,hgi,hvv,a3,hsh,hs0,a4]
  exact ⟨by omega,by simp -dsimp -implicitDefEqProofs only [go_sem,seval,hw]⟩
theorem fitsB_den (p:Prog) (hf:formedM p=true) (c:Config) (hc:IsB p c):Den Γ G 196 [(.agg [.t (.sl ((p).cells.map (Cell.enc))), .t (.sl ((p).modules.map (Contract.enc))), .t (.sl ((p).locks.map (Lock.enc))), .t (.sl ((p).threads.map (Thread.enc)))]),(.agg [.t (ints (c).mem), .t (ints (c).at_), .t (.sl ((c).buf.map (fun b=>[.sl (b.map Entry.enc)])))])]=some (vb true):=by
 obtain ⟨⟨m1,m2,m3,m4⟩,_⟩:=limits_points (formed_limits hf).1
 have l1:=hc.lm
 have l2:=hc.la
 have l3:=hc.lb
 have e1:(c.mem.length:Int)=(p.cells.length:Int):=by omega
 have e2:(c.at_.length:Int)=(p.threads.length:Int):=by omega
 have e3:(c.buf.length:Int)=(p.threads.length:Int):=by omega
 (refine den_ofY Γ196 rfl ?_; dsimp only [f196])
 simp -dsimp -implicitDefEqProofs only [go_sem,seval,e1,e2,e3]
 refine loopY 576459652791795824 c.mem.length (fun i f=>(f 40).v=vi i) rfl rfl (by simp -dsimp -implicitDefEqProofs only [go_sem,seval]) ?_
 rintro i f u kk bb hi h40
 have hw:=wrapS i (by omega)
 simp -dsimp -implicitDefEqProofs only [go_sem,seval,h40]
 refine csplit (fun h => ?_) (fun h => ?_) <;> (try rw [h]) <;> (try simp only [bools] at h) <;> (try simp -dsimp -implicitDefEqProofs only [go_sem,seval,h40])
 ·obtain ⟨v,hv,_⟩:=get_of (show i<c.mem.length by omega)
  obtain ⟨x,hx,hxm⟩:=get_of (show i<p.cells.length by omega)
  obtain ⟨w1,w2,_⟩:=formed_cell hf hxm
  have hsh:=shl_one (w:=x.w) (by omega)
  have hs0 : ¬ x.w<0:=by omega
  obtain ⟨v0,v1⟩:=hc.mem i v x hv hx
  have a3 : ¬ v<0:=by omega
  have a4 : ¬ v>=2^x.w.toNat:=by omega
  simp -dsimp -implicitDefEqProofs only [go_sem,seval,h40,hv,hx,hsh,hs0,a3,a4]
  exact ⟨by omega,by simp -dsimp -implicitDefEqProofs only [go_sem,seval,hw]⟩
 ·refine loopY 2658455991569831741195928102133304208 c.at_.length (fun i f=>(f 62).v=vi i) rfl rfl (by simp -dsimp -implicitDefEqProofs only [go_sem,seval]) ?_
  clear h40 hw
  rintro t f u kk bb hi h62
  have hw:=wrapS t (by omega)
  simp -dsimp -implicitDefEqProofs only [go_sem,seval,h62]
  refine csplit (fun h => ?_) (fun h => ?_) <;> (try rw [h]) <;> (try simp only [bools] at h) <;> (try simp -dsimp -implicitDefEqProofs only [go_sem,seval,h62])
  ·obtain ⟨a,ha,_⟩:=get_of (show t<c.at_.length by omega)
   obtain ⟨x,hx,hxm⟩:=get_of (show t<p.threads.length by omega)
   obtain ⟨a1,a2,a3⟩:=hc.at_ t a x ha hx
   have hget:=bufM_at (c:=c) (t:=t) (by omega)
   obtain ⟨b1,b2,b3⟩:=hc.buf t _ hget
   have q1 : ¬ a < -1:=by omega
   have q2 : ¬ a>=x.points:=by omega
   have q3 : ¬ ((bufM c t).length:Int)>3:=by omega
   by_cases ha1:a = -1
   ·have hb0:bufM c t=[]:=b3 (by rw [ha,ha1])
    have hsl:=a3 ha1
    have n0 : ¬ ((bufM c t).length:Int)>0:=by rw [hb0]; simp
    subst ha1
    simp -dsimp -implicitDefEqProofs only [go_sem,seval,h62,ha,hx,hget,q1,q2,q3,hsl,n0]
    refine loopY 1326631847355648459089541812115736592 (bufM c t).length (fun j f' => (f' 111).v=vi j) rfl rfl (by simp -dsimp -implicitDefEqProofs only [go_sem,seval]) ?_
    rintro j f' u' kk' bb' hj h111
    have hw' := wrapS j (by omega)
    simp -dsimp -implicitDefEqProofs only [go_sem,seval,h111]
    refine csplit (fun h => ?_) (fun h => ?_) <;> (try rw [h]) <;> (try simp only [bools] at h) <;> (try simp -dsimp -implicitDefEqProofs only [go_sem,seval,h111,h62])
    ·obtain ⟨e,he,hem⟩:=get_of ‹j<(bufM c t).length›
     have hpd:=proper_den p hf e (b2 e hem)
     simp -dsimp -implicitDefEqProofs only [go_sem,seval,h111,h62,he,Entry.enc,hpd]
     exact ⟨by omega,by simp -dsimp -implicitDefEqProofs only [go_sem,seval,hw']⟩
    ·exact ⟨by omega,by simp -dsimp -implicitDefEqProofs only [go_sem,seval,hw,h62]⟩
   ·simp -dsimp -implicitDefEqProofs only [go_sem,seval,h62,ha,hx,hget,q1,q2,q3,ha1]
    refine loopY 1326631847355648459089541812115736592 (bufM c t).length (fun j f' => (f' 111).v=vi j) rfl rfl (by simp -dsimp -implicitDefEqProofs only [go_sem,seval]) ?_
    rintro j f' u' kk' bb' hj h111
    have hw' := wrapS j (by omega)
    simp -dsimp -implicitDefEqProofs only [go_sem,seval,h111]
    refine csplit (fun h => ?_) (fun h => ?_) <;> (try rw [h]) <;> (try simp only [bools] at h) <;> (try simp -dsimp -implicitDefEqProofs only [go_sem,seval,h111,h62])
    ·obtain ⟨e,he,hem⟩:=get_of ‹j<(bufM c t).length›
     have hpd:=proper_den p hf e (b2 e hem)
     simp -dsimp -implicitDefEqProofs only [go_sem,seval,h111,h62,he,Entry.enc,hpd]
     exact ⟨by omega,by simp -dsimp -implicitDefEqProofs only [go_sem,seval,hw']⟩
    ·exact ⟨by omega,by simp -dsimp -implicitDefEqProofs only [go_sem,seval,hw,h62]⟩
theorem validB_den (p:Prog) (hs:p.sane):Den Γ G 195 [(.agg [.t (.sl ((p).cells.map (Cell.enc))), .t (.sl ((p).modules.map (Contract.enc))), .t (.sl ((p).locks.map (Lock.enc))), .t (.sl ((p).threads.map (Thread.enc)))])]=some (vb (formedM p)):=by
 (refine den_ofY Γ195 rfl ?_; dsimp only [f195])
 have h1:=validP7_den p hs
 simp -dsimp -implicitDefEqProofs only [go_sem,seval,h1]
 rfl
theorem load_den (p:Prog) (hs:p.sane) (hf:formedM p=true) (c:Config) (hc:IsB p c) (k:Int) (hk:k=1\/k=2):Den Γ G 187 [(.agg [.t (.sl ((p).cells.map (Cell.enc))), .t (.sl ((p).modules.map (Contract.enc))), .t (.sl ((p).locks.map (Lock.enc))), .t (.sl ((p).threads.map (Thread.enc)))]),vi k,(.agg [.t (ints (c).mem), .t (ints (c).at_), .t (.sl ((c).buf.map (fun b=>[.sl (b.map Entry.enc)])))])]=some (.tup [stV p k c,vb true]):=by
 unfold stV
 (refine den_ofY Γ187 rfl ?_; dsimp only [f187])
 have h1:=validB_den p hs
 rw [hf] at h1
 have h2:=fitsB_den p hf c hc
 rcases hk with rfl | rfl
 ·simp -dsimp -implicitDefEqProofs only [go_sem,seval,h1,h2]
 ·simp -dsimp -implicitDefEqProofs only [go_sem,seval,h1,h2]
theorem viewB_den (p:Prog) (hs:p.sane) (hf:formedM p=true) (c:Config) (hc:IsB p c) (t:Nat) (ht:t<p.threads.length):Den Γ G 183 [(.agg [.t (.sl ((p).cells.map (Cell.enc))), .t (.sl ((p).modules.map (Contract.enc))), .t (.sl ((p).locks.map (Lock.enc))), .t (.sl ((p).threads.map (Thread.enc)))]),(.agg [.t (ints (c).mem), .t (ints (c).at_), .t (.sl ((c).buf.map (fun b=>[.sl (b.map Entry.enc)])))]),vi t]=some (.t (ints (viewM c t))):=by
 (refine den_ofY Γ183 rfl ?_; dsimp only [f183])
 have h1:=validB_den p hs
 rw [hf] at h1
 have h2:=fitsB_den p hf c hc
 have h3:=view_den p hf c hc t ht
 have a1 : ¬ (t:Int)<0:=by omega
 have a2 : ¬ (t:Int)>=(p.threads.length:Int):=by omega
 simp -dsimp -implicitDefEqProofs only [go_sem,seval,h1,h2,h3,a1,a2]
def quietM (c:Config):Bool:=c.buf.all fun b=>b.isEmpty
theorem quietB_den (c:Config) (hl:c.buf.length<2^40):Den Γ G 186 [(.agg [.t (ints (c).mem), .t (ints (c).at_), .t (.sl ((c).buf.map (fun b=>[.sl (b.map Entry.enc)])))])]=some (vb (quietM c)):=by
 (refine den_ofY Γ186 rfl ?_; dsimp only [f186])
 simp -dsimp -implicitDefEqProofs only [go_sem,seval]
 refine loopY 65300 c.buf.length (fun i f=>(f 8).v=vi i/\quietM c=(c.buf.drop i).all fun b=>b.isEmpty) rfl rfl ⟨by simp -dsimp -implicitDefEqProofs only [go_sem,seval],rfl⟩ ?_
 rintro i f u kk bb hi ⟨h8,hq⟩
 have hw:=wrapS i (by omega)
 simp -dsimp -implicitDefEqProofs only [go_sem,seval,h8]
 refine csplit (fun h => ?_) (fun h => ?_) <;> (try rw [h]) <;> (try simp only [bools] at h) <;> (try simp -dsimp -implicitDefEqProofs only [go_sem,seval,h8])
 ·obtain ⟨b,hb,_⟩:=get_of ‹i<c.buf.length›
  by_cases hbe:b=[]
  ·have n0 : ¬ (b.length:Int)>0:=by rw [hbe]; simp
   simp -dsimp -implicitDefEqProofs only [go_sem,seval,h8,hb,n0]
   exact ⟨by omega,by simp -dsimp -implicitDefEqProofs only [go_sem,seval,hw],by rw [hq,all_step hb (by rw [hbe]; rfl)]⟩
  ·have n0:(b.length:Int)>0:=by
    have:b.length≠0:=fun h=>hbe (List.eq_nil_of_length_eq_zero h)
    omega
   simp -dsimp -implicitDefEqProofs only [go_sem,seval,h8,hb,n0]
   rw [hq,all_stop hb (by cases b with | nil=>exact absurd rfl hbe | cons _ _=>rfl)]
 ·have:i=c.buf.length:=by omega
  subst this
  rw [hq,all_end]
end Rg
end
section
namespace Rg
open Go
noncomputable def envC:(Nat->Slot)->Nat->V:=(Classical.choice (⟨⟨fun sl t=>(sl t).v,rfl⟩⟩:Nonempty {g:(Nat->Slot)->Nat->V // g=fun sl t=>(sl t).v})).1
theorem envC_eq:envC=fun sl t=>(sl t).v:=(Classical.choice (⟨⟨fun sl t=>(sl t).v,rfl⟩⟩:Nonempty {g:(Nat->Slot)->Nat->V // g=fun sl t=>(sl t).v})).2
@[go_sem ↓] theorem envC_at (sl:Nat->Slot) (t:Nat):envC sl t=(sl t).v:=by rw [envC_eq]
@[go_sem ↓] theorem updC_env (f:Nat->V) (i j:Nat) (v:V):updC f i v j=pk (j==i) v (f j) ⟨0⟩:=by rw [updC_eq,pk_eq]; rfl
def rndS0 (env:Nat->V) (ps:List Nat) (vs:List V):Nat->Slot:=fun t=>⟨fillEnv env ps vs t,none,none⟩
noncomputable def rndS:(Nat->V)->List Nat->List V->Nat->Slot:=(Classical.choice (⟨⟨rndS0,rfl⟩⟩:Nonempty {g:(Nat->V)->List Nat->List V->Nat->Slot // g=rndS0})).1
theorem rndS_eq:rndS=rndS0:=(Classical.choice (⟨⟨rndS0,rfl⟩⟩:Nonempty {g:(Nat->V)->List Nat->List V->Nat->Slot // g=rndS0})).2
@[go_sem ↓] theorem rndS_nil (env:Nat->V) (t:Nat):(rndS env [] [] t).v=env t:=by rw [rndS_eq]; rfl
@[go_sem ↓] theorem rndS_cons (env:Nat->V) (p:Nat) (ps:List Nat) (v:V) (vs:List V) (t:Nat):(rndS env (p::ps) (v::vs) t).v=(rndS (updC env p v) ps vs t).v:=by rw [rndS_eq,updC_eq]; rfl
section
variable {Γ:Nat->Option F} {G:Nat->List T}
def rngK (o:Option (V×(Nat->Option O)×Nat)) (k:Nat) (K:Ex->(Nat->Option O)->Nat->Prop) (_:WK K):Prop :=
 ∃ r h' n',o=some (r,h',n') /\ ∃ env ps bd st e,h' k=some (.loop env ps bd st)/\st.ends=some e/\K e (updC h' k (some .dead)) n'
@[go_sem ↓] theorem y_range (x:Opd) (ps:List Nat) (bd:C) (Q:Ex->M->Prop) (sl:Nat->Slot) (u:Nat->Bool) (h:Nat->Option O) (n b:Nat) (w:W3 (.rangeF x ps bd) Q ⟨sl,u,h,n,b⟩) :
 wC Γ G (.rangeF x ps bd) Q ⟨sl,u,h,n,b⟩ w=fnK (evlS G sl x) (fun g a c=>rngK (DenR Γ G g (a++[V.yl n]++c) (updC h n (some (.loop (envC sl) ps bd .ready))) (n+1)) n (fun e h' n' => Q e ⟨sl,u,h',n',b⟩) ⟨0⟩) ⟨0⟩:=by
 unfold wC
 rw [wpCo_eq,updC_eq,envC_eq]
 simp only [wpC,evl_eq]
 cases evlS G sl x with
 | none=>rfl
 | some v =>
  simp only [Option.bind_some,fnK]
  cases fnOf v with
  | none=>rfl
  | some q =>
   obtain ⟨g,a,c⟩:=q
   simp only [rngK,updC_eq]
   apply propext
   constructor
   ·rintro ⟨r,h',n',hc,_,env',ps',bd',st,e,hl,he,hQ⟩
    exact ⟨r,h',n',denR_iff.2 hc,env',ps',bd',st,e,hl,he,hQ⟩
   ·rintro ⟨r,h',n',hc,env',ps',bd',st,e,hl,he,hQ⟩
    exact ⟨r,h',n',denR_iff.1 hc,RC_fn (denR_iff.1 hc),env',ps',bd',st,e,hl,he,hQ⟩
theorem rngK_of {o:Option (V×(Nat->Option O)×Nat)} {k:Nat} {K:Ex->(Nat->Option O)->Nat->Prop} {w:WK K} {P:Ex->(Nat->Option O)->Nat->Prop}
 (h : ∃ r h' n',o=some (r,h',n') /\ ∃ env ps bd st e,h' k=some (.loop env ps bd st)/\st.ends=some e/\P e h' n') (hk : ∀ e h' n',P e h' n' -> K e (updC h' k (some .dead)) n'):rngK o k K w:=by
 obtain ⟨r,h',n',e1,env,ps,bd,st,e,e2,e3,hp⟩:=h
 exact ⟨r,h',n',e1,env,ps,bd,st,e,e2,e3,hk e h' n' hp⟩
def FiY (P:Ex->(Nat->Option O)->Nat->Prop) (e:Ex) (m:M):Prop:=P e m.heap m.nxt
@[go_sem ↓] theorem y_fiY (P:Ex->(Nat->Option O)->Nat->Prop) (e:Ex) (sl:Nat->Slot) (u:Nat->Bool) (h:Nat->Option O) (n b:Nat):FiY P e ⟨sl,u,h,n,b⟩=SpN (P e h n) ⟨0⟩:=rfl
def begK (o:Option O) (K:(Nat->V)->List Nat->C->Prop) (_:WK K):Prop:=match o with
 | some (.loop env ps bd .enter)=>K env ps bd
 | _=>False
@[go_sem] theorem begK_some (env:Nat->V) (ps:List Nat) (bd:C) (K:(Nat->V)->List Nat->C->Prop) (w:WK K):begK (some (.loop env ps bd .enter)) K w=K env ps bd:=rfl
variable (Γ G) in
def FiA (k:Nat) (cb:C) (Q:Ex->M->Prop):Ex->M->Prop
 | .normal,m=>begK (m.heap k) (fun env ps bd=>wC Γ G cb Q ⟨m.sl,m.used,updC m.heap k (some (.loop env ps bd .busy)),m.nxt,m.bas⟩ ⟨0⟩) ⟨0⟩
 | _,_=>False
@[go_sem ↓] theorem y_fiA (k:Nat) (cb:C) (Q:Ex->M->Prop) (sl:Nat->Slot) (u:Nat->Bool) (h:Nat->Option O) (n b:Nat) :
 FiA Γ G k cb Q .normal ⟨sl,u,h,n,b⟩=begK (h k) (fun env ps bd=>wC Γ G cb Q ⟨sl,u,updC h k (some (.loop env ps bd .busy)),n,b⟩ ⟨0⟩) ⟨0⟩:=rfl
theorem denY_of {k:Nat} {vs:List V} {h:Nat->Option O} {n:Nat} {env:Nat->V} {ps:List Nat} {ca cb:C} {P:Ex->(Nat->Option O)->Nat->Prop} (hk:h k=some (.loop env ps (.round ca cb) .ready)) (hl:vs.length=ps.length)
 (hb : ∀ e h' n',P e h' n' -> ∃ env' ps' bd',h' k=some (.loop env' ps' bd' .busy))
 (hw:wC Γ G ca (qOf Γ G [] (FiA Γ G k cb (qOf Γ G [] (FiY P)))) ⟨rndS env ps vs,fun _=>false,updC h k (some (.loop env ps (.round ca cb) .enter)),n,n⟩ ⟨0⟩) :
 ∃ e h' n',P e h' n' /\ ∃ env' ps' bd',h' k=some (.loop env' ps' bd' .busy)/\DenY Γ G k vs h n=some (.t (.bool (decide (e=Ex.normal))),updC h' k (some (.loop env' ps' bd' e.toL)),n'):=by
 unfold wC at hw
 rw [wpCo_eq,qOf_eq,rndS_eq,updC_eq] at hw
 obtain ⟨e0,m1,hA,hF⟩:=W_of hw
 cases e0 with
 | exit id=>exact hF.elim
 | ret=>exact hF.elim
 | normal =>
  have hF' : begK (m1.heap k) (fun env ps bd=>wC Γ G cb (qOf0 Γ G [] (FiY P)) ⟨m1.sl,m1.used,updC m1.heap k (some (.loop env ps bd .busy)),m1.nxt,m1.bas⟩ ⟨0⟩) ⟨0⟩:=by
   exact hF
  unfold begK at hF'
  split at hF'
  ·rename_i env1 ps1 bd1 hk1
   unfold wC at hF'
   rw [wpCo_eq,updC_eq] at hF'
   obtain ⟨e,m',hB,hP⟩:=W_of hF'
   obtain ⟨env',ps',bd',hk'⟩:=hb _ _ _ hP
   refine ⟨e,m'.heap,m'.nxt,hP,env',ps',bd',hk',denY_iff.2 ⟨env,ps,ca,cb,m1.st,env1,ps1,bd1,env',ps',bd',e,m'.st,hk,hl,hA,hk1,hB,hk',rfl,by rw [updC_eq]; rfl,rfl⟩⟩
  ·exact hF'.elim
end
end Rg
end
section
namespace Rg
open Go
def LstV (h:Nat->Option O) (n kL:Nat) (l:List Choice):Prop := ∃ v,h kL=some (.rows 1 [[v]] false)/\OwnB h n v 3 (rowsC l)
theorem roundE {ky kL kT n t i:Nat} {h:Nat->Option O} {env:Nat->V} {l:List Choice} {e:Entry} (hk:h ky=some (.loop env [64,65] b179_0 .ready)) (h9:env 9 = .mp kL 0 0) (h10:env 10 = .mp kT 0 0)
 (hT:h kT=some (.rows 1 [[vi t]] false)) (hL:LstV h n kL l) (hkn:ky<n) (hLn:kL<n) (hTn:kT<n) (hyL:ky≠kL) (hyT:ky≠kT) (hLT:kL≠kT) (hne:e.cells≠[]) (hll:l.length<2^20) :
 ∃ h' n',DenY Γ G ky [vi i, .agg [.t (ints e.cells), .t (ints e.values)]] h n=some (vb true,h',n')/\h' ky=some (.loop env [64,65] b179_0 .ready)/\h' kT=some (.rows 1 [[vi t]] false)/\LstV h' n' kL (l++[⟨t, -1,headC e⟩])/\n<=n' /\
  (∀ j,j<n->j≠ky->j≠kL->(∀ sz rs fz,h j≠some (.rows sz rs fz))->h' j=h j):=by
 have:=denY_of (Γ:=Γ) (G:=G) (vs:=[vi i, .agg [.t (ints e.cells), .t (ints e.values)]]) (n:=n) (P:=fun ex h' n' => ex = .normal/\h' ky=some (.loop env [64,65] b179_0 .busy)/\h' kT=some (.rows 1 [[vi t]] false)/\LstV h' n' kL (l++[⟨t, -1,headC e⟩])/\n<=n' /\
  (∀ j,j<n->j≠ky->j≠kL->(∀ sz rs fz,h j≠some (.rows sz rs fz))->h' j=h j)) hk rfl (fun ex h' n' hP=>⟨_,_,_,hP.2.1⟩) (by
  obtain ⟨v,hv,ho⟩:=hL
  have n1:ky≠n+0:=by omega
  have n2:kL≠n+0:=by omega
  have n3:kT≠n+0:=by omega
  have n4:kL≠ky:=by omega
  have n5:kT≠ky:=by omega
  have hc0:e.cells[0]? = some (headC e):=by
   cases hc:e.cells with
   | nil=>exact absurd hc hne
   | cons a r=>simp [headC,hc]
  have n6:n+0≠ky:=by omega
  have n7:n+0≠kL:=by omega
  have n8:n+0≠kT:=by omega
  have hvv:=ho.valOf
  have hown : ∀ (H:Nat->Option O) q,n<=q->(∀ j,j<n->j≠ky->H j=h j)->OwnB H q v 3 (rowsC l):=fun H q hq hH=>by
   rcases ho with h1 | ⟨kv,h1,h2,h3⟩
   ·exact .inl h1
   ·refine .inr ⟨kv,h1,by omega, ?_⟩
    rw [hH kv h2 (by rintro rfl; rw [hk] at h3; simp at h3)]; exact h3
  simp -dsimp -implicitDefEqProofs only [go_sem,seval,h9,h10,hT,hv,n1,n2,n3,n4,n5,n6,n7,n8,hc0,hvv]
  have hrs : ∀ (o1 o2 o3 o4 o5:Option O) (a b:Nat),rowsS (updC (updC (updC (updC (updC h ky o1) (n+0) o2) (n+0) o3) ky o4) (n+a+b) o5) v=some (rowsC l):=fun o1 o2 o3 o4 o5 a b =>
   (hown _ (n+a+b) (by omega) fun j hj hjy=>by
     have u1:j≠n+0:=by omega
     have u2:j≠n+a+b:=by omega
     rw [updC_at,if_neg u2,updC_at,if_neg hjy,updC_at,if_neg u1,updC_at,if_neg u1,updC_at,if_neg hjy]).rowsS
  simp -dsimp -implicitDefEqProofs only [go_sem,seval,hrs]
  refine putA_app1 (x:=n+2+8) (hown _ _ (by omega) fun j hj hjy=>by
   have u1:j≠n+0:=by omega
   have u2:j≠n+2+7:=by omega
   rw [updC_at,if_neg u2,updC_at,if_neg hjy,updC_at,if_neg u1,updC_at,if_neg u1,updC_at,if_neg hjy]) (Nat.le_refl _) (by rw [rowsC_len]; omega) (by decide) rfl (rowsC_all _) ?_
  intro v2 hp hO hof hkp
  have hoffv : ∀ j,(∀ rs fz,h j≠some (.rows 3 rs fz))->j<n->offK v j:=fun j hj hjn=>by
   rcases ho with ⟨rfl,_⟩ | ⟨kv,rfl,h2,h3⟩
   ·intro i n h0; cases h0
   ·refine offK_ms ?_ _ _
    rintro rfl; exact hj _ _ h3
  have hO' := hO
  rcases hO with ⟨_,he0⟩ | ⟨k2,rfl,hk2a,hk2h⟩
  ·simp at he0
  have hk2q:n+2+8<=k2:=by
   rcases Nat.lt_or_ge k2 (n+2+8) with h1 | h1
   ·exact absurd rfl (hof k2 h1 0 _)
   ·exact h1
  have y0:=hkp ky (by omega) (hoffv ky (by rw [hk]; simp) hkn)
  have y1:=hkp kL (by omega) (hoffv kL (by rw [hv]; simp) hLn)
  have y2:=hkp kT (by omega) (hoffv kT (by rw [hT]; simp) hTn)
  have n9:kL≠n+2+7:=by omega
  have n10:ky≠n+2+7:=by omega
  have n11:kT≠n+2+7:=by omega
  simp only [updC_at,n1,n2,n3,n4,n5,n9,n10,n11,if_false,if_true,hv,hT] at y0 y1 y2
  simp -dsimp -implicitDefEqProofs only [go_sem,seval,h9,y1]
  refine ⟨rfl, ?_, ?_,⟨.ms k2 0 (rowsC l++[[vi t,vi (-1),vi (headC e)]]).length, ?_, .inr ⟨k2, ?_, ?_, ?_⟩⟩, ?_, ?_⟩
  ·simp -dsimp -implicitDefEqProofs only [go_sem,seval,n4.symm,y0]
   rfl
  ·simp -dsimp -implicitDefEqProofs only [go_sem,seval,hLT.symm,y2]
  ·simp -dsimp -implicitDefEqProofs only [go_sem,seval]
  ·rw [rowsC_app]
  ·simp -dsimp -implicitDefEqProofs only [go_sem,seval]; omega
  ·have u1:k2≠kL:=by omega
   simp -dsimp -implicitDefEqProofs only [go_sem,seval,u1]
   rw [hk2h,rowsC_app]
  ·simp -dsimp -implicitDefEqProofs only [go_sem,seval]; omega
  ·intro j j1 j2 j3 j4
   have u1:j≠n+0:=by omega
   have u2:j≠n+2+7:=by omega
   simp -dsimp -implicitDefEqProofs only [go_sem,seval,j3]
   rw [hkp j (by omega) (hoffv j (fun rs fz=>j4 _ _ _) j1),updC_at,if_neg u2,updC_at,if_neg j2,updC_at,if_neg u1,updC_at,if_neg u1,updC_at,if_neg j2])
 obtain ⟨ex,h',n',⟨rfl,q1,q2,q3,q4,q5⟩,env',ps',bd',q6,q7⟩:=this
 rw [q1] at q6
 simp only [Option.some.injEq,O.loop.injEq] at q6
 obtain ⟨rfl,rfl,rfl,_⟩:=q6
 refine ⟨_,n',q7,by rw [updC_at,if_pos rfl]; rfl,by rw [updC_at,if_neg hyT.symm]; exact q2, ?_,q4,fun j j1 j2 j3 j4=>by rw [updC_at,if_neg j2]; exact q5 j j1 j2 j3 j4⟩
 obtain ⟨v,v1,v2⟩:=q3
 refine ⟨v,by rw [updC_at,if_neg hyL.symm]; exact v1, ?_⟩
 rcases v2 with h1 | ⟨k2,h1,h2,h3⟩
 ·exact .inl h1
 ·exact .inr ⟨k2,h1,h2,by rw [updC_at,if_neg (by rintro rfl; rw [q1] at h3; simp at h3)]; exact h3⟩
end Rg
end
