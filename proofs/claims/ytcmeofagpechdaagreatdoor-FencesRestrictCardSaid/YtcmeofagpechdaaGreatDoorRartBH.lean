/- Part of the proof of laws of relyguardlaw31. No condition. -/
import Derived.Test.YtcmeofagpechdaaGreatDoorRartBG
import Derived.Test.YtcmeofagpechdaaGreatDoorRartAT
set_option linter.unusedSimpArgs false
set_option linter.unusedVariables false
section
namespace Rg
open Go
theorem zx3 {h:Nat->Option O} {d:Nat}: ∀(vs:List (List V)) (bs:List (List Entry)),vs.length=bs.length->(∀(j:Nat) (b:List Entry),bs[j]? =some b-> ∃v,vs[j]? =some [v]/\toT h d v=some (.sl (b.map Entry.enc)))->
 vs.mapM (fun row=>row.mapM (toT h d))=some (bs.map fun b=>[.sl (b.map Entry.enc)])
 | [],[],_,_=>rfl
 | [],_::_,hl,_=>by simp at hl
 | _::_,[],hl,_=>by simp at hl
 | r::vs,b::bs,hl,hj=>by
   have ih:=zx3 vs bs (by simpa using hl) fun j e he=>hj (j+1) e he
   obtain⟨v,hr,ht⟩:=hj 0 b rfl;simp only[List.getElem?_cons_zero,zA]at hr;subst hr;rw[List.mapM_cons,List.mapM_cons,ht,List.mapM_nil,ih];rfl
theorem zz6 (p:Prog) (hf:formedM p=true) (k:Int) (c:Config) (hc:IsB p c) (t:Nat) (ht:t<p.threads.length) (i:Nat) (e:Entry) (he:(bufM c t)[i]? =some e):
 Den Γ G 191 [stV p k c,vi t,vi i]=some (.agg [.t (ints (commitB c t i).mem),.t (ints (commitB c t i).at_),.t (.sl ((commitB c t i).buf.map (fun b=>[.sl (b.map Entry.enc)])))]):=by
 obtain⟨⟨m1,m2,m3,m4⟩,_⟩:=limits_points (formed_limits hf).1;have l1:=hc.lm;have l2:=hc.la;have l3:=hc.lb;have hget:=bufM_at (c:=c) (t:=t) (by omega);obtain⟨b1,b2,_⟩:=hc.buf t _ hget;have hil:=(zH.1 he).1;have hpr:=b2 e (List.mem_of_getElem? he);have hpl:=zxy hpr;unfold stV
 (refine den_ofY Γ191 rfl ?_;dsimp only[f191])
 simp -dsimp only[go_sem,seval];refine zav (cloneB_den p hf c hc _) ?_;rintro r h' n' ⟨vM,vA,kB,rfl,x1,x2,bd,vs,hM,hA,hk0,hk1,hk2,hB,hbs,hbn⟩;obtain⟨hva,hca⟩:=hA.val;have hAt:=hA;obtain⟨v,hv,rows,hro,hrl,hr2,hre⟩:=hbs.at_ t _ hget;have h0t:=hbs.le (q:=0) (r:=t) (by omega) (by omega);have h1t:=hbs.le (q:=t+1) (r:=c.buf.length) (by omega) (Nat.le_refl _);obtain⟨r,hr,kc,kv,rfl,a1,a2,a3,a4,a5,a6⟩:=hre i e he;rcases hro with⟨_,h0⟩ | ⟨kb,rfl,b3,b4,b5⟩
 ·exfalso;rw[h0]at hr;simp at hr
 rcases hM with⟨_,h0⟩ | ⟨kM,rfl,m5,m6,m7⟩
 ·exfalso;have h1:=congrArg List.length h0;rw[rowsI_len]at h1;have:=zxM hpr (head_mem hpr);simp at h1;rw[h1]at l1;simp at l1;omega
 unfold V.cells at hca;have i0:(0:Int)<=(i:Int):=by omega
 have i1:(i:Int)<(rows.length:Int):=by omega
 have t0:(0:Int)<=(t:Int):=by omega
 have t1:(t:Int)<(c.buf.length:Int):=by omega
 have hw:=zah i (by omega);simp -dsimp only[go_sem,seval,hva,hca,hB,hv,t0,t1,i0,i1,b5,hr];rw[rowsI_len];refine zav (writeO_den c.mem e hpr.len (by omega) (fun n hn=>by have:=zxM hpr hn;omega) _ _ kM kc kv (by simp -dsimp only[go_sem,seval,m7]) (by simp -dsimp only[go_sem,seval,a5]) (by simp -dsimp only[go_sem,seval,a6]) (by omega) (by omega)) ?_;rintro r2 h2 n2 ⟨rfl,g1,g2,g3⟩;have hB2:=g2 kB (by omega);rw[hB]at hB2;have b52:=g2 kb (by omega);rw[b5]at b52;simp -dsimp only[go_sem,seval,hva,hca,hB2,hv,t0,t1,i0,i1,b52,hw];refine zav (delete_den rows hr2 (by omega) i (by omega) h2 _ kb b52 (by omega)) ?_;rintro r3 h3 n3 ⟨kd,rfl,d1,d2,d3⟩;have hB3:=d2 kB (by omega) (by omega);rw[hB2]at hB3;have hkd:kd≠kB:=by omega
 have hvt:vs[t]? =some [.ms kb 0 rows.length]:=hv;simp -dsimp only[go_sem,seval,hva,hca,hB3,hv,t0,t1];have hC:commitB c t i=⟨putE c.mem e,c.at_,c.buf.set t ((bufM c t).eraseIdx i)⟩:=by simp only[commitB,he]
 have hsame: ∀(o:Option O) q,q<n'->q≠kB->q≠kM->q≠kb->updC h3 kB o q=h' q:=fun o q q1 q2 q3 q4=>by
  rw[zac,if_neg q2,d2 q (by omega) q4,g2 q q3]
 have f0: ¬kM=kB:=by omega
 have f1:h3 kM=some (.rows 1 (rowsI (putE c.mem e)) false):=by rw[d2 kM (by omega) (by omega)];exact g1
 have f2:(rowsI (putE c.mem e)).length=c.mem.length:=by rw[rowsI_len,zx1]
 have f3:List.take c.mem.length (rowsI (putE c.mem e))=rowsI (putE c.mem e):=zxm f2.symm
 have f4: ∀o:Option O,toT (updC h3 kB o) 1000 vA=some (ints c.at_):=fun o=>
  (hA.keep fun q q1 q2=>hsame o q (by omega) (by omega) (by omega) (by omega)).tree 999
 have f5: ∀v,(vs.set t [v]).length=c.buf.length:=fun v=>by rw[List.length_set];exact hbs.len
 have f6: ∀v,List.take c.buf.length (vs.set t [v])=vs.set t [v]:=fun v=>zxm (f5 v).symm
 have f7: ∀o:Option O,(vs.set t [V.ms kd 0 (rows.length-1)]).mapM (fun row=>row.mapM (toT (updC h3 kB o) 999))=some ((c.buf.set t ((bufM c t).eraseIdx i)).map fun b=>[.sl (b.map Entry.enc)]):=by
  intro o;refine zx3 _ _ (by rw[f5,List.length_set]) fun j b hb=> ?_
  rw[List.getElem?_set]at hb
  by_cases hj:t=j
  ·subst hj;rw[if_pos rfl,if_pos (by omega)]at hb;simp only[zA]at hb;subst hb;refine⟨_,by rw[List.getElem?_set,if_pos rfl,if_pos (by have:=hbs.len;omega)],?_⟩;have hd:updC h3 kB o kd=some (.rows 2 (rows.eraseIdx i++[[.t .nils,.t .nils]]) false):=by rw[zac,if_neg hkd];exact d1
   have e1:(rows.eraseIdx i).length=rows.length-1:=List.length_eraseIdx_of_lt (by omega);have e2:rows.length-1<=(rows.eraseIdx i++[[V.t T.nils,V.t T.nils]]).length:=by rw[List.length_append,e1];omega
   have e3:List.take (rows.length-1) (rows.eraseIdx i++[[V.t T.nils,V.t T.nils]])=rows.eraseIdx i:=by
    rw[List.take_append_of_le_length (by omega),List.take_of_length_le (by omega)]
   have e4:=zyl (h:=updC h3 kB o) (d:=998) (rows.eraseIdx i) ((bufM c t).eraseIdx i) (by rw[e1,List.length_eraseIdx_of_lt hil,hrl]) fun q e0 hq=>by
    rw[List.getElem?_eraseIdx]at hq⊢
    have key: ∀q',(bufM c t)[q']? =some e0-> ∃r:List V,rows[q']? =some r/\r.mapM (toT (updC h3 kB o) 998)=some (Entry.enc e0):=fun q' hq'=>by
     obtain⟨r,hr,hE⟩:=hre q' e0 hq';exact⟨r,hr,(hE.keep (Nat.le_refl _) (Nat.le_refl _) fun z z1 z2 z3=>hsame o z (by omega) (by omega) (by omega) (by rintro rfl;exact z3 _ _ b5)).tree 997⟩
    split at hq
    ·rename_i h1;rw[if_pos h1];exact key _ hq
    ·rename_i h1;rw[if_neg h1];exact key _ hq
   simp only[toT,hd,rd,Nat.zero_add,e2,if_true,List.drop_zero,e3,zC,zD,e4]
  ·rw[if_neg hj]at hb;obtain⟨u,hu,hB4⟩:=hbs.at_ j b hb;have hjl:=(zH.1 hb).1;refine⟨u,by rw[List.getElem?_set,if_neg hj];exact hu,?_⟩;refine(hB4.keep (Nat.le_refl _) fun q q1 q2=> ?_).tree 997;have u1:=hbs.le (q:=0) (r:=j) (by omega) (by omega);have u2:=hbs.le (q:=j+1) (r:=c.buf.length) (by omega) (Nat.le_refl _);refine hsame o q (by omega) (by omega) (by omega) ?_;rintro rfl;rcases Nat.lt_or_ge j t with h1 | h1
   ·have:=hbs.le (q:=j+1) (r:=t) (by omega) (by omega);omega
   ·have:=hbs.le (q:=t+1) (r:=j) (by omega) (by omega);omega
 rw[hC];simp -dsimp only[go_sem,seval,f0,f1,f2,f3,f4,f5,f6,f7,zxr,Nat.le_refl]
end Rg
end
section
namespace Rg
open Go
theorem zy9 {p:Prog} {set:List Assign} (h:SetOk p set):set.length<=p.cells.length:=by
 have h1:=zyF p.cells.length (set.map Assign.cell) (by
  rw[List.nodup_iff_pairwise_ne,List.pairwise_iff_getElem];intro i j hi hj hij he;simp only[List.length_map]at hi hj;simp only[List.getElem_map]at he;have:=h.dif i j _ _ (zI hi) (zI hj) he
  omega) (fun x hx=>by
  obtain⟨a,ha,rfl⟩:=List.mem_map.1 hx;have:=(h.rng a ha).1;simp only[inR,decide_eq_true_eq]at this
  exact this)
 simpa using h1
theorem zAw (p:Prog) (hf:formedM p=true) (k:Int) (c:Config) (hc:IsB p c) (t:Nat) (x:Thread) (hx:p.threads[t]? =some x) (i:Nat) (s:Step) (hs:x.steps[i]? =some s) (y:Choice) (hy:y=⟨t,i,0⟩) (hk3:s.kind≠3):
 Den Γ G 192 [stV p k c,(.agg [.t (ti (y).thread),.t (ti (y).step),.t (ti (y).cell)]),.t (ints (viewM c t))]=some (.agg [.t (ints (execB p c t s).mem),.t (ints (execB p c t s).at_),.t (.sl ((execB p c t s).buf.map (fun b=>[.sl (b.map Entry.enc)])))]):=by
 subst hy;obtain⟨⟨m1,m2,m3,m4⟩,_⟩:=limits_points (formed_limits hf).1;have l1:=hc.lm;have l2:=hc.la;have l3:=hc.lb;have hok:=formed_step hf hx hs;have ht:t<p.threads.length:=(zH.1 hx).1;have hset:=zy9 hok.set
 have hcm: ∀a∈s.set,0<=a.cell/\a.cell<c.mem.length:=fun a ha=>by
  have:=(hok.rng.2 a ha).1;simp only[inR,decide_eq_true_eq]at this;omega
 unfold stV
 (refine den_ofY Γ192 rfl ?_;dsimp only[f192])
 simp -dsimp only[go_sem,seval];refine zav (cloneB_den p hf c hc _) ?_;rintro r h' n' ⟨vM,vA,kB,rfl,x1,x2,bd,vs,hM,hA,hk0,hk1,hk2,hB,hbs,hbn⟩;obtain⟨hva,hca⟩:=hM.val;rcases hA with⟨_,h0⟩ | ⟨kA,rfl,a1,a2,a3⟩
 ·exfalso;have h1:=congrArg List.length h0;rw[rowsI_len]at h1;simp at h1;rw[h1]at l2;simp at l2;omega
 unfold V.cells at hca;simp -dsimp only[go_sem,seval,hva,hca,hx,hs]
 refine zaj 18889465931476433377792 s.set.length (fun j f h z=>(f 31).v=vi j/\zzB h 0 x1 vM (rowsI (writeM c.mem (viewM c t) (s.set.take j)))/\(∀q,x1<=q->h q=h' q)/\n'<=z) rfl
  ⟨by simp -dsimp only[go_sem,seval],hM,fun _ _=>rfl,by simp -dsimp only[go_sem,seval];omega⟩ ?_
 rintro j f u H z bs hj ⟨h31,hmj,hfr,hz⟩;have hw:=zah j (by omega);simp -dsimp only[go_sem,seval,h31];refine csplit (fun h=> ?_) (fun h=> ?_)<;>(try rw[h])<;>(try simp only[zab]at h)<;>(try simp -dsimp only[go_sem,seval,h31])
 ·obtain⟨a,ha,ham⟩:=zaf ‹j<s.set.length›;obtain⟨c0,c1⟩:=hcm a ham;have hev:=zxX a.to (viewM c t) (viewM c t);have hlen:(writeM c.mem (viewM c t) (s.set.take j)).length=c.mem.length:=zxq (viewM c t) _ c.mem;rcases hmj with⟨_,h0⟩ | ⟨kM,rfl,m5,m6,m7⟩
  ·exfalso;have h1:=congrArg List.length h0;rw[rowsI_len,hlen]at h1;simp at h1;rw[h1]at c1;simp at c1;omega
  have hgt:=zxo (l:=writeM c.mem (viewM c t) (s.set.take j)) (i:=a.cell.toNat) (by omega);have hst:=zxn (writeM c.mem (viewM c t) (s.set.take j)) a.cell.toNat (a.to.eval (viewM c t) (viewM c t));rw[<- zyi ha]at hst;have hl2:(rowsI (writeM c.mem (viewM c t) (s.set.take j))).length=c.mem.length:=by rw[rowsI_len,hlen]
  have hl3:(rowsI (writeM c.mem (viewM c t) (s.set.take (j+1)))).length=c.mem.length:=by rw[rowsI_len,zxq]
  simp -dsimp only[go_sem,seval,h31,ha,hev,hk3,hl2,c0,c1,m7,hgt,hst];refine⟨by omega,by simp -dsimp only[go_sem,seval,hw],.inr ⟨kM,by rw[hl3,hl2],m5,m6,by simp -dsimp only[go_sem,seval]⟩,?_,by simp -dsimp only[go_sem,seval];omega⟩;intro q hq;have hqm:q≠kM:=by omega
  simp -dsimp only[go_sem,seval,hqm];exact hfr q hq
 ·have:j=s.set.length:=by omega
  subst this;rw[List.take_length]at hmj;have g1:H kA=some (.rows 1 (rowsI c.at_) false):=by rw[hfr kA a1];exact a3
  have g2:H kB=some (.rows 1 vs false):=by rw[hfr kB (by omega)];exact hB
  have hgt:=zxo (l:=c.at_) (i:=t) (by omega);have hst:=zxn c.at_ t s.to;have hlt:(t:Int)<(c.at_.length:Int):=by omega
  have t0:(0:Int)<=(t:Int):=by omega
  have hAB:kA≠kB:=by omega
  have hBA:kB≠kA:=by omega
  have fM: ∀o,toT (updC H kA o) 1000 vM=some (ints (writeM c.mem (viewM c t) s.set)):=fun o=>
   (hmj.keep fun q q1 q2=>by rw[zac,if_neg (by omega)]).tree 999
  have f5:vs.length=c.buf.length:=hbs.len;have f6:List.take c.buf.length vs=vs:=zxm f5.symm
  have f7: ∀o:Option O,vs.mapM (fun row=>row.mapM (toT (updC H kA o) 999))=some (c.buf.map fun b=>[.sl (b.map Entry.enc)]):=fun o=>
   zx3 _ _ f5 fun q b hq=>by
    obtain⟨u,hu,hBq⟩:=hbs.at_ q b hq;have hql:=(zH.1 hq).1;have u1:=hbs.le (q:=0) (r:=q) (by omega) (by omega);exact⟨u,hu,(hBq.keep (Nat.le_refl _) fun z z1 z2=>by rw[zac,if_neg (by omega),hfr z (by omega)]).tree 997⟩
  simp -dsimp only[go_sem,seval,hk3,hva,hca,g1,hgt,hlt,t0,hst,rowsI_len]
  by_cases hk:s.kind=6
  ·obtain⟨hr,_⟩:=hok.tgt (.inl hk);simp only[inR,decide_eq_true_eq]at hr;have q1:s.target<(c.at_.length:Int):=by omega
   have q2:=hr.1;have hgt2:=zxo (l:=c.at_.set t s.to) (i:=s.target.toNat) (by simp;omega);have hst2:=zxn (c.at_.set t s.to) s.target.toNat 0;have f2:(rowsI ((c.at_.set t s.to).set s.target.toNat 0)).length=c.at_.length:=by rw[rowsI_len];simp
   have f3:List.take c.at_.length (rowsI ((c.at_.set t s.to).set s.target.toNat 0))=rowsI ((c.at_.set t s.to).set s.target.toNat 0):=zxm f2.symm;have hE:execB p c t s=⟨writeM c.mem (viewM c t) s.set,(c.at_.set t s.to).set s.target.toNat 0,c.buf⟩:=by simp only[execB,if_neg hk3,if_pos hk]
   rw[hE];simp -dsimp only[go_sem,seval,hk,hva,hca,q1,q2,hgt2,hst2,rowsI_len,List.length_set,hBA,g2,zgy,fM,f3,f5,f6,f7,zxr,Nat.le_refl]
  ·have f2:(rowsI (c.at_.set t s.to)).length=c.at_.length:=by rw[rowsI_len];simp
   have f3:List.take c.at_.length (rowsI (c.at_.set t s.to))=rowsI (c.at_.set t s.to):=zxm f2.symm;have hE:execB p c t s=⟨writeM c.mem (viewM c t) s.set,c.at_.set t s.to,c.buf⟩:=by simp only[execB,if_neg hk3,if_neg hk]
   rw[hE];simp -dsimp only[go_sem,seval,hk,hva,hca,rowsI_len,List.length_set,hBA,g2,fM,f3,f5,f6,f7,zxr,Nat.le_refl]
def zCl (h:Nat->Option O) (lo z:Nat) (vc vv:V) (cs ws:List Int):Prop:=
 (vc= .t .nils/\vv= .t .nils/\cs=[]/\ws=[])\/ ∃kc kv,vc= .ms kc 0 (rowsI cs).length/\vv= .ms kv 0 (rowsI ws).length/\lo<=kc/\kc<z/\lo<=kv/\kv<z/\kc≠kv/\h kc=some (.rows 1 (rowsI cs) false)/\h kv=some (.rows 1 (rowsI ws) false)
theorem zAv (p:Prog) (hf:formedM p=true) (k:Int) (c:Config) (hc:IsB p c) (t:Nat) (x:Thread) (hx:p.threads[t]? =some x) (i:Nat) (s:Step) (hs:x.steps[i]? =some s) (y:Choice) (hy:y=⟨t,i,0⟩) (hk3:s.kind=3):
 Den Γ G 192 [stV p k c,(.agg [.t (ti (y).thread),.t (ti (y).step),.t (ti (y).cell)]),.t (ints (viewM c t))]=some (.agg [.t (ints (execB p c t s).mem),.t (ints (execB p c t s).at_),.t (.sl ((execB p c t s).buf.map (fun b=>[.sl (b.map Entry.enc)])))]):=by
 subst hy;obtain⟨⟨m1,m2,m3,m4⟩,_⟩:=limits_points (formed_limits hf).1;have l1:=hc.lm;have l2:=hc.la;have l3:=hc.lb;have hok:=formed_step hf hx hs;have ht:t<p.threads.length:=(zH.1 hx).1;have hset:=zy9 hok.set
 have hcm: ∀a∈s.set,0<=a.cell/\a.cell<c.mem.length:=fun a ha=>by
  have:=(hok.rng.2 a ha).1;simp only[inR,decide_eq_true_eq]at this;omega
 unfold stV
 (refine den_ofY Γ192 rfl ?_;dsimp only[f192])
 simp -dsimp only[go_sem,seval];refine zav (cloneB_den p hf c hc _) ?_;rintro r h' n' ⟨vM,vA,kB,rfl,x1,x2,bd,vs,hM,hA,hk0,hk1,hk2,hB,hbs,hbn⟩;obtain⟨hva,hca⟩:=hM.val;rcases hA with⟨_,h0⟩ | ⟨kA,rfl,a1,a2,a3⟩
 ·exfalso;have h1:=congrArg List.length h0;rw[rowsI_len]at h1;simp at h1;rw[h1]at l2;simp at l2;omega
 unfold V.cells at hca;have hbb:=hbs.le (q:=0) (r:=c.buf.length) (by omega) (Nat.le_refl _);simp -dsimp only[go_sem,seval,hva,hca,hx,hs]
 refine zaj 18889465931476433377792 s.set.length (fun j f h z=>(f 31).v=vi j/\(f 9).v= .lb/\ ∃vc vv,(f 9).box=some [vc,vv]/\zCl h n' z vc vv (((s.set.take j).filter (sharedA p)).map Assign.cell) (((s.set.take j).filter (sharedA p)).map fun a=>a.to.eval (viewM c t) (viewM c t))/\
  zzB h 0 x1 vM (rowsI (writeM c.mem (viewM c t) ((s.set.take j).filter fun a=> !sharedA p a)))/\(∀q,x1<=q->q<n'->h q=h' q)/\n'<=z) rfl
  ⟨by simp -dsimp only[go_sem,seval],by simp -dsimp only[go_sem,seval],.t .nils,.t .nils,by simp -dsimp only[go_sem,seval],.inl ⟨rfl,rfl,rfl,rfl⟩,hM,fun _ _ _=>rfl,by simp -dsimp only[go_sem,seval];omega⟩ ?_
 rintro j f u H z bs hj ⟨h31,h9,vc,vv,h9b,hEO,hmj,hfr,hz⟩;have hw:=zah j (by omega);simp -dsimp only[go_sem,seval,h31];refine csplit (fun h=> ?_) (fun h=> ?_)<;>(try rw[h])<;>(try simp only[zab]at h)<;>(try simp -dsimp only[go_sem,seval,h31])
 ·obtain⟨a,ha,ham⟩:=zaf ‹j<s.set.length›;obtain⟨c0,c1⟩:=hcm a ham;obtain⟨y,hy,_⟩:=hok.wid a ham;have hev:=zxX a.to (viewM c t) (viewM c t);have hsh:sharedA p a=decide (y.thread= -1):=by rw[sharedA,zaH hy]
  by_cases hyt:y.thread= -1
  ·have hsa:sharedA p a=true:=by rw[hsh];simpa using hyt
   have hvc:Rg.valOf vc=some vc:=by rcases hEO with⟨rfl,_⟩ | ⟨_,_,rfl,_⟩<;>rfl
   have hvv:Rg.valOf vv=some vv:=by rcases hEO with⟨_,rfl,_⟩ | ⟨_,_,_,rfl,_⟩<;>rfl
   generalize hcs:((s.set.take j).filter (sharedA p)).map Assign.cell=cs at *
   generalize hws:(((s.set.take j).filter (sharedA p)).map fun a=>a.to.eval (viewM c t) (viewM c t))=ws at *
   have hcl:cs.length<=32:=by
    rw[<- hcs,List.length_map];have:=List.length_filter_le (sharedA p) (s.set.take j);rw[List.length_take]at this;omega
   have hwl:ws.length<=32:=by
    rw[<- hws,List.length_map];have:=List.length_filter_le (sharedA p) (s.set.take j);rw[List.length_take]at this;omega
   have hoffc: ∀q,(q<n'\/z<=q)->zc1 vc q:=fun q hq=>by
    rcases hEO with⟨rfl,_⟩ | ⟨kc,kv,rfl,_,e1,e2,_⟩
    ·intro i n h0;cases h0
    ·exact offK_ms (by omega) _ _
   have hoffv: ∀q,(q<n'\/z<=q)->zc1 vv q:=fun q hq=>by
    rcases hEO with⟨_,rfl,_⟩ | ⟨kc,kv,_,rfl,_,_,e1,e2,_⟩
    ·intro i n h0;cases h0
    ·exact offK_ms (by omega) _ _
   have hoC:zxp (updC H (z+1+4+6+14+4) (some (O.rows 1 [[V.t (ti a.cell)]] false))) (z+1+4+6+14+5) vc 1 (rowsI cs):=by
    rcases hEO with⟨rfl,_,rfl,_⟩ | ⟨kc,kv,rfl,_,e1,e2,e3,e4,e5,e6,e7⟩
    ·exact .inl ⟨rfl,rfl⟩
    ·exact .inr ⟨kc,rfl,by omega,by rw[zac,if_neg (by omega)];exact e6⟩
   have hrc:=hoC.rowsS;simp -dsimp only[go_sem,seval,h31,h9,h9b,ha,hev,hk3,c0,hy,hyt,hvc,hrc];refine zas hoC (Nat.le_refl _) (by rw[rowsI_len];omega) (by decide) rfl (rowsI_all _) ?_;intro v1 hp1 hO1 hof1 hkp1;rcases hO1 with⟨_,he0⟩ | ⟨k1,rfl,hk1a,hk1h⟩
   ·simp at he0
   have hk1q:z+1+4+6+14+5<=k1:=by
    rcases Nat.lt_or_ge k1 (z+1+4+6+14+5)with h1 | h1
    ·exact absurd rfl (hof1 k1 h1 0 _)
    ·exact h1
   have hp1k: ∀q,q<z->zc1 vc q->hpC (updC H (z+1+4+6+14+4) (some (O.rows 1 [[V.t (ti a.cell)]] false))) hp1 q=H q:=fun q q1 q2=>by
    rw[hkp1 q (by omega) q2,zac,if_neg (by omega)]
   have hoV:zxp (updC (hpC (updC H (z+1+4+6+14+4) (some (O.rows 1 [[V.t (ti a.cell)]] false))) hp1) (z+1+4+6+14+8+3) (some (O.rows 1 [[V.t (T.int IntKind.i64 (a.to.eval (viewM c t) (viewM c t)))]] false))) (z+1+4+6+14+8+4) vv 1 (rowsI ws):=by
    rcases hEO with⟨_,rfl,_,rfl⟩ | ⟨kc,kv,rfl,rfl,e1,e2,e3,e4,e5,e6,e7⟩
    ·exact .inl ⟨rfl,rfl⟩
    ·exact .inr ⟨kv,rfl,by omega,by rw[zac,if_neg (by omega),hp1k kv e4 (offK_ms (by omega) _ _)];exact e7⟩
   have hrv:=hoV.rowsS;simp -dsimp only[go_sem,seval,h31,h9,h9b,hvv,hrv];refine zas hoV (Nat.le_refl _) (by rw[rowsI_len];omega) (by decide) rfl (rowsI_all _) ?_;intro v2 hp2 hO2 hof2 hkp2;rcases hO2 with⟨_,he0⟩ | ⟨k2,rfl,hk2a,hk2h⟩
   ·simp at he0
   have hk2q:z+1+4+6+14+8+4<=k2:=by
    rcases Nat.lt_or_ge k2 (z+1+4+6+14+8+4)with h1 | h1
    ·exact absurd rfl (hof2 k2 h1 0 _)
    ·exact h1
   have hp2k: ∀q,q<n'->hpC (updC (hpC (updC H (z+1+4+6+14+4) (some (O.rows 1 [[V.t (ti a.cell)]] false))) hp1) (z+1+4+6+14+8+3) (some (O.rows 1 [[V.t (T.int IntKind.i64 (a.to.eval (viewM c t) (viewM c t)))]] false))) hp2 q=H q:=fun q hq=>by
    rw[hkp2 q (by omega) (hoffv q (.inl hq)),zac,if_neg (by omega),hp1k q (by omega) (hoffc q (.inl hq))]
   have hk1f:hpC (updC (hpC (updC H (z+1+4+6+14+4) (some (O.rows 1 [[V.t (ti a.cell)]] false))) hp1) (z+1+4+6+14+8+3) (some (O.rows 1 [[V.t (T.int IntKind.i64 (a.to.eval (viewM c t) (viewM c t)))]] false))) hp2 k1=some (.rows 1 (rowsI cs++[[V.t (ti a.cell)]]) false):=by
    rw[hkp2 k1 (by omega) (hoffv k1 (.inr (by omega))),zac,if_neg (by omega)];exact hk1h
   have hfs:(s.set.take (j+1)).filter (sharedA p)=(s.set.take j).filter (sharedA p)++[a]:=by
    rw[zae ha,List.filter_append];simp[hsa]
   have hfn:((s.set.take (j+1)).filter fun a=> !sharedA p a)=(s.set.take j).filter fun a=> !sharedA p a:=by
    rw[zae ha,List.filter_append];simp[hsa]
   simp -dsimp only[go_sem,seval,h31,h9];refine⟨by omega,by simp -dsimp only[go_sem,seval,hw],by simp -dsimp only[go_sem,seval,h9],.ms k1 0 (rowsI cs++[[V.t (ti a.cell)]]).length,.ms k2 0 (rowsI ws++[[V.t (T.int IntKind.i64 (a.to.eval (viewM c t) (viewM c t)))]]).length,by simp -dsimp only[go_sem,seval,h9b],?_,?_,?_,by simp -dsimp only[go_sem,seval];omega⟩
   ·rw[hfs,List.map_append,List.map_append,hcs,hws];refine .inr ⟨k1,k2,by rw[<- za6];rfl,by rw[<- za6];rfl,by omega,by simp -dsimp only[go_sem,seval];omega,by omega,by simp -dsimp only[go_sem,seval];omega,by omega,?_,?_⟩
    ·simp -dsimp only[go_sem,seval];rw[hk1f,<- za6]
    ·simp -dsimp only[go_sem,seval];rw[hk2h,<- za6]
   ·rw[hfn];exact hmj.keep fun q q1 q2=>by simp -dsimp only[go_sem,seval];exact hp2k q (by omega)
   ·intro q q1 q2;simp -dsimp only[go_sem,seval];rw[hp2k q q2];exact hfr q q1 q2
  ·have hsa:sharedA p a=false:=by rw[hsh];simpa using hyt
   have hlen:(writeM c.mem (viewM c t) ((s.set.take j).filter fun a=> !sharedA p a)).length=c.mem.length:=zxq (viewM c t) _ c.mem
   have hfs:(s.set.take (j+1)).filter (sharedA p)=(s.set.take j).filter (sharedA p):=by
    rw[zae ha,List.filter_append];simp[hsa]
   have hfn:((s.set.take (j+1)).filter fun a=> !sharedA p a)=((s.set.take j).filter fun a=> !sharedA p a)++[a]:=by
    rw[zae ha,List.filter_append];simp[hsa]
   rcases hmj with⟨_,h0⟩ | ⟨kM,rfl,m5,m6,m7⟩
   ·exfalso;have h1:=congrArg List.length h0;rw[rowsI_len,hlen]at h1;simp at h1;rw[h1]at c1;simp at c1;omega
   have hgt:=zxo (l:=writeM c.mem (viewM c t) ((s.set.take j).filter fun a=> !sharedA p a)) (i:=a.cell.toNat) (by omega);have hst:=zxn (writeM c.mem (viewM c t) ((s.set.take j).filter fun a=> !sharedA p a)) a.cell.toNat (a.to.eval (viewM c t) (viewM c t))
   have hws:writeM c.mem (viewM c t) (((s.set.take j).filter fun a=> !sharedA p a)++[a])=(writeM c.mem (viewM c t) ((s.set.take j).filter fun a=> !sharedA p a)).set a.cell.toNat (a.to.eval (viewM c t) (viewM c t)):=by
    unfold writeM;rw[List.foldl_append];rfl
   rw[<- hws]at hst;have hl2:(rowsI (writeM c.mem (viewM c t) ((s.set.take j).filter fun a=> !sharedA p a))).length=c.mem.length:=by rw[rowsI_len,hlen]
   have hl3:(rowsI (writeM c.mem (viewM c t) (((s.set.take j).filter fun a=> !sharedA p a)++[a]))).length=c.mem.length:=by rw[rowsI_len,zxq]
   simp -dsimp only[go_sem,seval,h31,h9,ha,hev,hk3,hy,hyt,hl2,c0,c1,m7,hgt,hst];refine⟨by omega,by simp -dsimp only[go_sem,seval,hw],by simp -dsimp only[go_sem,seval,h9],vc,vv,by simp -dsimp only[go_sem,seval,h9b],?_,?_,?_,by simp -dsimp only[go_sem,seval];omega⟩
   ·rw[hfs];rcases hEO with h1 | ⟨kc,kv,e0,e0',e1,e2,e3,e4,e5,e6,e7⟩
    ·exact .inl h1
    ·have u1:kc≠kM:=by omega
     have u2:kv≠kM:=by omega
     exact .inr ⟨kc,kv,e0,e0',e1,by simp -dsimp only[go_sem,seval];omega,e3,by simp -dsimp only[go_sem,seval];omega,e5,by simp -dsimp only[go_sem,seval,u1,e6],by simp -dsimp only[go_sem,seval,u2,e7]⟩
   ·rw[hfn];exact .inr ⟨kM,by rw[hl3,hl2],m5,m6,by simp -dsimp only[go_sem,seval]⟩
   ·intro q q1 q2;have u1:q≠kM:=by omega
    simp -dsimp only[go_sem,seval,u1];exact hfr q q1 q2
 ·have hjs:j=s.set.length:=by omega
  subst hjs;rw[List.take_length]at hmj hEO;have hprop:=zys hok hk3 (viewM c t);rcases hEO with⟨_,_,h1,_⟩ | ⟨kc,kv,rfl,rfl,e1,e2,e3,e4,e5,e6,e7⟩
  ·exact absurd h1 hprop.ne
  have g1:H kA=some (.rows 1 (rowsI c.at_) false):=by rw[hfr kA a1 (by omega)];exact a3
  have g2:H kB=some (.rows 1 vs false):=by rw[hfr kB (by omega) (by omega)];exact hB
  have hget:=bufM_at (c:=c) (t:=t) (by omega);obtain⟨v,hv,hbv⟩:=hbs.at_ t _ hget;have h0t:=hbs.le (q:=0) (r:=t) (by omega) (by omega);have h1t:=hbs.le (q:=t+1) (r:=c.buf.length) (by omega) (Nat.le_refl _);have h2t:=hbs.mono t (by omega);obtain⟨hvv,_⟩:=hbv.val;obtain⟨rows,hro,hrl,hr2,hre⟩:=hbv;have t0:(0:Int)<=(t:Int):=by omega
  have t1:(t:Int)<(c.buf.length:Int):=by omega
  generalize hnc:(rowsI (List.map Assign.cell (List.filter (sharedA p) s.set))).length=nc at *
  generalize hnv:(rowsI (List.map (fun a=>a.to.eval (viewM c t) (viewM c t)) (List.filter (sharedA p) s.set))).length=nv at *
  have hoffq: ∀q,(q<bd t\/bd (t+1)<=q\/ ∀rs fz,h' q≠some (O.rows 2 rs fz))->zc1 v q:=fun q hq=>by
   rcases hro with⟨rfl,_⟩ | ⟨kb,rfl,d1,d2,d3⟩
   ·intro i n h0;cases h0
   ·refine offK_ms ?_ _ _;rintro rfl;rcases hq with h | h | h
    ·omega
    ·omega
    ·exact h _ _ d3
  have hoV:zxp (updC H (z+1+3+11) (some (O.rows 2 [[V.ms kc 0 nc,V.ms kv 0 nv]] false))) (z+1+3+12) v 2 rows:=by
   rcases hro with⟨rfl,h1⟩ | ⟨kb,rfl,d1,d2,d3⟩
   ·exact .inl ⟨rfl,h1⟩
   ·exact .inr ⟨kb,rfl,by omega,by rw[zac,if_neg (by omega),hfr kb (by omega) (by omega)];exact d3⟩
  have hrv:=hoV.rowsS;simp -dsimp only[go_sem,seval,hk3,h9,h9b,g2,hv,hvv,t0,t1,hrv];have hall:(rows.all fun r=>decide (r.length=2))=true:=by simpa using hr2
  obtain⟨b1,b2,_⟩:=hc.buf t _ hget;refine zas hoV (Nat.le_refl _) (by rw[hrl];omega) (by decide) rfl hall ?_;intro v2 hp hO hof hkp;rcases hO with⟨_,he0⟩ | ⟨k2,rfl,hk2a,hk2h⟩
  ·simp at he0
  have hk2q:z+1+3+12<=k2:=by
   rcases Nat.lt_or_ge k2 (z+1+3+12)with h1 | h1
   ·exact absurd rfl (hof k2 h1 0 _)
   ·exact h1
  have hpk: ∀q,q<z->zc1 v q->hpC (updC H (z+1+3+11) (some (O.rows 2 [[V.ms kc 0 nc,V.ms kv 0 nv]] false))) hp q=H q:=fun q q1 q2=>by
   rw[hkp q (by omega) q2,zac,if_neg (by omega)]
  have gB:=hpk kB (by omega) (hoffq kB (.inl (by omega)));rw[g2]at gB;have gA:=hpk kA (by omega) (hoffq kA (.inl (by omega)));rw[g1]at gA;have hAB:kA≠kB:=by omega
  have hBA:kB≠kA:=by omega
  have hgt:=zxo (l:=c.at_) (i:=t) (by omega);have hst:=zxn c.at_ t s.to;have hlt:(t:Int)<(c.at_.length:Int):=by omega
  have k6: ¬s.kind=6:=by omega
  simp -dsimp only[go_sem,seval,hk3,h9,h9b,gB,hv,t0,t1,hAB,gA,hgt,hlt,hst,rowsI_len];have hC:execB p c t s=⟨writeM c.mem (viewM c t) (s.set.filter fun a=> !sharedA p a),c.at_.set t s.to,c.buf.set t (bufM c t++[entryOf p (viewM c t) s.set])⟩:=by simp only[execB,if_pos hk3,if_neg k6]
  have hkF: ∀(o o':Option O) q,q≠kA->q≠kB->updC (updC (hpC (updC H (z+1+3+11) (some (O.rows 2 [[V.ms kc 0 nc,V.ms kv 0 nv]] false))) hp) kB o) kA o' q=hpC (updC H (z+1+3+11) (some (O.rows 2 [[V.ms kc 0 nc,V.ms kv 0 nv]] false))) hp q:=fun o o' q q1 q2=>by
   rw[zac,if_neg q1,zac,if_neg q2]
  have hsame: ∀(o o':Option O) q,x1<=q->q<n'->q≠kA->q≠kB->zc1 v q->updC (updC (hpC (updC H (z+1+3+11) (some (O.rows 2 [[V.ms kc 0 nc,V.ms kv 0 nv]] false))) hp) kB o) kA o' q=h' q:=fun o o' q q0 q1 q2 q3 q4=>by
   rw[hkF o o' q q2 q3,hpk q (by omega) q4,hfr q q0 q1]
  have fM: ∀o o',toT (updC (updC (hpC (updC H (z+1+3+11) (some (O.rows 2 [[V.ms kc 0 nc,V.ms kv 0 nv]] false))) hp) kB o) kA o') 1000 vM=some (ints (writeM c.mem (viewM c t) (s.set.filter fun a=> !sharedA p a))):=fun o o'=>
   (hmj.keep fun q q1 q2=>by rw[hkF o o' q (by omega) (by omega),hpk q (by omega) (hoffq q (.inl (by omega)))]).tree 999
  have f3:List.take c.at_.length (rowsI (c.at_.set t s.to))=rowsI (c.at_.set t s.to):=zxm (by rw[rowsI_len,List.length_set]);have f5: ∀v,(vs.set t [v]).length=c.buf.length:=fun v=>by rw[List.length_set];exact hbs.len
  have f6: ∀v,List.take c.buf.length (vs.set t [v])=vs.set t [v]:=fun v=>zxm (f5 v).symm
  have f7: ∀o o':Option O,(vs.set t [V.ms k2 0 (rows++[[V.ms kc 0 nc,V.ms kv 0 nv]]).length]).mapM (fun row=>row.mapM (toT (updC (updC (hpC (updC H (z+1+3+11) (some (O.rows 2 [[V.ms kc 0 nc,V.ms kv 0 nv]] false))) hp) kB o) kA o') 999))=some ((c.buf.set t (bufM c t++[entryOf p (viewM c t) s.set])).map fun b=>[.sl (b.map Entry.enc)]):=by
   intro o o';refine zx3 _ _ (by rw[f5,List.length_set]) fun j b hb=> ?_
   rw[List.getElem?_set]at hb
   by_cases hj:t=j
   ·subst hj;rw[if_pos rfl,if_pos (by omega)]at hb;simp only[zA]at hb;subst hb;refine⟨_,by rw[List.getElem?_set,if_pos rfl,if_pos (by have:=hbs.len;omega)],?_⟩;refine zz9.tree (lo:=bd t) (hi:=k2+1) ⟨rows++[[V.ms kc 0 nc,V.ms kv 0 nv]],.inr ⟨k2,rfl,by omega,by omega,by rw[hkF o o' k2 (by omega) (by omega)];exact hk2h⟩,by rw[List.length_append,List.length_append,hrl];rfl,?_,fun q e0 hq=> ?_⟩ 997
    ·intro r hr;rcases List.mem_append.1 hr with hr | hr
     ·exact hr2 r hr
     ·rw[List.mem_singleton]at hr;rw[hr];rfl
    ·rcases Nat.lt_or_ge q (bufM c t).length with h1 | h1
     ·rw[List.getElem?_append_left h1]at hq;obtain⟨r,hr,hE⟩:=hre q e0 hq;refine⟨r,by rw[List.getElem?_append_left (by omega)];exact hr,hE.keep (Nat.le_refl _) (by omega) fun w w1 w2 w3=> ?_⟩;exact hsame o o' w (by omega) (by omega) (by omega) (by omega) (hoffq w (.inr (.inr w3)))
     ·have hqj:q=(bufM c t).length:=by
       have:=(zH.1 hq).1;rw[List.length_append,List.length_singleton]at this;omega
      subst hqj;rw[List.getElem?_append_right (Nat.le_refl _),Nat.sub_self]at hq;simp only[List.getElem?_cons_zero,zA]at hq;subst hq;refine⟨[V.ms kc 0 nc,V.ms kv 0 nv],by rw[List.getElem?_append_right (by omega),hrl,Nat.sub_self];rfl,?_⟩
      have u1: ∀q,n'<=q->q<z->updC (updC (hpC (updC H (z+1+3+11) (some (O.rows 2 [[V.ms kc 0 nc,V.ms kv 0 nv]] false))) hp) kB o) kA o' q=H q:=fun q q1 q2=>by
       rw[hkF o o' q (by omega) (by omega),hpk q q2 (hoffq q (.inr (.inl (by omega))))]
      rw[rowsI_len]at hnc hnv;refine⟨kc,kv,by rw[<- hnc,<- hnv];rfl,by omega,by omega,by omega,by omega,by rw[u1 kc e1 e2];exact e6,by rw[u1 kv e3 e4];exact e7⟩
   ·rw[if_neg hj]at hb;obtain⟨u,hu,hB4⟩:=hbs.at_ j b hb;have hjl:=(zH.1 hb).1;refine⟨u,by rw[List.getElem?_set,if_neg hj];exact hu,?_⟩;refine(hB4.keep (Nat.le_refl _) fun q q1 q2=> ?_).tree 997;have u1:=hbs.le (q:=0) (r:=j) (by omega) (by omega);have u2:=hbs.le (q:=j+1) (r:=c.buf.length) (by omega) (Nat.le_refl _);refine hsame o o' q (by omega) (by omega) (by omega) (by omega) (hoffq q ?_);rcases Nat.lt_or_ge j t with h1 | h1
    ·have:=hbs.le (q:=j+1) (r:=t) (by omega) (by omega);exact .inl (by omega)
    ·have:=hbs.le (q:=t+1) (r:=j) (by omega) (by omega);exact .inr (.inl (by omega))
  rw[hC];simp -dsimp only[go_sem,seval,hBA,fM,f3,f5,f6,f7,rowsI_len,List.length_set,zxr,Nat.le_refl]
theorem zAx (p:Prog) (hf:formedM p=true) (k:Int) (c:Config) (hc:IsB p c) (t:Nat) (x:Thread) (hx:p.threads[t]? =some x) (i:Nat) (s:Step) (hs:x.steps[i]? =some s) (y:Choice) (hy:y=⟨t,i,0⟩):
 Den Γ G 192 [stV p k c,(.agg [.t (ti (y).thread),.t (ti (y).step),.t (ti (y).cell)]),.t (ints (viewM c t))]=some (.agg [.t (ints (execB p c t s).mem),.t (ints (execB p c t s).at_),.t (.sl ((execB p c t s).buf.map (fun b=>[.sl (b.map Entry.enc)])))]):=by
 by_cases hk:s.kind=3
 ·exact zAv p hf k c hc t x hx i s hs y hy hk
 ·exact zAw p hf k c hc t x hx i s hs y hy hk
def stT (p:Prog) (k:Int) (c:Config):List T:=[ints c.mem,ints c.at_,.sl (c.buf.map fun b=>[.sl (b.map Entry.enc)]),.sl (p.cells.map Cell.enc),.sl (p.modules.map Contract.enc),.sl (p.locks.map Lock.enc),.sl (p.threads.map Thread.enc),ti k]
theorem zzJ (p:Prog) (k:Int) (c:Config) (t:Nat):Den Γ G 190 [stV p k c,vi t]=some (.t (.fn 200 [] [.ip (stT p k c),.ip [ti t]])):=by
 unfold stV stT
 (refine den_ofY Γ190 rfl ?_;dsimp only[f190])
 simp -dsimp only[go_sem,seval]
 done
theorem open1_den (p:Prog) (hf:formedM p=true) (k:Int) (c:Config) (hc:IsB p c) (t:Nat) (ht:t<p.threads.length) (ky:Nat) (Inv:Nat->(Nat->Option O)->Nat->Prop) (Stop:(Nat->Option O)->Nat->Prop)
 (hmono: ∀i H n m,Inv i H n->n<=m->Inv i H m) (hstop: ∀H n m,Stop H n->n<=m->Stop H m)
 (hstep: ∀i e H n,(bufM c t)[i]? =some e->Inv i H n->if openM k (bufM c t) i e then ∃cont h' n',DenY Γ G ky [vi i,.agg [.t (ints e.cells),.t (ints e.values)]] H n=some (vb cont,h',n')/\(if cont then Inv (i+1) h' n' else Stop h' n')else Inv (i+1) H n)
 (H:Nat->Option O) (n:Nat) (h0:Inv 0 H n):
 ∃r h' n',DenR Γ G 200 [.yl ky,.t (.ip (stT p k c)),.t (.ip [ti t])] H n=some (r,h',n')/\(Inv (bufM c t).length h' n'\/Stop h' n'):=by
 obtain⟨⟨m1,m2,m3,m4⟩,_⟩:=limits_points (formed_limits hf).1;have l3:=hc.lb;have hget:=bufM_at (c:=c) (t:=t) (by omega);obtain⟨b1,b2,_⟩:=hc.buf t _ hget;unfold stT
 (refine denR_ofY Γ200 rfl ?_;dsimp only[f200])
 simp -dsimp only[go_sem,seval,hget];refine zaj 1099511595104 (bufM c t).length (fun i f h z=>(f 15).v=vi i/\Inv i h z) rfl ⟨by simp -dsimp only[go_sem,seval],hmono _ _ _ _ h0 (by simp -dsimp only[go_sem,seval];omega)⟩ ?_;rintro i f u H2 z bs hi ⟨h15,hI⟩;have hw:=zah i (by omega);simp -dsimp only[go_sem,seval,h15];refine csplit (fun h=> ?_) (fun h=> ?_)<;>(try rw[h])<;>(try simp only[zab]at h)<;>(try simp -dsimp only[go_sem,seval,h15])
 ·obtain⟨e,he,hem⟩:=zaf ‹i<(bufM c t).length›;have hpr:=b2 e hem;have hpl:=zxy hpr;have hst0:=hstep i e H2 z he hI
  have hyl:openM k (bufM c t) i e=true-> ∀m,z<=m-> ∃r h' n',DenY Γ G ky [vi i,.agg [.t (ints e.cells),.t (ints e.values)]] H2 m=some (r,h',n')/\ ∃cont:Bool,r=vb cont/\(if cont then Inv (i+1) h' n' else Stop h' n'):=fun ho m hm=>by
   have:=hstep i e H2 m he (hmono _ _ _ _ hI hm);rw[if_pos ho]at this;obtain⟨cont,h',n',h1,h2⟩:=this;exact⟨_,h',n',h1,cont,rfl,h2⟩
  have hall:((((bufM c t).map Entry.enc)).all fun x=>decide (x.length=2))=true:=by simp[Entry.enc]
  have hbl:=zzz ((bufM c t).take i) e (by rw[List.length_take];omega) (by omega) (fun o ho=>by
   have:=zxy (b2 o (List.mem_of_mem_take ho));omega)
  rw[List.map_take]at hbl;have i1:(0:Int)<=(i:Int):=by omega
  have i2:(i:Int)<=((bufM c t).length:Int):=by omega
  have i3:((i:Int)-0).toNat=i:=by omega
  by_cases hi0:i=0
  ·subst hi0;simp -dsimp only[go_sem,seval,h15,he,Entry.enc];refine zav (hyl (by simp[openM]) _ (by omega)) ?_;rintro r h' n' ⟨cont,rfl,hcont⟩;cases cont
   ·simp -dsimp only[go_sem,seval,h15];exact .inr (hstop _ _ _ hcont (by omega))
   ·simp -dsimp only[go_sem,seval,h15];exact⟨by omega,by simp -dsimp only[go_sem,seval,hw],hmono _ _ _ _ hcont (by simp -dsimp only[go_sem,seval];omega)⟩
  ·have hgt:(i:Int)>0:=by omega
   by_cases hk2:k=2
   ·cases hb:blockedM ((bufM c t).take i) e
    ·simp -dsimp only[go_sem,seval,h15,he,Entry.enc,hgt,hk2,hbl,hb,i1,i2,i3,hall];refine zav (hyl (by simp[openM,hk2,hb]) _ (by omega)) ?_;rintro r h' n' ⟨cont,rfl,hcont⟩;cases cont
     ·simp -dsimp only[go_sem,seval,h15];exact .inr (hstop _ _ _ hcont (by omega))
     ·simp -dsimp only[go_sem,seval,h15];exact⟨by omega,by simp -dsimp only[go_sem,seval,hw],hmono _ _ _ _ hcont (by simp -dsimp only[go_sem,seval];omega)⟩
    ·simp -dsimp only[go_sem,seval,h15,he,Entry.enc,hgt,hk2,hbl,hb,i1,i2,i3,hall];rw[if_neg (by simp[openM,hk2,hb,hi0])]at hst0;exact⟨by omega,by simp -dsimp only[go_sem,seval,hw],hmono _ _ _ _ hst0 (by simp -dsimp only[go_sem,seval];omega)⟩
   ·simp -dsimp only[go_sem,seval,h15,he,Entry.enc,hgt,hk2];rw[if_neg (by simp[openM,hk2,hi0])]at hst0;exact⟨by omega,by simp -dsimp only[go_sem,seval,hw],hmono _ _ _ _ hst0 (by simp -dsimp only[go_sem,seval];omega)⟩
 ·have hi2:i=(bufM c t).length:=by omega
  subst hi2;exact .inl (hmono _ _ _ _ hI (by simp -dsimp only[go_sem,seval];omega))
theorem zyR (p:Prog) (hf:formedM p=true) (e:Entry) (he:Proper p e):Den Γ G 205 [(.agg [.t (.sl ((p).cells.map (Cell.enc))),.t (.sl ((p).modules.map (Contract.enc))),.t (.sl ((p).locks.map (Lock.enc))),.t (.sl ((p).threads.map (Thread.enc)))]),.agg [.t (ints e.cells),.t (ints e.values)]]=some (vb true):=by
 obtain⟨⟨m1,m2,m3,m4⟩,_⟩:=limits_points (formed_limits hf).1;have hl:=zxy he;have hv:=he.len
 have n0: ¬(e.cells.length:Int)=0:=by
  have:e.cells.length≠0:=fun h=>he.ne (List.eq_nil_of_length_eq_zero h)
  omega
 have n1: ¬(e.cells.length:Int)>(p.cells.length:Int):=by omega
 have n2:(e.values.length:Int)=(e.cells.length:Int):=by omega
 (refine den_ofY Γ205 rfl ?_;dsimp only[f205])
 simp -dsimp only[go_sem,seval,n0,n1,n2];refine zaz 1237940039285380266309189872 e.cells.length (fun i f=>(f 33).v=vi i) rfl rfl (by simp -dsimp only[go_sem,seval]) ?_;rintro i f u kk bb hi h33;have hw:=zah i (by omega);simp -dsimp only[go_sem,seval,h33];refine csplit (fun h=> ?_) (fun h=> ?_)<;>(try rw[h])<;>(try simp only[zab]at h)<;>(try simp -dsimp only[go_sem,seval,h33])
 ·obtain⟨n,hn,hnm⟩:=zaf ‹i<e.cells.length›;obtain⟨v,hvv,_⟩:=zaf (show i<e.values.length by omega);obtain⟨c0,y,hy,ht,hg,v0,v1⟩:=he.cell i n v hn hvv;have hyl:=(zH.1 hy).1;obtain⟨w1,w2,_⟩:=formed_cell hf (List.mem_of_getElem? hy);have hsh:=zke (w:=y.w) (by omega);have hs0: ¬y.w<0:=by omega
  have a1: ¬n<0:=by omega
  have a2: ¬n>=(p.cells.length:Int):=by omega
  have a3: ¬v<0:=by omega
  have a4: ¬v>=2^y.w.toNat:=by omega
  have i1:(0:Int)<=(i:Int):=by omega
  have i2:(i:Int)<=(e.cells.length:Int):=by omega
  have i3:((i:Int)-0).toNat=i:=by omega
  have hct:=zyh (e.cells.take i) n (by rw[List.length_take];omega)
  have hcf:(e.cells.take i).contains n=false:=by
   rw[Bool.eq_false_iff];intro hc;have hm:n∈e.cells.take i:=by simpa using hc
   obtain⟨j,hj⟩:=List.getElem?_of_mem hm;rw[List.getElem?_take]at hj;split at hj
   ·rename_i hji;have h1:=(zH.1 hj)
    have h2:=(zH.1 hn)
    exact List.pairwise_iff_getElem.1 (List.nodup_iff_pairwise_ne.1 he.nd) j i h1.1 h2.1 hji (by rw[h1.2,h2.2])
   ·simp at hj
  rw[hcf]at hct;have hall:((e.cells.map fun n=>[ti n]).all fun x=>decide (x.length=1))=true:=by simp
  have htm:(e.cells.map fun n=>[ti n]).take i=(e.cells.take i).map fun n=>[ti n]:=by rw[List.map_take]
  have hgi:((y.ghost==decide ((i:Int)>0)) != true)=false:=by
   rw[hg]
   by_cases h0:0<i
   ·have:(i:Int)>0:=by omega
    simp[h0]
   ·have : ¬(i:Int)>0:=by omega
    simp[h0]
  simp -dsimp only[go_sem,seval,h33,hn,a1,a2,i1,i2,i3,hall,htm,hct,c0,hy,ht,hgi,hvv,a3,hsh,hs0,a4];exact⟨by omega,by simp -dsimp only[go_sem,seval,hw]⟩
theorem zAs (p:Prog) (hf:formedM p=true) (c:Config) (hc:IsB p c):Den Γ G 196 [(.agg [.t (.sl ((p).cells.map (Cell.enc))),.t (.sl ((p).modules.map (Contract.enc))),.t (.sl ((p).locks.map (Lock.enc))),.t (.sl ((p).threads.map (Thread.enc)))]),(.agg [.t (ints (c).mem),.t (ints (c).at_),.t (.sl ((c).buf.map (fun b=>[.sl (b.map Entry.enc)])))])]=some (vb true):=by
 obtain⟨⟨m1,m2,m3,m4⟩,_⟩:=limits_points (formed_limits hf).1;have l1:=hc.lm;have l2:=hc.la;have l3:=hc.lb;have e1:(c.mem.length:Int)=(p.cells.length:Int):=by omega
 have e2:(c.at_.length:Int)=(p.threads.length:Int):=by omega
 have e3:(c.buf.length:Int)=(p.threads.length:Int):=by omega
 (refine den_ofY Γ196 rfl ?_;dsimp only[zBC])
 simp -dsimp only[go_sem,seval,e1,e2,e3];refine zaz 576459652791795824 c.mem.length (fun i f=>(f 40).v=vi i) rfl rfl (by simp -dsimp only[go_sem,seval]) ?_;rintro i f u kk bb hi h40;have hw:=zah i (by omega);simp -dsimp only[go_sem,seval,h40];refine csplit (fun h=> ?_) (fun h=> ?_)<;>(try rw[h])<;>(try simp only[zab]at h)<;>(try simp -dsimp only[go_sem,seval,h40])
 ·obtain⟨v,hv,_⟩:=zaf (show i<c.mem.length by omega);obtain⟨x,hx,hxm⟩:=zaf (show i<p.cells.length by omega);obtain⟨w1,w2,_⟩:=formed_cell hf hxm;have hsh:=zke (w:=x.w) (by omega);have hs0: ¬x.w<0:=by omega
  obtain⟨v0,v1⟩:=hc.mem i v x hv hx;have a3: ¬v<0:=by omega
  have a4: ¬v>=2^x.w.toNat:=by omega
  simp -dsimp only[go_sem,seval,h40,hv,hx,hsh,hs0,a3,a4];exact⟨by omega,by simp -dsimp only[go_sem,seval,hw]⟩
 ·refine zaz 2658455991569831741195928102133304208 c.at_.length (fun i f=>(f 62).v=vi i) rfl rfl (by simp -dsimp only[go_sem,seval]) ?_;clear h40 hw;rintro t f u kk bb hi h62;have hw:=zah t (by omega);simp -dsimp only[go_sem,seval,h62];refine csplit (fun h=> ?_) (fun h=> ?_)<;>(try rw[h])<;>(try simp only[zab]at h)<;>(try simp -dsimp only[go_sem,seval,h62])
  ·obtain⟨a,ha,_⟩:=zaf (show t<c.at_.length by omega);obtain⟨x,hx,hxm⟩:=zaf (show t<p.threads.length by omega);obtain⟨a1,a2,a3⟩:=hc.at_ t a x ha hx;have hget:=bufM_at (c:=c) (t:=t) (by omega);obtain⟨b1,b2,b3⟩:=hc.buf t _ hget;have q1: ¬a< -1:=by omega
   have q2: ¬a>=x.points:=by omega
   have q3: ¬((bufM c t).length:Int)>3:=by omega
   by_cases ha1:a= -1
   ·have hb0:bufM c t=[]:=b3 (by rw[ha,ha1]);have hsl:=a3 ha1;have n0: ¬((bufM c t).length:Int)>0:=by rw[hb0];simp
    subst ha1;simp -dsimp only[go_sem,seval,h62,ha,hx,hget,q1,q2,q3,hsl,n0];refine zaz 1326631847355648459089541812115736592 (bufM c t).length (fun j f'=>(f' 111).v=vi j) rfl rfl (by simp -dsimp only[go_sem,seval]) ?_;rintro j f' u' kk' bb' hj h111;have hw':=zah j (by omega);simp -dsimp only[go_sem,seval,h111];refine csplit (fun h=> ?_) (fun h=> ?_)<;>(try rw[h])<;>(try simp only[zab]at h)<;>(try simp -dsimp only[go_sem,seval,h111,h62])
    ·obtain⟨e,he,hem⟩:=zaf ‹j<(bufM c t).length›;have hpd:=zyR p hf e (b2 e hem);simp -dsimp only[go_sem,seval,h111,h62,he,Entry.enc,hpd];exact⟨by omega,by simp -dsimp only[go_sem,seval,hw']⟩
    ·exact⟨by omega,by simp -dsimp only[go_sem,seval,hw,h62]⟩
   ·simp -dsimp only[go_sem,seval,h62,ha,hx,hget,q1,q2,q3,ha1];refine zaz 1326631847355648459089541812115736592 (bufM c t).length (fun j f'=>(f' 111).v=vi j) rfl rfl (by simp -dsimp only[go_sem,seval]) ?_;rintro j f' u' kk' bb' hj h111;have hw':=zah j (by omega);simp -dsimp only[go_sem,seval,h111];refine csplit (fun h=> ?_) (fun h=> ?_)<;>(try rw[h])<;>(try simp only[zab]at h)<;>(try simp -dsimp only[go_sem,seval,h111,h62])
    ·obtain⟨e,he,hem⟩:=zaf ‹j<(bufM c t).length›;have hpd:=zyR p hf e (b2 e hem);simp -dsimp only[go_sem,seval,h111,h62,he,Entry.enc,hpd];exact⟨by omega,by simp -dsimp only[go_sem,seval,hw']⟩
    ·exact⟨by omega,by simp -dsimp only[go_sem,seval,hw,h62]⟩
theorem zzW (p:Prog) (hs:p.sane):Den Γ G 195 [(.agg [.t (.sl ((p).cells.map (Cell.enc))),.t (.sl ((p).modules.map (Contract.enc))),.t (.sl ((p).locks.map (Lock.enc))),.t (.sl ((p).threads.map (Thread.enc)))])]=some (vb (formedM p)):=by
 (refine den_ofY Γ195 rfl ?_;dsimp only[zBD])
 have h1:=zep p hs;simp -dsimp only[go_sem,seval,h1];rfl
theorem zzL (p:Prog) (hs:p.sane) (hf:formedM p=true) (c:Config) (hc:IsB p c) (k:Int) (hk:k=1\/k=2):Den Γ G 187 [(.agg [.t (.sl ((p).cells.map (Cell.enc))),.t (.sl ((p).modules.map (Contract.enc))),.t (.sl ((p).locks.map (Lock.enc))),.t (.sl ((p).threads.map (Thread.enc)))]),vi k,(.agg [.t (ints (c).mem),.t (ints (c).at_),.t (.sl ((c).buf.map (fun b=>[.sl (b.map Entry.enc)])))])]=some (.tup [stV p k c,vb true]):=by
 unfold stV
 (refine den_ofY Γ187 rfl ?_;dsimp only[f187])
 have h1:=zzW p hs;rw[hf]at h1;have h2:=zAs p hf c hc;rcases hk with rfl | rfl
 ·simp -dsimp only[go_sem,seval,h1,h2]
 ·simp -dsimp only[go_sem,seval,h1,h2]
end Rg
end
section
namespace Rg
open Go
def zAD (h:Nat->Option O) (n kL:Nat) (l:List Choice):Prop:= ∃v,h kL=some (.rows 1 [[v]] false)/\zxp h n v 3 (rowsC l)
theorem zBi {ky kL kT n t i:Nat} {h:Nat->Option O} {env:Nat->V} {l:List Choice} {e:Entry} (hk:h ky=some (.loop env [64,65] zyX .ready)) (h9:env 9= .mp kL 0 0) (h10:env 10= .mp kT 0 0)
 (hT:h kT=some (.rows 1 [[vi t]] false)) (hL:zAD h n kL l) (hkn:ky<n) (hLn:kL<n) (hTn:kT<n) (hyL:ky≠kL) (hyT:ky≠kT) (hLT:kL≠kT) (hne:e.cells≠[]) (hll:l.length<2^20):
 ∃h' n',DenY Γ G ky [vi i,.agg [.t (ints e.cells),.t (ints e.values)]] h n=some (vb true,h',n')/\h' ky=some (.loop env [64,65] zyX .ready)/\h' kT=some (.rows 1 [[vi t]] false)/\zAD h' n' kL (l++[⟨t,-1,headC e⟩])/\n<=n'/\
  (∀j,j<n->j≠ky->j≠kL->(∀sz rs fz,h j≠some (.rows sz rs fz))->h' j=h j):=by
 have:=zoY (Γ:=Γ) (G:=G) (vs:=[vi i,.agg [.t (ints e.cells),.t (ints e.values)]]) (n:=n) (P:=fun ex h' n'=>ex= .normal/\h' ky=some (.loop env [64,65] zyX .busy)/\h' kT=some (.rows 1 [[vi t]] false)/\zAD h' n' kL (l++[⟨t,-1,headC e⟩])/\n<=n'/\
  (∀j,j<n->j≠ky->j≠kL->(∀sz rs fz,h j≠some (.rows sz rs fz))->h' j=h j)) hk rfl (fun ex h' n' hP=>⟨_,_,_,hP.2.1⟩) (by
  obtain⟨v,hv,ho⟩:=hL;have n1:ky≠n+0:=by omega
  have n2:kL≠n+0:=by omega
  have n3:kT≠n+0:=by omega
  have n4:kL≠ky:=by omega
  have n5:kT≠ky:=by omega
  have hc0:e.cells[0]? =some (headC e):=by
   cases hc:e.cells with
   | nil=>exact absurd hc hne
   | cons a r=>simp[headC,hc]
  have n6:n+0≠ky:=by omega
  have n7:n+0≠kL:=by omega
  have n8:n+0≠kT:=by omega
  have hvv:=ho.valOf
  have hown: ∀(H:Nat->Option O) q,n<=q->(∀j,j<n->j≠ky->H j=h j)->zxp H q v 3 (rowsC l):=fun H q hq hH=>by
   rcases ho with h1 | ⟨kv,h1,h2,h3⟩
   ·exact .inl h1
   ·refine .inr ⟨kv,h1,by omega,?_⟩;rw[hH kv h2 (by rintro rfl;rw[hk]at h3;simp at h3)];exact h3
  simp -dsimp only[go_sem,seval,h9,h10,hT,hv,n1,n2,n3,n4,n5,n6,n7,n8,hc0,hvv]
  have hrs: ∀(o1 o2 o3 o4 o5:Option O) (a b:Nat),rowsS (updC (updC (updC (updC (updC h ky o1) (n+0) o2) (n+0) o3) ky o4) (n+a+b) o5) v=some (rowsC l):=fun o1 o2 o3 o4 o5 a b=>
   (hown _ (n+a+b) (by omega) fun j hj hjy=>by
     have u1:j≠n+0:=by omega
     have u2:j≠n+a+b:=by omega
     rw[zac,if_neg u2,zac,if_neg hjy,zac,if_neg u1,zac,if_neg u1,zac,if_neg hjy]).rowsS
  simp -dsimp only[go_sem,seval,hrs]
  refine zas (x:=n+2+8) (hown _ _ (by omega) fun j hj hjy=>by
   have u1:j≠n+0:=by omega
   have u2:j≠n+2+7:=by omega
   rw[zac,if_neg u2,zac,if_neg hjy,zac,if_neg u1,zac,if_neg u1,zac,if_neg hjy]) (Nat.le_refl _) (by rw[zyc];omega) (by decide) rfl (rowsC_all _) ?_
  intro v2 hp hO hof hkp
  have hoffv: ∀j,(∀rs fz,h j≠some (.rows 3 rs fz))->j<n->zc1 v j:=fun j hj hjn=>by
   rcases ho with⟨rfl,_⟩ | ⟨kv,rfl,h2,h3⟩
   ·intro i n h0;cases h0
   ·refine offK_ms ?_ _ _;rintro rfl;exact hj _ _ h3
  have hO':=hO;rcases hO with⟨_,he0⟩ | ⟨k2,rfl,hk2a,hk2h⟩
  ·simp at he0
  have hk2q:n+2+8<=k2:=by
   rcases Nat.lt_or_ge k2 (n+2+8)with h1 | h1
   ·exact absurd rfl (hof k2 h1 0 _)
   ·exact h1
  have y0:=hkp ky (by omega) (hoffv ky (by rw[hk];simp) hkn);have y1:=hkp kL (by omega) (hoffv kL (by rw[hv];simp) hLn);have y2:=hkp kT (by omega) (hoffv kT (by rw[hT];simp) hTn);have n9:kL≠n+2+7:=by omega
  have n10:ky≠n+2+7:=by omega
  have n11:kT≠n+2+7:=by omega
  simp only[zac,n1,n2,n3,n4,n5,n9,n10,n11,if_false,if_true,hv,hT]at y0 y1 y2;simp -dsimp only[go_sem,seval,h9,y1];refine⟨rfl,?_,?_,⟨.ms k2 0 (rowsC l++[[vi t,vi (-1),vi (headC e)]]).length,?_,.inr ⟨k2,?_,?_,?_⟩⟩,?_,?_⟩
  ·simp -dsimp only[go_sem,seval,n4.symm,y0];rfl
  ·simp -dsimp only[go_sem,seval,hLT.symm,y2]
  ·simp -dsimp only[go_sem,seval]
  ·rw[zxL]
  ·simp -dsimp only[go_sem,seval];omega
  ·have u1:k2≠kL:=by omega
   simp -dsimp only[go_sem,seval,u1];rw[hk2h,zxL]
  ·simp -dsimp only[go_sem,seval];omega
  ·intro j j1 j2 j3 j4;have u1:j≠n+0:=by omega
   have u2:j≠n+2+7:=by omega
   simp -dsimp only[go_sem,seval,j3]
   rw[hkp j (by omega) (hoffv j (fun rs fz=>j4 _ _ _) j1),zac,if_neg u2,zac,if_neg j2,zac,if_neg u1,zac,if_neg u1,zac,if_neg j2])
 obtain⟨ex,h',n',⟨rfl,q1,q2,q3,q4,q5⟩,env',ps',bd',q6,q7⟩:=this;rw[q1]at q6;simp only[zA,O.loop.injEq]at q6;obtain⟨rfl,rfl,rfl,_⟩:=q6;refine⟨_,n',q7,by rw[zac,if_pos rfl];rfl,by rw[zac,if_neg hyT.symm];exact q2,?_,q4,fun j j1 j2 j3 j4=>by rw[zac,if_neg j2];exact q5 j j1 j2 j3 j4⟩;obtain⟨v,v1,v2⟩:=q3;refine⟨v,by rw[zac,if_neg hyL.symm];exact v1,?_⟩;rcases v2 with h1 | ⟨k2,h1,h2,h3⟩
 ·exact .inl h1
 ·exact .inr ⟨k2,h1,h2,by rw[zac,if_neg (by rintro rfl;rw[q1]at h3;simp at h3)];exact h3⟩
end Rg
end
