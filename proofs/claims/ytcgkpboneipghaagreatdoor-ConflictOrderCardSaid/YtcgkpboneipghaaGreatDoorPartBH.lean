/- Part of the proof of the laws of the package relyguardlaw30: an abstract machine for the program's functions, what they compute, and that the machine is the program's. No condition. (H32i H45c H46b H48c) -/
import Derived.Test.YtcgkpboneipghaaGreatDoorPartAZ
import Derived.Test.YtcgkpboneipghaaGreatDoorPartBG
import Derived.Test.YtcgkpboneipghaaGreatDoorPartBB
set_option linter.unusedSimpArgs false
set_option linter.unusedVariables false
section
set_option maxRecDepth 100000
namespace Rg
open Go
theorem putA_appU {h:Nat->Option O} {q sz bytes k0 n0:Nat} {a b:List (List V)} {K:V->List (Nat×O)->Prop} {w:WK K}
 (hh:h k0=some (.rows sz a false)) (hn:n0=a.length) (hlen:a.length+b.length<=2^32) (hby:bytes<=2^12) (hb:(b.all fun r=>decide (r.length=sz))=true) (ha:(a.all fun r=>decide (r.length=sz))=true)
 (hK : ∀ k hp,(k=k0\/k=q)->hpC h hp k=some (.rows sz (a++b) false)->(∀ j,j≠k0->j≠q->hpC h hp j=h j)->K (.ms k 0 (a++b).length) hp):putA false (appS h q sz bytes (.ms k0 0 n0) a b) K w:=by
 subst hn
 cases b with
 | nil =>
   unfold appS
   rw [if_pos ⟨⟨hlen,hby⟩,hb,ha⟩]
   simp only [List.isEmpty_nil,if_true,putA_some]
   have:=hK k0 [] (.inl rfl) (by rw [hpC_nil,List.append_nil]; exact hh) (fun j _ _=>by rw [hpC_nil])
   rwa [List.append_nil] at this
 | cons r rs =>
   refine putA_appE hh hlen hby hb ha (by simp) ?_
   rw [<- List.length_append]
   refine hK q _ (.inr rfl) ?_ ?_
   ·simp only [hpC_cons,hpC_nil]; rw [updC_at,if_pos rfl]
   ·intro j h1 h2
    simp only [hpC_cons,hpC_nil]; rw [updC_at,if_neg h2,updC_at,if_neg h1]
theorem own_rows {α:Type} (f:α->List T) (hf : ∀ x, ∀ t∈f x,T.norm t=t) (l:List α) {h:Nat->Option O} {k n sz d:Nat} (hk:h k=some (.rows sz ((l.map f).map (fun x=>x.map V.t)) false)) (hn:n=l.length) :
 toT h (d+1) (.ms k 0 n)=some (.sl (l.map f)):=by
 subst hn
 refine toT_ms (r:=(l.map f).map (fun x=>x.map V.t)) hk (by unfold rd; rw [if_pos (by simp),List.drop_zero,List.take_of_length_le (by simp)]) ?_
 refine rows_toT _ d _ ?_
 intro e he t ht
 obtain ⟨s,_,rfl⟩:=List.mem_map.1 he
 exact hf s t ht
end Rg
end
section
namespace Rg
open Go
set_option maxHeartbeats 4000000
end Rg
end
section
namespace Rg
open Go
def stRows (l:List Step):List (List V):=(l.map Step.enc).map (·.map V.t)
theorem stRows_len (l:List Step):(stRows l).length=l.length:=by simp [stRows]
theorem stRows_at {l:List Step} {i:Nat} {s:Step} (h:l[i]? = some s):(stRows l)[i]? = some (s.enc.map V.t):=by simp [stRows,h]
theorem stRows_set (l:List Step) (k:Nat) (s:Step):stRows (l.set k s)=(stRows l).set k (s.enc.map V.t):=by simp [stRows,List.map_set]
def AtRow (kd:Int) (h:Nat->Option O) (x ko:Nat) (y:Thread) (dn:Prop) (r:List V):Prop :=
 (dn /\ ∃ k,r=[.t (.str y.name), .t (ti y.points), .t (.sl (y.asserts.map Expr.enc)), .t (ints y.modules), .ms k 0 y.steps.length, .t (.sl (y.loops.map Loop.enc)), .t (tb y.asleep)]/\k<x/\k≠ko/\h k=some (.rows 11 (stRows (y.steps.map (atomS kd))) false)) \/
 (¬ dn/\r=y.enc.map V.t)
structure AtThr (kd:Int) (p:Prog) (h:Nat->Option O) (x ko t:Nat) (rows:List (List V)):Prop where
 at_:h ko=some (.rows 7 rows false)
 lt:ko<x
 len:rows.length=p.threads.length
 row : ∀ (j:Nat) (y:Thread),p.threads[j]? = some y -> ∃ r,rows[j]? = some r/\AtRow kd h x ko y (j<t) r
set_option maxHeartbeats 1000000
set_option maxHeartbeats 2000000
end Rg
end
section
namespace Rg
open Go
theorem other_den (i k:Nat) (x:Int):Den Γ G 308 [vi x,vi i,vi k]=some (vi (sg i k x)):=by
 (refine den_ofY Γ308 rfl ?_; dsimp only [f308])
 simp -dsimp -implicitDefEqProofs only [go_sem,seval]
 unfold sg
 by_cases h1:x=(i:Int)
 ·subst h1
  simp -dsimp -implicitDefEqProofs only [go_sem,seval]
 ·by_cases h2:x=(k:Int)
  ·subst h2
   simp -dsimp -implicitDefEqProofs only [go_sem,seval,h1]
  ·simp -dsimp -implicitDefEqProofs only [go_sem,seval,h1,h2]
def mpN {α:Type} (F:α->α) (l:List α) (n:Nat):List α:=(l.take n).map F++l.drop n
theorem mpN_zero {α:Type} (F:α->α) (l:List α):mpN F l 0=l:=by simp [mpN]
theorem mpN_end {α:Type} (F:α->α) (l:List α):mpN F l l.length=l.map F:=by simp [mpN]
theorem mpN_at {α:Type} {F:α->α} {l:List α} {n:Nat} {s:α} (h:l[n]? = some s):(mpN F l n)[n]? = some s:=by
 have hk:=(List.getElem?_eq_some_iff.1 h).1
 have hl:((l.take n).map F).length=n:=by simp; omega
 rw [mpN,List.getElem?_append_right (by omega),hl,Nat.sub_self,List.getElem?_drop]; simpa using h
theorem mpN_succ {α:Type} {F:α->α} {l:List α} {n:Nat} {s:α} (h:l[n]? = some s):mpN F l (n+1)=(mpN F l n).set n (F s):=by
 have hk:=(List.getElem?_eq_some_iff.1 h).1
 have hl:((l.take n).map F).length=n:=by simp; omega
 rw [mpN,take_succ_of h,mpN,List.set_append_right _ _ (by omega),hl,Nat.sub_self,drop_of h]
 simp
theorem mpN_same {α:Type} {F:α->α} {l:List α} {n:Nat} {s:α} (h:l[n]? = some s) (hF:F s=s):mpN F l (n+1)=mpN F l n:=by
 rw [mpN_succ h,hF]
 refine List.ext_getElem? fun i => ?_
 rw [List.getElem?_set]
 by_cases hi:n=i
 ·subst hi
  have h2:=(List.getElem?_eq_some_iff.1 (mpN_at (F:=F) h)).1
  rw [if_pos rfl,if_pos h2]; exact (mpN_at h).symm
 ·rw [if_neg hi]
def SwRow (F:Step->Step) (h:Nat->Option O) (x ko kc:Nat) (y:Thread) (dn:Prop) (r:List V):Prop :=
 (dn /\ ∃ k,r=[.t (.str y.name), .t (ti y.points), .t (.sl (y.asserts.map Expr.enc)), .t (ints y.modules), .ms k 0 y.steps.length, .t (.sl (y.loops.map Loop.enc)), .t (tb y.asleep)]/\k<x/\k≠ko/\k≠kc/\h k=some (.rows 11 (stRows (y.steps.map F)) false)) \/
 (¬ dn/\r=y.enc.map V.t)
structure SwThr (F:Step->Step) (Q:List Thread) (h:Nat->Option O) (x ko kc t:Nat) (rows:List (List V)):Prop where
 at_:h ko=some (.rows 7 rows false)
 lt:ko<x
 len:rows.length=Q.length
 row : ∀ (j:Nat) (y:Thread),Q[j]? = some y -> ∃ r,rows[j]? = some r/\SwRow F h x ko kc y (j<t) r
set_option maxHeartbeats 2000000
theorem swap_den (p:Prog) (hs:p.SmallP 40) (i k:Nat) (hi:i<p.threads.length) (hk:k<p.threads.length):Den Γ G 294 [(.agg [.t (.sl ((p).cells.map (Cell.enc))), .t (.sl ((p).modules.map (Contract.enc))), .t (.sl ((p).locks.map (Lock.enc))), .t (.sl ((p).threads.map (Thread.enc)))]),vi i,vi k]=some (.agg [.t (.sl ((p.sw i k).cells.map (Cell.enc))), .t (.sl ((p.sw i k).modules.map (Contract.enc))), .t (.sl ((p.sw i k).locks.map (Lock.enc))), .t (.sl ((p.sw i k).threads.map (Thread.enc)))]):=by
 have htl:=hs.threads
 have hcl:=hs.cells
 (refine den_ofY Γ294 rfl ?_; dsimp only [f294])
 simp -dsimp -implicitDefEqProofs only [go_sem,seval]
 refine putA_appU (a:=[]) (by simp -dsimp -implicitDefEqProofs only [go_sem,seval]) rfl (by simp; omega) (by decide) (by simp [Cell.enc]) rfl ?_
 intro kc hp hkc hHc hfr
 rw [List.nil_append] at hHc ⊢
 rw [List.length_map,List.length_map]
 have e0:updC (fun x=>none) 5 (some (O.rows 6 [] false))=hpC (fun x=>none) [(5,O.rows 6 [] false)]:=by rw [hpC_cons,hpC_nil]
 simp -dsimp -implicitDefEqProofs only [go_sem,seval,hHc]
 rw [e0] at hHc hfr ⊢
 generalize hpC (hpC (fun x=>none) [(5,O.rows 6 [] false)]) hp=H0 at hHc hfr ⊢
 clear hfr
 have hkc9:kc<10:=by omega
 clear hkc hp e0
 refine putA_appU (a:=[]) (by simp -dsimp -implicitDefEqProofs only [go_sem,seval]) rfl (by simp; omega) (by decide) (by simp [Thread.enc]) rfl ?_
 intro ko hp hko hHt hfr
 rw [List.nil_append] at hHt ⊢
 rw [List.length_map,List.length_map]
 have e0:updC H0 11 (some (O.rows 7 [] false))=hpC H0 [(11,O.rows 7 [] false)]:=by rw [hpC_cons,hpC_nil]
 rw [e0] at hHt
 have hfr2 : ∀ j,j<11->hpC (hpC H0 [(11,O.rows 7 [] false)]) hp j=H0 j:=fun j hj=>by
  rw [<- e0,hfr j (by omega) (by omega),updC_at,if_neg (by omega)]
 generalize hpC (hpC H0 [(11,O.rows 7 [] false)]) hp=H1 at hHt hfr2 ⊢
 have hko2:11<=ko/\ko<15:=by omega
 clear hfr hko hp e0
 have hHc1:H1 kc=some (.rows 6 (((p.cells.map Cell.enc).map (·.map V.t))) false):=by rw [hfr2 kc (by omega)]; exact hHc
 clear hHc hfr2 H0
 obtain ⟨xi,hxi,_⟩:=get_of hi
 obtain ⟨xk,hxk,_⟩:=get_of hk
 have hki:(ko=kc)=False:=eq_false (by omega)
 have hki2:(kc=ko)=False:=eq_false (by omega)
 have ti1:(i<p.threads.length)=True:=eq_true hi
 have tk1:(k<p.threads.length)=True:=eq_true hk
 have hri:((p.threads.map Thread.enc).map (·.map V.t))[i]? = some [.t (.str xi.name), .t (ti xi.points), .t (.sl (xi.asserts.map Expr.enc)), .t (ints xi.modules), .t (.sl (xi.steps.map Step.enc)), .t (.sl (xi.loops.map Loop.enc)), .t (tb xi.asleep)]:=by rw [List.getElem?_map,List.getElem?_map,hxi]; rfl
 have hrk:(((p.threads.map Thread.enc).map (·.map V.t)).set i [.t (.str xk.name), .t (ti xk.points), .t (.sl (xk.asserts.map Expr.enc)), .t (ints xk.modules), .t (.sl (xk.steps.map Step.enc)), .t (.sl (xk.loops.map Loop.enc)), .t (tb xk.asleep)])[k]? = some [.t (.str xk.name), .t (ti xk.points), .t (.sl (xk.asserts.map Expr.enc)), .t (ints xk.modules), .t (.sl (xk.steps.map Step.enc)), .t (.sl (xk.loops.map Loop.enc)), .t (tb xk.asleep)]:=by
  rw [List.getElem?_set]
  by_cases h:i=k
  ·rw [if_pos h,if_pos (by simp; omega)]
  ·rw [if_neg h,List.getElem?_map,List.getElem?_map,hxk]; rfl
 simp -dsimp -implicitDefEqProofs only [go_sem,seval,hHt,hHc1,hxi,hxk,hri,hrk,hki,hki2,ti1,tk1]
 have hQr:(((p.threads.map Thread.enc).map (·.map V.t)).set i [.t (.str xk.name), .t (ti xk.points), .t (.sl (xk.asserts.map Expr.enc)), .t (ints xk.modules), .t (.sl (xk.steps.map Step.enc)), .t (.sl (xk.loops.map Loop.enc)), .t (tb xk.asleep)]).set k [.t (.str xi.name), .t (ti xi.points), .t (.sl (xi.asserts.map Expr.enc)), .t (ints xi.modules), .t (.sl (xi.steps.map Step.enc)), .t (.sl (xi.loops.map Loop.enc)), .t (tb xi.asleep)]=((swThr i k p.threads).map Thread.enc).map (·.map V.t):=by
  unfold swThr
  rw [List.getD_eq_getElem?_getD,List.getD_eq_getElem?_getD,hxi,hxk]
  simp [List.map_set,Thread.enc]
 rw [hQr]
 obtain ⟨Q,hQ⟩ : ∃ Q,Q=swThr i k p.threads:=⟨_,rfl⟩
 have hQl:Q.length=p.threads.length:=by rw [hQ,swThr_len]
 have hQm : ∀ y∈Q,y∈p.threads:=fun y hy=>by
  obtain ⟨j,hj,he⟩:=List.mem_iff_getElem.1 hy
  have:Q[j]? = some y:=by rw [List.getElem?_eq_getElem hj,he]
  rw [hQ,swThr_get hi hk] at this
  exact List.mem_of_getElem? this
 rw [<- hQ]
 clear hQr hHt
 refine loopYH 4611683819404132608 p.cells.length (fun n f h z=>(f 8).v=vi n/\h kc=some (.rows 6 (((mpN (Cell.sw i k) p.cells n).map Cell.enc).map (·.map V.t)) false)/\h ko=some (.rows 7 ((Q.map Thread.enc).map (·.map V.t)) false)/\15<=z) rfl
  ⟨by simp -dsimp -implicitDefEqProofs only [go_sem,seval],by simp -dsimp -implicitDefEqProofs only [go_sem,seval,hHc1,hki2]; rw [mpN_zero],by simp -dsimp -implicitDefEqProofs only [go_sem,seval],by simp -dsimp -implicitDefEqProofs only [go_sem,seval]⟩ ?_
 clear hHc1
 rintro n f u H q bq hn ⟨h8,hC,hT,hq⟩
 have hw:=wrapS n (by omega)
 simp -dsimp -implicitDefEqProofs only [go_sem,seval,h8]
 by_cases hlt:n<p.cells.length
 ·have hlt1:=eq_true hlt
  obtain ⟨c,hc,_⟩:=get_of hlt
  have hrow:(((mpN (Cell.sw i k) p.cells n).map Cell.enc).map (·.map V.t))[n]? = some [.t (.str c.name), .t (ti c.w), .t (ti c.init), .t (ti c.thread), .t (tb c.ghost), .t (ti c.module)]:=by
   rw [List.getElem?_map,List.getElem?_map,mpN_at hc]; rfl
  have ho:=other_den i k c.thread
  simp -dsimp -implicitDefEqProofs only [go_sem,seval,h8,hlt1,hc,hC,hrow,ho]
  have hfin:(((mpN (Cell.sw i k) p.cells n).map Cell.enc).map (·.map V.t)).set n [.t (.str c.name), .t (ti c.w), .t (ti c.init), .t (ti (sg i k c.thread)), .t (tb c.ghost), .t (ti c.module)]=((mpN (Cell.sw i k) p.cells (n+1)).map Cell.enc).map (·.map V.t):=by
   rw [mpN_succ hc]
   simp [List.map_set,Cell.enc,Cell.sw]
  refine ⟨hlt,by simp -dsimp -implicitDefEqProofs only [go_sem,seval,hw],by simp -dsimp -implicitDefEqProofs only [go_sem,seval,hfin],by simp -dsimp -implicitDefEqProofs only [go_sem,seval,hT,hki],by simp -dsimp -implicitDefEqProofs only [go_sem,seval]⟩
 have hne:n=p.cells.length:=by omega
 have hlt1:=eq_false hlt
 rw [hne,mpN_end] at hC
 simp -dsimp -implicitDefEqProofs only [go_sem,seval,h8,hlt1]
 clear h8 hw hlt hlt1 hn
 refine loopYH 41538374868278616416557952206376448 p.threads.length (fun t f h z=>(f 9).v=vi t/\(∃ rows,SwThr (Step.sw i k) Q h z ko kc t rows)/\h kc=some (.rows 6 (((p.cells.map (Cell.sw i k)).map Cell.enc).map (·.map V.t)) false)/\kc<z) rfl
  ⟨by simp -dsimp -implicitDefEqProofs only [go_sem,seval],⟨(Q.map Thread.enc).map (·.map V.t),by simp -dsimp -implicitDefEqProofs only [go_sem,seval,hT],by simp -dsimp -implicitDefEqProofs only [go_sem,seval]; omega,by simp,fun j y hy=>⟨_,by simp [hy], .inr ⟨by omega,rfl⟩⟩⟩,by simp -dsimp -implicitDefEqProofs only [go_sem,seval,hC],by simp -dsimp -implicitDefEqProofs only [go_sem,seval]; omega⟩ ?_
 clear hC hT hne
 rintro t f1 u1 H2 q1 bq1 ht ⟨h9,⟨rows,hR⟩,hC,hkq⟩
 have hw:=wrapS t (by omega)
 have hrl:=hR.len
 have hk0:=hR.at_
 have hkl:=hR.lt
 simp -dsimp -implicitDefEqProofs only [go_sem,seval,h9,hk0]
 by_cases h:t<p.threads.length
 ·have htr:=eq_true h
  have hqt:t<Q.length:=by omega
  obtain ⟨x,hx,hxm0⟩:=get_of hqt
  have hxm:=hQm x hxm0
  have hxs:=(hs.thr x hxm).2.2.1
  obtain ⟨r,hr,har⟩:=hR.row t x hx
  have hr2:r=[.t (.str x.name), .t (ti x.points), .t (.sl (x.asserts.map Expr.enc)), .t (ints x.modules), .t (.sl (x.steps.map Step.enc)), .t (.sl (x.loops.map Loop.enc)), .t (tb x.asleep)]:=by
   rcases har with ⟨h,_⟩ | ⟨_,h⟩
   ·omega
   ·exact h
  subst hr2
  have hkz:(ko=q1+5+0)=False:=eq_false (by omega)
  simp -dsimp -implicitDefEqProofs only [go_sem,seval,h9,hk0,htr,hkz,hr]
  have hall:((stRows x.steps).all fun r=>decide (r.length=11))=true:=by simp [stRows,Step.enc,Expr.enc_eq]
  refine putA_appU (a:=[]) (by simp -dsimp -implicitDefEqProofs only [go_sem,seval]) rfl (by simp; omega) (by decide) hall rfl ?_
  intro k1 hp hk1 hH hfr
  rw [List.nil_append] at hH ⊢
  have e1:(List.map (fun x=>List.map V.t x) (List.map Step.enc x.steps))=stRows x.steps:=rfl
  rw [e1] at hH ⊢
  have e0:updC H2 (q1+5+0) (some (O.rows 11 [] false))=hpC H2 [(q1+5+0,O.rows 11 [] false)]:=by rw [hpC_cons,hpC_nil]
  have hfr2 : ∀ j,j<q1->hpC (hpC H2 [(q1+5+0,O.rows 11 [] false)]) hp j=H2 j:=fun j hj=>by
   rw [<- e0,hfr j (by omega) (by omega),updC_at,if_neg (by omega)]
  rw [e0] at hH
  clear hfr
  generalize hpC (hpC H2 [(q1+5+0,O.rows 11 [] false)]) hp=H3 at hH hfr2 ⊢
  have hk1q:q1<=k1/\k1<q1+13:=by omega
  have hne:(ko=k1)=False:=eq_false (by omega)
  have hne2:(k1=ko)=False:=eq_false (by omega)
  have hne3:k1≠kc:=by omega
  clear hk1 e0
  rw [stRows_len]
  simp -dsimp -implicitDefEqProofs only [go_sem,seval]
  refine loopYH 649037107165737726114483394316288 x.steps.length (fun n f h z=>(f 11).v=vi n/\h k1=some (.rows 11 (stRows (mpN (Step.sw i k) x.steps n)) false)/\(∀ j,j<q1->h j=H2 j)/\q1+13<=z) rfl
   ⟨by simp -dsimp -implicitDefEqProofs only [go_sem,seval],by rw [mpN_zero]; exact hH,hfr2,by simp -dsimp -implicitDefEqProofs only [go_sem,seval]; omega⟩ ?_
  clear hH hfr2
  rintro n g u2 H4 q2 bq2 hn ⟨h11,hs1,hlow,hq2⟩
  have hwn:=wrapS n (by omega)
  simp -dsimp -implicitDefEqProofs only [go_sem,seval,h11,hs1]
  by_cases hnl:n<x.steps.length
  ·have hn1:=eq_true hnl
   obtain ⟨s,hsn,hsm⟩:=get_of hnl
   have hrow:(stRows (mpN (Step.sw i k) x.steps n))[n]? = some [.t (ti s.kind), .t (ti s.fr), .t (ti s.to), .t (ti s.guard.op), .t (ti s.guard.w), .t (ti s.guard.n), .t (.sl (s.guard.kids.map Expr.enc)), .t (.sl (s.set.map Assign.enc)), .t (tb s.release), .t (ti s.target), .t (ti s.module)]:=by
    rw [stRows_at (mpN_at hsn)]; simp [Step.enc,Expr.enc_eq]
   have ho:=other_den i k s.target
   have hj : ∀ j,j<q1->j≠k1:=fun j hj=>by omega
   have hput : ∀ T:Int,(Step.sw i k s) = { s with target:=T } -> (stRows (mpN (Step.sw i k) x.steps n)).set n [.t (ti s.kind), .t (ti s.fr), .t (ti s.to), .t (ti s.guard.op), .t (ti s.guard.w), .t (ti s.guard.n), .t (.sl (s.guard.kids.map Expr.enc)), .t (.sl (s.set.map Assign.enc)), .t (tb s.release), .t (ti T), .t (ti s.module)]=stRows (mpN (Step.sw i k) x.steps (n+1)):=fun T hT=>by
    rw [mpN_succ hsn,stRows_set,hT]
    simp [Step.enc,Expr.enc_eq]
   by_cases h67:s.kind=6\/s.kind=7
   ·have hfin:=hput (sg i k s.target) (by unfold Step.sw; rw [if_pos h67])
    rcases h67 with h6 | h7
    ·simp -dsimp -implicitDefEqProofs only [go_sem,seval,h11,hs1,hn1,hrow,h6,ho]
     rw [h6] at hfin
     refine ⟨hnl,by simp -dsimp -implicitDefEqProofs only [go_sem,seval,hwn],by simp -dsimp -implicitDefEqProofs only [go_sem,seval,hfin],fun j hj2 => ?_,by simp -dsimp -implicitDefEqProofs only [go_sem,seval]; omega⟩
     have hj1:=eq_false (hj j hj2)
     have:=hlow j hj2
     simp -dsimp -implicitDefEqProofs only [go_sem,seval,hj1,this]
    ·simp -dsimp -implicitDefEqProofs only [go_sem,seval,h11,hs1,hn1,hrow,h7,ho]
     rw [h7] at hfin
     refine ⟨hnl,by simp -dsimp -implicitDefEqProofs only [go_sem,seval,hwn],by simp -dsimp -implicitDefEqProofs only [go_sem,seval,hfin],fun j hj2 => ?_,by simp -dsimp -implicitDefEqProofs only [go_sem,seval]; omega⟩
     have hj1:=eq_false (hj j hj2)
     have:=hlow j hj2
     simp -dsimp -implicitDefEqProofs only [go_sem,seval,hj1,this]
   ·have h6 : ¬ s.kind=6:=fun h=>h67 (.inl h)
    have h7 : ¬ s.kind=7:=fun h=>h67 (.inr h)
    simp -dsimp -implicitDefEqProofs only [go_sem,seval,h11,hs1,hn1,hrow,h6,h7]
    refine ⟨hnl,by simp -dsimp -implicitDefEqProofs only [go_sem,seval,hwn],by rw [mpN_same hsn (by unfold Step.sw; rw [if_neg h67])]; simp -dsimp -implicitDefEqProofs only [go_sem,seval,hs1],fun j hj2 => ?_,by simp -dsimp -implicitDefEqProofs only [go_sem,seval]; omega⟩
    have:=hlow j hj2
    simp -dsimp -implicitDefEqProofs only [go_sem,seval,this]
  ·have hne4:n=x.steps.length:=by omega
   have hn1:=eq_false hnl
   rw [hne4,mpN_end] at hs1
   have hk2:H4 ko=some (.rows 7 rows false):=by rw [hlow ko hkl]; exact hk0
   simp -dsimp -implicitDefEqProofs only [go_sem,seval,h11,hn1,hk2,hr,h9,htr,hne]
   have hget : ∀ j,(rows.set t [.t (.str x.name), .t (ti x.points), .t (.sl (x.asserts.map Expr.enc)), .t (ints x.modules), .ms k1 0 x.steps.length, .t (.sl (x.loops.map Loop.enc)), .t (tb x.asleep)])[j]? = if t=j then some [.t (.str x.name), .t (ti x.points), .t (.sl (x.asserts.map Expr.enc)), .t (ints x.modules), .ms k1 0 x.steps.length, .t (.sl (x.loops.map Loop.enc)), .t (tb x.asleep)] else rows[j]? := fun j=>by
    rw [List.getElem?_set]
    by_cases h1:t=j
    ·rw [if_pos h1,if_pos h1,if_pos (by omega)]
    ·rw [if_neg h1,if_neg h1]
   obtain ⟨R1,hR1⟩ : ∃ R1,R1=rows.set t [.t (.str x.name), .t (ti x.points), .t (.sl (x.asserts.map Expr.enc)), .t (ints x.modules), .ms k1 0 x.steps.length, .t (.sl (x.loops.map Loop.enc)), .t (tb x.asleep)]:=⟨_,rfl⟩
   rw [<- hR1] at hget ⊢
   have hRl:R1.length=Q.length:=by rw [hR1,List.length_set]; exact hrl
   have hC2:H4 kc=some (.rows 6 (((p.cells.map (Cell.sw i k)).map Cell.enc).map (·.map V.t)) false):=by rw [hlow kc hkq]; exact hC
   refine ⟨h,by simp -dsimp -implicitDefEqProofs only [go_sem,seval,hw],⟨R1,by simp -dsimp -implicitDefEqProofs only [go_sem,seval],by simp -dsimp -implicitDefEqProofs only [go_sem,seval]; omega,hRl,fun j y hy => ?_⟩,by simp -dsimp -implicitDefEqProofs only [go_sem,seval,hC2,hki2],by simp -dsimp -implicitDefEqProofs only [go_sem,seval]; omega⟩
   by_cases hjt:t=j
   ·subst hjt
    rw [hx] at hy; cases hy
    refine ⟨_,by rw [hget,if_pos rfl], .inl ⟨by omega,k1,rfl,by simp -dsimp -implicitDefEqProofs only [go_sem,seval]; omega,by omega,hne3,by simp -dsimp -implicitDefEqProofs only [go_sem,seval,hs1,hne2]⟩⟩
   ·obtain ⟨r,hr',hra⟩:=hR.row j y hy
    refine ⟨r,by rw [hget,if_neg hjt]; exact hr', ?_⟩
    rcases hra with ⟨h1,k2,h2,h3,h4,h4',h5⟩ | ⟨h1,h2⟩
    ·refine .inl ⟨by omega,k2,h2,by simp -dsimp -implicitDefEqProofs only [go_sem,seval]; omega,h4,h4', ?_⟩
     have:=(hlow k2 h3).trans h5
     have h6:=eq_false h4
     simp -dsimp -implicitDefEqProofs only [go_sem,seval,this,h6]
    ·exact .inr ⟨by omega,h2⟩
 ·have hte:t=p.threads.length:=by omega
  have htr:=eq_false h
  have eT:(p.sw i k).threads=Q.map (Thread.sw i k):=by rw [hQ]; rfl
  have eC:(p.sw i k).cells=p.cells.map (Cell.sw i k):=rfl
  have tq:toT H2 1000 (.ms ko 0 p.threads.length)=some (.sl ((Q.map (Thread.sw i k)).map Thread.enc)):=by
   refine toT_ms (r:=rows) hR.at_ (by unfold rd; rw [if_pos (by omega),List.drop_zero,List.take_of_length_le (by omega)]) ?_
   refine mapM_some_of _ _ _ (fun j r hr => ?_) (by simp [hrl])
   have hj:j<Q.length:=by have:=(List.getElem?_eq_some_iff.1 hr).1; omega
   obtain ⟨y,hy,_⟩:=get_of hj
   obtain ⟨r',h1,h2⟩:=hR.row j y hy
   rw [hr] at h1; cases h1
   rw [List.getElem?_map,List.getElem?_map,hy]
   rcases h2 with ⟨h3,k2,rfl,h5,h6,h6',h7⟩ | ⟨h3,_⟩
   ·refine ⟨_,rfl, ?_⟩
    have tk:toT H2 999 (.ms k2 0 y.steps.length)=some (.sl ((y.steps.map (Step.sw i k)).map Step.enc)):=own_rows Step.enc (fun s t ht=>by
     simp only [Step.enc,Expr.enc_eq,List.cons_append,List.nil_append,List.mem_cons,List.not_mem_nil,or_false] at ht
     rcases ht with rfl | rfl | rfl | rfl | rfl | rfl | rfl | rfl | rfl | rfl | rfl <;> rfl) (y.steps.map (Step.sw i k)) h7 (by simp)
    simp [toT_t,T.norm,tk,Thread.enc,Thread.sw]
   ·omega
  have tc:toT H2 1000 (.ms kc 0 p.cells.length)=some (.sl ((p.cells.map (Cell.sw i k)).map Cell.enc)):=own_rows Cell.enc (fun c t ht=>by
   simp only [Cell.enc,List.mem_cons,List.not_mem_nil,or_false] at ht
   rcases ht with rfl | rfl | rfl | rfl | rfl | rfl <;> rfl) (p.cells.map (Cell.sw i k)) hC (by simp)
  have e2:(p.sw i k).modules=p.modules:=rfl
  have e3:(p.sw i k).locks=p.locks:=rfl
  rw [eC,eT,e2,e3]
  simp -dsimp -implicitDefEqProofs only [go_sem,seval,h9,htr, ↓tq, ↓tc]
set_option maxHeartbeats 2000000
theorem lawOrder30_den (p:Prog) (hs:p.sane) (hl:p.lite7) (ra rb:Int) (hra:0<=ra/\ra<256) (hrb:0<=rb/\rb<256) (model:Int):Den Γ G 285 [(.agg [.t (.sl ((p).cells.map (Cell.enc))), .t (.sl ((p).modules.map (Contract.enc))), .t (.sl ((p).locks.map (Lock.enc))), .t (.sl ((p).threads.map (Thread.enc)))]), .t (.int .u8 ra), .t (.int .u8 rb),vi model]=some (vb true):=by
 have h0:=head30_den
 have h1:=fits_den p
 have hv:=validP7_den p hs
 (refine den_ofY Γ285 rfl ?_; dsimp only [f285])
 cases hf:fits30 p
 ·rw [hf] at h1
  simp -dsimp -implicitDefEqProofs only [go_sem,seval,h0,h1,hv]
 ·rw [hf] at h1
  by_cases hok:(validM p).1=0
  ·have hS:=fits_small hf
   have htl:=hS.threads
   have hset:=small_set hS
   have hz0:((p.threads.length:Int)=0)=(p.threads.length=0):=by simp
   by_cases hn:p.threads.length=0
   ·simp -dsimp -implicitDefEqProofs only [go_sem,seval,h0,h1,hv,hok,hz0,hn]
   ·have hn' := eq_false hn
    have key : ∀ raw:Int,0<=raw/\raw<256 -> ∃ i:Nat,raw.tmod (p.threads.length:Int)=i/\i<p.threads.length:=fun raw hraw=>by
     refine ⟨(raw.tmod p.threads.length).toNat, ?_, ?_⟩
     ·rw [Int.tmod_eq_emod_of_nonneg hraw.1]; have:=Int.emod_nonneg raw (show (p.threads.length:Int)≠0 by omega); omega
     ·rw [Int.tmod_eq_emod_of_nonneg hraw.1]; have:=Int.emod_lt_of_pos raw (show (0:Int)<p.threads.length by omega); have:=Int.emod_nonneg raw (show (p.threads.length:Int)≠0 by omega); omega
    obtain ⟨i,hi,hil⟩:=key ra hra
    obtain ⟨k,hk,hkl⟩:=key rb hrb
    have hwa:IntKind.i64.wrap ra=ra:=wrap64 (by omega)
    have hwb:IntKind.i64.wrap rb=rb:=wrap64 (by omega)
    have hsw:=swap_den p hS i k hil hkl
    have hSq:=sw_small hil hkl hS
    have hlq:=sw_lite hil hkl hl
    have hokq:=sw_ok hil hkl hok
    have c1:=cycle_den p hs hset model
    have c2:=cycle_den (p.sw i k) (hSq.sane hlq) (small_set hSq) model
    have d1:=delays_den p hs hset model
    have d2:=delays_den (p.sw i k) (hSq.sane hlq) (small_set hSq) model
    have r1:=robust_den p hs hset model
    have r2:=robust_den (p.sw i k) (hSq.sane hlq) (small_set hSq) model
    have e1:=cyc_sw hil hkl hok model
    have e2:=delays_sw hil hkl hok model
    rw [rob_sw hil hkl hok] at r2
    have e3:(cycleM (p.sw i k) model).isSome=(cycleM p model).isSome:=by
     have:=congrArg Option.isSome e1
     simpa using this
    have e4:((cycleM (p.sw i k) model).getD []).length=((cycleM p model).getD []).length:=by
     cases h1:cycleM (p.sw i k) model <;> cases h2:cycleM p model <;> rw [h1,h2] at e1 <;> simp at e1 ⊢
     exact e1
    rw [e3] at c2
    generalize p.sw i k=Q at *
    have f1:((((cycleM p model).getD []).length:Int)=((cycleM Q model).getD []).length)=True:=eq_true (by omega)
    have f2:(((delaysM p model).length:Int)=(delaysM Q model).length)=True:=eq_true (by omega)
    have f3 : ∀ b:Bool,(b==b)=true:=by decide
    simp -dsimp -implicitDefEqProofs only [go_sem,seval,h0,h1,hv,hok,hz0,hn',hwa,hwb,hi,hk,hsw,c1,c2,d1,d2,r1,r2,f1,f2,f3,Bool.bne_false]
  ·simp -dsimp -implicitDefEqProofs only [go_sem,seval,h0,h1,hv,hok]
end Rg
end
