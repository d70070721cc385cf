/- Part of the proof of the laws of the package relyguardlaw30: an abstract machine for the program's functions, what they compute, and that the machine is the program's. No condition. (H43d H43e H43f H44a H44b) -/
import Derived.Test.YtcgkpboneipghaaGreatDoorPartBC
import Derived.Test.YtcgkpboneipghaaGreatDoorPartAZ
set_option linter.unusedSimpArgs false
set_option linter.unusedVariables false
section
namespace Rg
open Go
theorem grM_ask {p:Prog} (hp:p.ok) (model:Int):AskT (p.cells.map Cell.enc) (p.modules.map Contract.enc) (p.locks.map Lock.enc) (p.threads.map Thread.enc) model (grM p model):=by
 obtain ⟨⟨l1,l2,l3,l4⟩,l5⟩:=limits_iff.1 (ok_iff.1 hp).lim
 have hal:(accsM p).length<2^20:=by
  have:=accsN_len p l1 (fun x hx=>(l5 x hx).2.1) _ (Nat.le_refl _)
  unfold accsM; omega
 refine ⟨grM_ok hp model,l4,by simp [grM],by simpa using l1,by simp [grM],hal,fun i hi => ?_,fun i hi => ?_⟩
 ·have hma:(grM p model).ac i∈accsM p:=Gr.ac_mem (g:=grM p model) hi
  obtain ⟨x,s,hx1,hx2,_⟩:=mem_accs.1 hma
  have hear:(grM p model).ear ((grM p model).ac i)=(((grM p model).ac i).wr&&decide (s.kind=3)):=by show (_&&decide ((p.stepAt _ _).kind=3))=_; rw [stepAt_of hx1 hx2]
  rw [hear]
  exact gearly_den _ _ _ (p.threads.map Thread.enc) (x.steps.map Step.enc) _ _ _ _ _ _ _ _ _ _ _ _ _ _ _ _ _ s.kind _ _ _ _ (by rw [List.getElem?_map,hx1]; rfl) (by rw [List.getElem?_map,hx2,Option.map_some,Step.enc,Expr.enc_eq]; rfl)
 ·have hma:(grM p model).ac i∈accsM p:=Gr.ac_mem (g:=grM p model) hi
  obtain ⟨x,s,hx1,hx2,_⟩:=mem_accs.1 hma
  have hlat:(grM p model).lat ((grM p model).ac i)=lateM model s.kind s.release ((grM p model).ac i).wr:=by show lateM model (p.stepAt _ _).kind (p.stepAt _ _).release _=_; rw [stepAt_of hx1 hx2]
  rw [hlat]
  exact glate_den _ _ _ (p.threads.map Thread.enc) (x.steps.map Step.enc) _ _ _ _ _ _ _ _ _ _ _ _ _ _ _ _ s.kind model s.release _ _ _ _ (by rw [List.getElem?_map,hx1]; rfl) (by rw [List.getElem?_map,hx2,Option.map_some,Step.enc,Expr.enc_eq]; rfl)
theorem denS_nl (d:Bool) (h:Nat->Option O) (vs:List V) (K:V->(Nat->Option O)->Prop) (w:WK K):denS (some (.t (.sl []))) d h vs K w=K (.t (.sl [])) h:=by
 simp [denS,V.scalar,V.scalar2,V.scalar1,T.scalar]
theorem GrB.frzK {H:Nat->Option O} {kG kM kn:Nat} {cv:V} {p:Prog} {model:Int} {g:Gr} {f1 f2:Bool} (b:GrB H kG kM kn cv p model g f1 f2) {es:List (T×V)} {vs:List V} {r:V} {K:V->(Nat->Option O)->Prop}
 (hk : ∀ H' f1' f2',GrB H' kG kM kn cv p model g f1' f2' -> K r (HM H' kn es)):Rg.frzK (HM H kn es) vs r K:=by
 obtain ⟨H',f1',f2',h1,b'⟩:=b.frz es (vs.flatMap (reach1 (HM H kn es)))
 unfold Rg.frzK
 rw [h1]
 exact hk _ _ _ b'
def shortV:Option Nat->V
 | none => .tup [vi 0,vb false]
 | some r => .tup [vi r,vb true]
set_option maxHeartbeats 2000000
theorem shortest_den {H:Nat->Option O} {kG kM kn:Nat} {cv:V} {p:Prog} {model:Int} {g:Gr} {f1 f2:Bool} (b:GrB H kG kM kn cv p model g f1 f2)
 (ha:AskT (p.cells.map Cell.enc) (p.modules.map Contract.enc) (p.locks.map Lock.enc) (p.threads.map Thread.enc) model g) (es:List (T×V)) (hes:MemoOk g es) (n:Nat) :
 ∃ rr h' n',DenR Γ G 301 [.mp kG 0 0] (HM H kn es) n=some (rr,h',n')/\rr=shortV g.shortest /\ ∃ H' f1' f2' es',GrB H' kG kM kn cv p model g f1' f2' /\ MemoOk g es' /\ h' = HM H' kn es' := by
 have hpd:=pairs_den ha
 have hT:=b.tree es
 have hpl:=fun c d=>(Gr.mem_pairs (g:=g) (c:=c) (d:=d)).1
 (refine denR_ofY Γ301 rfl ?_; dsimp only [f301])
 cases hp:g.pairs with
 | nil =>
   have hsn:g.shortest=none:=by
    rw [Gr.shortest_none]
    intro r _ _
    unfold Gr.atRest
    rw [hp]; rfl
   rw [hp] at hpd
   have hpd2:Den Γ G 314 [.t (grT (p.cells.map Cell.enc) (p.modules.map Contract.enc) (p.locks.map Lock.enc) (p.threads.map Thread.enc) model g)]=some (.t (.sl [])):=hpd
   simp -dsimp -implicitDefEqProofs only [go_sem,seval, ↓hT,hpd2,denS_nl]
   exact ⟨by rw [hsn]; rfl,H,f1,f2,es,b,hes,rfl⟩
 | cons x l =>
   rw [hp] at hpd
   have hpd2:Den Γ G 314 [.t (grT (p.cells.map Cell.enc) (p.modules.map Contract.enc) (p.locks.map Lock.enc) (p.threads.map Thread.enc) model g)]=some (.t (.sl (pairT x::l.map pairT))):=hpd
   simp -dsimp -implicitDefEqProofs only [go_sem,seval, ↓hT,hpd2,denS_frz]
   refine b.frzK fun H1 e1 e2 b1 => ?_
   rw [show pairT x::l.map pairT=(x::l).map pairT from rfl, <- hp]
   have hne:(((g.pairs.length:Nat):Int)=0)=False:=by rw [hp]; simp; omega
   have hN:g.nt<=4:=b.nt4
   have hnt:=b.nt
   simp -dsimp -implicitDefEqProofs only [go_sem,seval,hne]
   have hsh:g.shortest=(((List.range (2*(g.nt-1))).map (· + 1)).drop 0).find? g.atRest:=rfl
   have hm1:IntKind.i64.wrap ((p.threads.length:Int)-1)=(p.threads.length:Int)-1:=wrap64 (by omega)
   have hm2:IntKind.i64.wrap (2*((p.threads.length:Int)-1))=2*((p.threads.length:Int)-1):=wrap64 (by omega)
   have hmp : ∀ x∈g.pairs,x.1<g.msk.length/\x.2<g.msk.length:=by
    rintro ⟨c,d⟩ hx
    have:=hpl c d hx
    exact ⟨this.1,this.2.1⟩
   refine loopYH 35184372080812 (2*(g.nt-1)) (fun i f h x=>(f 5).v=vi ((i+1:Nat):Int)/\(∃ es,MemoOk g es/\h=HM H1 kn es)/\g.shortest=(((List.range (2*(g.nt-1))).map (· + 1)).drop i).find? g.atRest) rfl ⟨by simp -dsimp -implicitDefEqProofs only [go_sem,seval],⟨es,hes,rfl⟩,hsh⟩ ?_
   clear hT b hpd hpd2 hsh hes
   rintro i f u h z bs hi ⟨h5,⟨es1,hes1,rfl⟩,hfi⟩
   have hG:=b1.rowM es1
   have hw:=wrapS (i+1) (by omega)
   simp -dsimp -implicitDefEqProofs only [go_sem,seval,h5,hG,hm1,hm2]
   refine csplit (fun h => ?_) (fun h => ?_) <;> (try rw [h]) <;> (try simp only [bools] at h) <;> (try simp -dsimp -implicitDefEqProofs only [go_sem,seval,h5])
   ·have hi2:i<2*(g.nt-1):=by omega
    have hri:((List.range (2*(g.nt-1))).map (· + 1))[i]? = some (i+1):=by rw [List.getElem?_map,List.getElem?_range hi2]; rfl
    refine loopYH 35184237871244 g.pairs.length (fun j f h x=>(f 27).v=vi j/\(∃ es,MemoOk g es/\h=HM H1 kn es)/\g.atRest (i+1)=(g.pairs.drop j).any fun x=>g.ends (i+1) x.1 x.2 (1 <<< g.thr x.2)) rfl ⟨by simp -dsimp -implicitDefEqProofs only [go_sem,seval],⟨es1,hes1,rfl⟩,rfl⟩ ?_
    clear hG hes1
    rintro j f2 u2 h2 z2 bs2 hj ⟨h27,⟨es2,hes2,rfl⟩,hany⟩
    have hw2:=wrapS j (by have:g.pairs.length<2^20:=by
                           have h1:=Gr.pairsN_len (g:=g) g.msk.length
                           have h2:=b1.szL
                           have h3:g.msk.length*g.msk.length<=288*288:=Nat.mul_le_mul (by omega) (by omega)
                           rw [Gr.pairsN_all] at h1
                           omega
                          omega)
    simp -dsimp -implicitDefEqProofs only [go_sem,seval,h27]
    refine csplit (fun h => ?_) (fun h => ?_) <;> (try rw [h]) <;> (try simp only [bools] at h) <;> (try simp -dsimp -implicitDefEqProofs only [go_sem,seval,h27])
    ·obtain ⟨⟨c,d⟩,hx,hxm⟩:=get_of ‹j<g.pairs.length›
     obtain ⟨hc,hd⟩:=hmp _ hxm
     simp only at hc hd
     have hT:=b1.tree es2
     have htd:=b1.thr_den hd
     have hth:=b1.thr_lt hd
     have hsl:=i_shl (i:=g.thr d) (by omega)
     simp -dsimp -implicitDefEqProofs only [go_sem,seval,h27,hx, ↓hT,htd,hsl,pairT,h5]
     refine rawK_of (ends_all b1 (i+1) (by omega) c d (1 <<< g.thr d) es2 _ hc hd (by have:=mask_lt (m:=0) (by omega) hth; rw [Nat.zero_or] at this; exact this) hes2) ?_
     rintro _ h' n' ⟨rfl,es3,hes3,rfl⟩
     simp -dsimp -implicitDefEqProofs only [go_sem,seval,h5]
     cases hen:g.ends (i+1) c d (1 <<< g.thr d)
     ·simp -dsimp -implicitDefEqProofs only [go_sem,seval,h27]
      exact ⟨by omega,by simp -dsimp -implicitDefEqProofs only [go_sem,seval,h27,hw2],⟨es3,hes3,rfl⟩,by rw [hany,any_step hx (by simpa using hen)]⟩
     ·simp -dsimp -implicitDefEqProofs only [go_sem,seval,h5]
      rw [any_stop hx (by simpa using hen)] at hany
      rw [drop_of hri,List.find?_cons_of_pos hany] at hfi
      exact ⟨by rw [hfi]; rfl,H1,e1,e2,es3,b1,hes3,rfl⟩
    ·have hjn:j=g.pairs.length:=by omega
     subst hjn
     rw [any_end] at hany
     rw [drop_of hri,List.find?_cons_of_neg (by rw [hany]; simp)] at hfi
     simp -dsimp -implicitDefEqProofs only [go_sem,seval,h5]
     exact ⟨by omega,by simp -dsimp -implicitDefEqProofs only [go_sem,seval,hw],⟨es2,hes2,rfl⟩,hfi⟩
   ·have hin:i=2*(g.nt-1):=by omega
    subst hin
    rw [List.drop_of_length_le (by simp),List.find?_nil] at hfi
    exact ⟨by rw [hfi]; rfl,H1,e1,e2,es1,b1,hes1,rfl⟩
end Rg
end
section
namespace Rg
open Go
theorem GrObj.grB {H:Nat->Option O} {n kG:Nat} {p:Prog} {model:Int} (hp:p.ok) (h:GrObj H n kG p model (grM p model)) : ∃ kM kn cv,GrB H kG kM kn cv p model (grM p model) false false/\H=HM H kn []:=by
 obtain ⟨cv,kM,kn,h1,h2,h3,h4,_,_,_⟩:=h.ex
 obtain ⟨⟨l1,l2,l3,l4⟩,l5⟩:=limits_iff.1 (ok_iff.1 hp).lim
 refine ⟨kM,kn,cv,⟨h1, ?_,h3, ?_, ?_,h2.offM h4,grM_ok hp model,l4,rfl,l1,rfl⟩, ?_⟩
 ·refine OwnB.shw (es:=(grM p model).cls.map fun c:Nat=>[ti c]) (x:=n) ?_
  have e:rowsI ((grM p model).cls.map fun c:Nat=>(c:Int))=((grM p model).cls.map fun c:Nat=>[ti c]).map (·.map V.t):=by simp only [rowsI,List.map_map]; rfl
  rw [<- e]; exact h2
 ·rintro rfl; rw [h1] at h4; cases h4
 ·rintro rfl; rw [h3] at h4; cases h4
 ·funext k
  by_cases hk:k=kn
  ·subst hk; rw [HM_at,h4]
  ·rw [HM_ne _ _ hk]
theorem valid30_den (p:Prog) (hs:p.sane):Den Γ G 299 [(.agg [.t (.sl ((p).cells.map (Cell.enc))), .t (.sl ((p).modules.map (Contract.enc))), .t (.sl ((p).locks.map (Lock.enc))), .t (.sl ((p).threads.map (Thread.enc)))])]=some (vb (validB p)):=by
 have hv:=validP7_den p hs
 (refine den_ofY Γ299 rfl ?_; dsimp only [f299])
 simp -dsimp -implicitDefEqProofs only [go_sem,seval,hv]
 rfl
theorem accesses_den (p:Prog) (hs:p.sane) (hset : ∀ x∈p.threads, ∀ s∈x.steps,s.set.length<2^20):Den Γ G 293 [(.agg [.t (.sl ((p).cells.map (Cell.enc))), .t (.sl ((p).modules.map (Contract.enc))), .t (.sl ((p).locks.map (Lock.enc))), .t (.sl ((p).threads.map (Thread.enc)))])]=some (.t (.sl ((accessesM p).map Acc.enc))):=by
 have hv:=valid30_den p hs
 (refine den_ofY Γ293 rfl ?_; dsimp only [f293])
 simp -dsimp -implicitDefEqProofs only [go_sem,seval,hv]
 unfold accessesM
 cases h:validB p
 ·simp -dsimp -implicitDefEqProofs only [go_sem,seval]
 ·have hp:p.ok:=by simpa [validB] using h
  have ha:=accs_den p hp hset
  simp -dsimp -implicitDefEqProofs only [go_sem,seval,ha]
theorem robust_den (p:Prog) (hs:p.sane) (hset : ∀ x∈p.threads, ∀ s∈x.steps,s.set.length<2^20) (model:Int):Den Γ G 289 [(.agg [.t (.sl ((p).cells.map (Cell.enc))), .t (.sl ((p).modules.map (Contract.enc))), .t (.sl ((p).locks.map (Lock.enc))), .t (.sl ((p).threads.map (Thread.enc)))]),vi model]=some (vb (robM p model)):=by
 have hv:=valid30_den p hs
 (refine den_ofY Γ289 rfl ?_; dsimp only [f289])
 simp -dsimp -implicitDefEqProofs only [go_sem,seval,hv]
 unfold robM
 cases h:validB p
 ·simp -dsimp -implicitDefEqProofs only [go_sem,seval]
  rfl
 ·have hp:p.ok:=by simpa [validB] using h
  simp -dsimp -implicitDefEqProofs only [go_sem,seval]
  refine rawK_of (build_den p hp hset model _ _) ?_
  rintro _ h1 n1 ⟨kG,rfl,hg⟩
  obtain ⟨kM,kn,cv,b,hH⟩:=hg.grB hp
  simp -dsimp -implicitDefEqProofs only [go_sem,seval]
  rw [hH]
  refine rawK_of (shortest_den b (grM_ask hp model) [] (fun e he=>by cases he) _) ?_
  rintro _ h2 n2 ⟨rfl,H',f1',f2',es',b',hes',rfl⟩
  cases hsn:(grM p model).shortest with
  | none =>
    simp -dsimp -implicitDefEqProofs only [go_sem,seval,shortV]
    rfl
  | some r =>
    simp -dsimp -implicitDefEqProofs only [go_sem,seval,shortV]
    rfl
end Rg
end
section
namespace Rg
open Go
def dlT (x:Acc×Acc):List T:=x.1.enc++x.2.enc
def rowsD (l:List (Acc×Acc)):List (List V):=(l.map dlT).map (·.map V.t)
theorem rowsD_len (l:List (Acc×Acc)):(rowsD l).length=l.length:=by simp [rowsD]
theorem rowsD_all (l:List (Acc×Acc)):((rowsD l).all fun r=>decide (r.length=8))=true:=by simp [rowsD,dlT,Acc.enc]
theorem rowsD_snoc (l:List (Acc×Acc)) (a b:Acc):rowsD l++[[vi a.th,vi a.st,vi a.ce,vb a.wr,vi b.th,vi b.st,vi b.ce,vb b.wr]]=rowsD (l++[(a,b)]):=by simp [rowsD,dlT,Acc.enc]
theorem dl_norm (l:List (Acc×Acc)) : ∀ e∈l.map dlT, ∀ t∈e,T.norm t=t:=by
 intro e he t ht
 obtain ⟨x,_,rfl⟩:=List.mem_map.1 he
 simp only [dlT,Acc.enc,List.mem_append,List.mem_cons,List.not_mem_nil,or_false] at ht
 rcases ht with (rfl | rfl | rfl | rfl) | (rfl | rfl | rfl | rfl) <;> rfl
namespace Gr
variable {g:Gr}
def delaysI (g:Gr) (a j:Nat):List (Acc×Acc):=((List.range j).filter fun b=>g.delay a b).map fun b=>(g.ac a,g.ac b)
def delaysN (g:Gr) (i:Nat):List (Acc×Acc):=(List.range i).flatMap fun a=>g.delaysI a g.all.length
theorem delaysI_succ (a j:Nat):g.delaysI a (j+1)=g.delaysI a j++if g.delay a j then [(g.ac a,g.ac j)] else []:=by
 unfold delaysI
 rw [List.range_succ,List.filter_append,List.map_append]
 cases h:g.delay a j <;> simp [h]
theorem delaysN_succ (i:Nat):g.delaysN (i+1)=g.delaysN i++g.delaysI i g.all.length:=by
 unfold delaysN
 rw [List.range_succ,List.flatMap_append]; simp
theorem delaysI_len (a j:Nat):(g.delaysI a j).length<=j:=by
 unfold delaysI
 rw [List.length_map]
 exact Nat.le_trans (List.length_filter_le _ _) (by simp)
theorem delaysN_len : ∀ i,(g.delaysN i).length<=i*g.all.length
 | 0=>by simp [delaysN]
 | i+1=>by
   rw [delaysN_succ,List.length_append,Nat.succ_mul]
   have:=delaysN_len i
   have:=delaysI_len (g:=g) i g.all.length
   omega
end Gr
theorem GrObj.keep {H H' : Nat->Option O} {n n' kG:Nat} {p:Prog} {model:Int} {g:Gr} (h:GrObj H n kG p model g) (hk : ∀ k,k<n->H' k=H k) (hn:n<=n'):GrObj H' n' kG p model g:=by
 obtain ⟨cv,kM,kn,h1,h2,h3,h4,h5,h6,h7⟩:=h.ex
 refine ⟨cv,kM,kn,by rw [hk _ h5]; exact h1, ?_,by rw [hk _ h6]; exact h3,by rw [hk _ h7]; exact h4,by omega,by omega,by omega⟩
 rcases h2 with h2 | ⟨q,rfl,hq,h8⟩
 ·exact .inl h2
 ·exact .inr ⟨q,rfl,by omega,by rw [hk _ hq]; exact h8⟩
theorem GrObj.tree {H:Nat->Option O} {n kG:Nat} {p:Prog} {model:Int} (hp:p.ok) (h:GrObj H n kG p model (grM p model)) :
 toT1 H (.mp kG 0 0)=some (.t (grT (p.cells.map Cell.enc) (p.modules.map Contract.enc) (p.locks.map Lock.enc) (p.threads.map Thread.enc) model (grM p model))):=by
 obtain ⟨kM,kn,cv,b,hH⟩:=h.grB hp
 have:=b.tree []
 rw [<- hH] at this
 exact this
set_option maxHeartbeats 2000000
theorem delays_den (p:Prog) (hs:p.sane) (hset : ∀ x∈p.threads, ∀ s∈x.steps,s.set.length<2^20) (model:Int):Den Γ G 291 [(.agg [.t (.sl ((p).cells.map (Cell.enc))), .t (.sl ((p).modules.map (Contract.enc))), .t (.sl ((p).locks.map (Lock.enc))), .t (.sl ((p).threads.map (Thread.enc)))]),vi model]=some (.t (.sl ((delaysM p model).map dlT))):=by
 have hv:=valid30_den p hs
 (refine den_ofY Γ291 rfl ?_; dsimp only [f291])
 simp -dsimp -implicitDefEqProofs only [go_sem,seval,hv]
 unfold delaysM
 cases h:validB p
 ·simp -dsimp -implicitDefEqProofs only [go_sem,seval]
 ·have hp:p.ok:=by simpa [validB] using h
  simp -dsimp -implicitDefEqProofs only [go_sem,seval]
  refine rawK_of (build_den p hp hset model _ _) ?_
  rintro _ h1 n1 ⟨kG,rfl,hg⟩
  have hg0:GrObj h1 n1 kG p model (grM p model):=hg
  obtain ⟨cv,kM,kn,hG,_,_,_,hkG,_,_⟩:=hg.ex
  have hal:=(grM_ask hp model).al
  have hdd : ∀ a b,a<(grM p model).all.length->b<(grM p model).all.length->Den Γ G 306 [.t (grT (p.cells.map Cell.enc) (p.modules.map Contract.enc) (p.locks.map Lock.enc) (p.threads.map Thread.enc) model (grM p model)),vi a,vi b]=some (vb ((grM p model).delay a b)):=fun a b ha hb=>delay_den _ _ _ p hp model a b ha hb
  have hall:(accsM p).length<=16384:=by
   obtain ⟨⟨l1,l2,l3,l4⟩,l5⟩:=limits_iff.1 (ok_iff.1 hp).lim
   have:=accsN_len p l1 (fun x hx=>(l5 x hx).2.1) _ (Nat.le_refl _)
   unfold accsM; omega
  have hal2:(grM p model).all.length<=16384:=hall
  clear hall
  generalize hGG:grM p model=g at hg hG hal hdd hal2 ⊢
  simp -dsimp -implicitDefEqProofs only [go_sem,seval,hG]
  refine loopYH 36028797017915840 g.all.length (fun i f h x=>(f 20).v=vi i/\(∀ k,k<n1->h k=h1 k)/\n1<=x/\OwnB h x (f 6).v 8 (rowsD (g.delaysN i)) /\ ∀ k,k<n1->offK (f 6).v k) rfl ?_ ?_
  ·refine ⟨by simp -dsimp -implicitDefEqProofs only [go_sem,seval],fun k _=>rfl,by simp -dsimp -implicitDefEqProofs only [go_sem,seval]; omega, .inl ⟨by simp -dsimp -implicitDefEqProofs only [go_sem,seval],rfl⟩,fun k _ => ?_⟩
   simp -dsimp -implicitDefEqProofs only [go_sem,seval]
   intro i n h; cases h
  ·rintro i f u H z bs hi ⟨h20,hk,hz,hO,hof⟩
   have hw:=wrapS i (by omega)
   simp -dsimp -implicitDefEqProofs only [go_sem,seval,h20]
   refine csplit (fun h => ?_) (fun h => ?_) <;> (try rw [h]) <;> (try simp only [bools] at h) <;> (try simp -dsimp -implicitDefEqProofs only [go_sem,seval,h20])
   ·have hia:i<g.all.length:=by assumption
    have hG2:=hk kG hkG
    rw [hG] at hG2
    simp -dsimp -implicitDefEqProofs only [go_sem,seval,h20,hG2]
    refine loopYH 18014398241046848 g.all.length (fun j f h x=>(f 28).v=vi j/\(∀ k,k<n1->h k=h1 k)/\n1<=x/\OwnB h x (f 6).v 8 (rowsD (g.delaysN i++g.delaysI i j)) /\ ∀ k,k<n1->offK (f 6).v k) rfl ?_ ?_
    ·refine ⟨by simp -dsimp -implicitDefEqProofs only [go_sem,seval],hk,by simp -dsimp -implicitDefEqProofs only [go_sem,seval]; omega, ?_,fun k hk => ?_⟩
     ·rw [show g.delaysI i 0=[] from rfl,List.append_nil]
      (try simp -dsimp -implicitDefEqProofs only [go_sem,seval])
      refine hO.le ?_; omega
     ·(try simp -dsimp -implicitDefEqProofs only [go_sem,seval])
      exact hof k hk
    ·rintro j f2 u2 H2 z2 bs2 hj ⟨h28,hk2,hz2,hO2,hof2⟩
     have hw2:=wrapS j (by omega)
     have hT:=(hg0.keep hk2 hz2).tree hp
     rw [hGG] at hT
     simp -dsimp -implicitDefEqProofs only [go_sem,seval,h28]
     refine csplit (fun h => ?_) (fun h => ?_) <;> (try rw [h]) <;> (try simp only [bools] at h) <;> (try simp -dsimp -implicitDefEqProofs only [go_sem,seval,h28, ↓hT])
     ·have hja:j<g.all.length:=by assumption
      have hd:=hdd i j hia hja
      have hG3:=hk2 kG hkG
      rw [hG] at hG3
      have hxa:g.all[i]? = some (g.ac i):=by simp [Gr.ac,List.getD_eq_getElem?_getD,List.getElem?_eq_getElem hia]
      have hxb:g.all[j]? = some (g.ac j):=by simp [Gr.ac,List.getD_eq_getElem?_getD,List.getElem?_eq_getElem hja]
      have hsucc:=Gr.delaysI_succ (g:=g) i j
      simp -dsimp -implicitDefEqProofs only [go_sem,seval,hd]
      cases hdl:g.delay i j
      ·rw [hdl] at hsucc
       simp only [Bool.false_eq_true,if_false,List.append_nil] at hsucc
       rw [hsucc]
       simp -dsimp -implicitDefEqProofs only [go_sem,seval,h28]
       refine ⟨by omega,by simp -dsimp -implicitDefEqProofs only [go_sem,seval,h28,hw2],hk2,by simp -dsimp -implicitDefEqProofs only [go_sem,seval]; omega, ?_,fun k hk => ?_⟩
       ·(try simp -dsimp -implicitDefEqProofs only [go_sem,seval])
        refine hO2.le ?_; omega
       ·(try simp -dsimp -implicitDefEqProofs only [go_sem,seval])
        exact hof2 k hk
      ·rw [hdl,if_pos rfl] at hsucc
       have v1:=hO2.valOf
       have v2:=hO2.r2
       have v3:=hO2.r3
       have v4:=hO2.r4
       have hln:(rowsD (g.delaysN i++g.delaysI i j)).length<2^32:=by
        rw [rowsD_len,List.length_append]
        have h1:=Gr.delaysN_len (g:=g) i
        have h2:=Gr.delaysI_len (g:=g) i j
        have h3:i*g.all.length<=16384*16384:=Nat.mul_le_mul (by omega) hal2
        omega
       simp -dsimp -implicitDefEqProofs only [go_sem,seval,h20,h28,hG3,hxa,hxb,v1,v2,v3,v4]
       refine putA_app1 (hO2.upd (by omega) _) (by omega) hln (by decide) rfl (rowsD_all _) ?_
       intro v hp' hO3 hoffs hkeep
       have w1:=hO3.valOf
       rw [rowsD_snoc,List.append_assoc, <- hsucc] at hO3
       simp -dsimp -implicitDefEqProofs only [go_sem,seval,w1,h28]
       refine ⟨by omega,by simp -dsimp -implicitDefEqProofs only [go_sem,seval,h28,hw2],fun k hk => ?_,by simp -dsimp -implicitDefEqProofs only [go_sem,seval]; omega, ?_,fun k hk => ?_⟩
       ·have:=hkeep k (by omega) (hof2 k hk)
        rw [updC_at,if_neg (by omega),hk2 k hk] at this
        simp -dsimp -implicitDefEqProofs only [go_sem,seval,this]
       ·simp -dsimp -implicitDefEqProofs only [go_sem,seval]
        refine hO3.le ?_; omega
       ·simp -dsimp -implicitDefEqProofs only [go_sem,seval]
        exact hoffs k (by omega)
     ·have hjn:j=g.all.length:=by omega
      subst hjn
      rw [<- Gr.delaysN_succ] at hO2
      simp -dsimp -implicitDefEqProofs only [go_sem,seval,h20]
      refine ⟨by omega,by simp -dsimp -implicitDefEqProofs only [go_sem,seval,hw],hk2,by simp -dsimp -implicitDefEqProofs only [go_sem,seval]; omega, ?_,fun k hk => ?_⟩
      ·simp -dsimp -implicitDefEqProofs only [go_sem,seval]
       refine hO2.le ?_; omega
      ·simp -dsimp -implicitDefEqProofs only [go_sem,seval]
       exact hof2 k hk
   ·have hin:i=g.all.length:=by omega
    subst hin
    have v1:=hO.valOf
    have hre:=hO.reify (dl_norm _)
    have v5:=hO.resVal
    simp only [Rg.resVal] at v5
    simp -dsimp -implicitDefEqProofs only [go_sem,seval,v1,v5]
    exact hre
end Rg
end
section
namespace Rg
open Go
def rowsC30 (l:List Nat):List (List V):=(l.map fun c:Nat=>[ti c]).map (·.map V.t)
theorem rowsC30_at {l:List Nat} {i c:Nat} (h:l[i]? = some c):(rowsC30 l)[i]? = some [vi c]:=by simp [rowsC30,h]
theorem rowsC30_len (l:List Nat):(rowsC30 l).length=l.length:=by simp [rowsC30]
theorem GrB.clsK {H:Nat->Option O} {kG kM kn:Nat} {cv:V} {p:Prog} {model:Int} {g:Gr} {f1 f2:Bool} (b:GrB H kG kM kn cv p model g f1 f2) {a:Nat} (ha:a<g.all.length) :
 ∃ kc f,cv = .ms kc 0 g.cls.length /\ ∀ es,HM H kn es kc=some (.rows 1 (rowsC30 g.cls) f):=by
 have hl:=b.ok.cl_len
 rcases b.cls with ⟨rfl,h⟩ | ⟨k,f,rfl,hk⟩
 ·have:g.cls=[]:=by simpa using h
  rw [this] at hl; simp at hl; omega
 ·refine ⟨k,f,by simp,fun es => ?_⟩
  have:k≠kn:=by rintro rfl; exact b.off _ _ rfl
  rw [HM_ne _ _ this]; exact hk
theorem GrB.cl_at {H:Nat->Option O} {kG kM kn:Nat} {cv:V} {p:Prog} {model:Int} {g:Gr} {f1 f2:Bool} (b:GrB H kG kM kn cv p model g f1 f2) {a:Nat} (ha:a<g.all.length):(rowsC30 g.cls)[a]? = some [vi (g.cl a)]:=by
 refine rowsC30_at ?_
 have:a<g.cls.length:=by rw [b.ok.cl_len]; exact ha
 simp [Gr.cl,List.getD_eq_getElem?_getD,List.getElem?_eq_getElem this]
theorem GrB.ac_at {g:Gr} {a:Nat} (ha:a<g.all.length):g.all[a]? = some (g.ac a):=by simp [Gr.ac,List.getD_eq_getElem?_getD,List.getElem?_eq_getElem ha]
def PB (H:Nat->Option O) (kG kn:Nat) (g:Gr) (r:Nat):Prop := ∀ (goal a m:Nat) (es:List (T×V)) (n:Nat),goal<g.msk.length->a<g.all.length->m<16->MemoOk g es ->
 ∃ rr h' n',DenR Γ G 324 [.mp kG 0 0,vi goal,vi a,vi m,vi r] (HM H kn es) n=some (rr,h',n')/\rr=vb (g.begins r goal a m) /\ ∃ es',MemoOk g es' /\ h' = HM H kn es'
set_option maxHeartbeats 2000000
theorem begins_den {H:Nat->Option O} {kG kM kn:Nat} {cv:V} {p:Prog} {model:Int} {g:Gr} {f1 f2:Bool} (b:GrB H kG kM kn cv p model g f1 f2) (hal:g.all.length<2^20) {r:Nat} (hr:r<100):PB H kG kn g r:=by
 intro goal a m es n hg ha hm hes
 have h1:=ends_all b r hr
 obtain ⟨kc,fc,rfl,hkc⟩:=b.clsK ha
 have hG:=b.rowM es
 have hC:=hkc es
 have hca:=b.cl_at ha
 have hcal:g.cl a<g.msk.length:=b.ok.cl_lt a ha
 have hcl:=rowsC30_len g.cls
 have hcc:=b.ok.cl_len
 have hac:(a<g.all.length)=True:=by simp [ha]
 (refine denR_ofY Γ324 rfl ?_; dsimp only [f324])
 simp -dsimp -implicitDefEqProofs only [go_sem,seval,hG,hC,hca,hcl,hcc,hac]
 refine rawK_of (h1 goal (g.cl a) m es _ hg hcal hm hes) ?_
 rintro _ h' n' ⟨rfl,es1,hes1,rfl⟩
 simp -dsimp -implicitDefEqProofs only [go_sem,seval]
 cases he:g.ends r goal (g.cl a) m
 ·have hop:g.begins r goal a m=(decide (0<r)&&((List.range g.all.length).drop 0).any fun e=>g.partner a e&&g.ends (r-1) goal (g.cl e) m):=by
   unfold Gr.begins; rw [he,Bool.false_or]; rfl
  have hG1:=b.rowM es1
  simp -dsimp -implicitDefEqProofs only [go_sem,seval,hG1]
  refine loopYH 72057593501060096 g.all.length (fun i f h x=>(f 29).v=vi i/\(∃ es,MemoOk g es/\h=HM H kn es)/\g.begins r goal a m=(decide (0<r)&&(((List.range g.all.length).drop i).any fun e=>g.partner a e&&g.ends (r-1) goal (g.cl e) m))) rfl ⟨by simp -dsimp -implicitDefEqProofs only [go_sem,seval],⟨es1,hes1,rfl⟩,hop⟩ ?_
  clear hG hes hes1 hG1 hC
  rintro i f u h x bs hi ⟨h29,⟨es2,hes2,rfl⟩,hany⟩
  have hw:=wrapS i (by omega)
  have hT:=b.tree es2
  simp -dsimp -implicitDefEqProofs only [go_sem,seval,h29]
  refine csplit (fun h => ?_) (fun h => ?_) <;> (try rw [h]) <;> (try simp only [bools] at h) <;> (try simp -dsimp -implicitDefEqProofs only [go_sem,seval,h29])
  ·have hic:i<g.all.length:=by assumption
   have hpa:=partner_den (p.cells.map Cell.enc) (p.modules.map Contract.enc) (p.locks.map Lock.enc) (p.threads.map Thread.enc) model g b.ok b.nt4 a i ha hic
   have hri:(List.range g.all.length)[i]? = some i:=List.getElem?_range hic
   have hG2:=b.rowM es2
   have hC2:=hkc es2
   have hci:=b.cl_at hic
   have hcil:g.cl i<g.msk.length:=b.ok.cl_lt i hic
   have hil:(i<g.all.length)=True:=by simp [hic]
   by_cases hr0:0<r
   ·have hr1:((r:Int)>0)=True:=by simp; omega
    have hr2:IntKind.i64.wrap ((r:Int)-1)=((r-1:Nat):Int):=by rw [wrap64 (by omega)]; omega
    rw [decide_eq_true hr0,Bool.true_and] at hany ⊢
    simp -dsimp -implicitDefEqProofs only [go_sem,seval,hr1,h29, ↓hT,hpa]
    cases hco:g.partner a i
    ·simp -dsimp -implicitDefEqProofs only [go_sem,seval,h29]
     exact ⟨by omega,by simp -dsimp -implicitDefEqProofs only [go_sem,seval,h29,hw],⟨es2,hes2,rfl⟩,by rw [hany,any_step hri (by rw [hco]; simp)]⟩
    ·simp -dsimp -implicitDefEqProofs only [go_sem,seval,h29,hr2,hG2,hC2,hci,hcl,hcc,hil]
     refine rawK_of (ends_all b (r-1) (by omega) goal (g.cl i) m es2 _ hg hcil hm hes2) ?_
     rintro _ h' n' ⟨rfl,es3,hes3,rfl⟩
     simp -dsimp -implicitDefEqProofs only [go_sem,seval,h29]
     cases hen:g.ends (r-1) goal (g.cl i) m
     ·simp -dsimp -implicitDefEqProofs only [go_sem,seval,h29]
      exact ⟨by omega,by simp -dsimp -implicitDefEqProofs only [go_sem,seval,h29,hw],⟨es3,hes3,rfl⟩,by rw [hany,any_step hri (by rw [hen]; simp)]⟩
     ·simp -dsimp -implicitDefEqProofs only [go_sem,seval,h29]
      exact ⟨by rw [hany,any_stop hri (by rw [hen,hco]; simp)]; rfl,es3,hes3,rfl⟩
   ·have hr1:((r:Int)>0)=False:=by simp; omega
    simp -dsimp -implicitDefEqProofs only [go_sem,seval,hr1,h29]
    rw [decide_eq_false hr0,Bool.false_and] at hany
    exact ⟨by omega,by simp -dsimp -implicitDefEqProofs only [go_sem,seval,h29,hw],⟨es2,hes2,rfl⟩,by rw [hany,decide_eq_false hr0,Bool.false_and]⟩
  ·have hin:i=g.all.length:=by omega
   subst hin
   have hrn:=any_end (fun e=>g.partner a e&&g.ends (r-1) goal (g.cl e) m) (List.range g.all.length)
   rw [List.length_range] at hrn
   rw [hrn,Bool.and_false] at hany
   exact ⟨by rw [hany]; rfl,es2,hes2,rfl⟩
 ·simp -dsimp -implicitDefEqProofs only [go_sem,seval]
  exact ⟨by unfold Gr.begins; rw [he,Bool.true_or]; rfl,es1,hes1,rfl⟩
end Rg
end
section
namespace Rg
open Go
structure BoxV (H:Nat->Option O) (kg ko kl km kG:Nat) (op:Bool) (last m:Nat):Prop where
 g:H kg=some (.rows 1 [[.mp kG 0 0]] false)
 o:H ko=some (.rows 1 [[vb op]] false)
 l:H kl=some (.rows 1 [[vi last]] false)
 m:H km=some (.rows 1 [[vi m]] false)
set_option maxHeartbeats 2000000
theorem visits1_den {kG kM kn:Nat} {cv:V} {p:Prog} {model:Int} {g:Gr} (hal:g.all.length<2^20) (kg ko kl km ky:Nat) (op:Bool) (last m:Nat) (hla:last<g.all.length) (hm:m<16)
 (Inv:Nat->(Nat->Option O)->Nat->Prop) (Stop:(Nat->Option O)->Nat->Prop)
 (hB : ∀ i H n,Inv i H n->BoxV H kg ko kl km kG op last m /\ ∃ H0 f1 f2 es,GrB H0 kG kM kn cv p model g f1 f2/\H=HM H0 kn es)
 (hmono : ∀ i H n q,Inv i H n->n<=q->Inv i H q) (hstop : ∀ H n q,Stop H n->n<=q->Stop H q)
 (hstep : ∀ i H n,i<g.all.length->Inv i H n->if (g.visit last m op i).1||(g.visit last m op i).2 then ∃ cont h' n',DenY Γ G ky [vi i,vb (g.visit last m op i).1] H n=some (vb cont,h',n')/\(if cont then Inv (i+1) h' n' else Stop h' n') else Inv (i+1) H n)
 (H:Nat->Option O) (n:Nat) (h0:Inv 0 H n) :
 ∃ r h' n',DenR Γ G 326 [.yl ky, .mp kg 0 0, .mp ko 0 0, .mp kl 0 0, .mp km 0 0] H n=some (r,h',n')/\(Inv g.all.length h' n' \/ Stop h' n'):=by
 obtain ⟨hb,H0,f1,f2,es,b,rfl⟩:=hB _ _ _ h0
 have hG:=b.rowM es
 (refine denR_ofY Γ326 rfl ?_; dsimp only [f326])
 simp -dsimp -implicitDefEqProofs only [go_sem,seval,hb.g,hG]
 refine loopYH 9223372036854744000 g.all.length (fun i f h z=>(f 15).v=vi i/\Inv i h z) rfl ⟨by simp -dsimp -implicitDefEqProofs only [go_sem,seval],hmono _ _ _ _ h0 (by simp -dsimp -implicitDefEqProofs only [go_sem,seval]; omega)⟩ ?_
 clear hG hb b
 rintro i f u H2 z bs hi ⟨h15,hI⟩
 have hw:=wrapS i (by omega)
 obtain ⟨hb,H1,e1,e2,es1,b,rfl⟩:=hB _ _ _ hI
 obtain ⟨hbg,hbo,hbl,hbm⟩:=hb
 have hT:=b.tree es1
 have hG:=b.rowM es1
 simp -dsimp -implicitDefEqProofs only [go_sem,seval,h15]
 refine csplit (fun h => ?_) (fun h => ?_) <;> (try rw [h]) <;> (try simp only [bools] at h) <;> (try simp -dsimp -implicitDefEqProofs only [go_sem,seval,h15])
 ·have hic:i<g.all.length:=by assumption
  have hst:=hstep i _ z hic hI
  have hyl:((g.visit last m op i).1||(g.visit last m op i).2)=true -> ∀ q,z<=q -> ∃ r h' n',DenY Γ G ky [vi i,vb (g.visit last m op i).1] (HM H1 kn es1) q=some (r,h',n') /\ ∃ cont:Bool,r=vb cont/\(if cont then Inv (i+1) h' n' else Stop h' n'):=fun ho q hq=>by
   have:=hstep i _ q hic (hmono _ _ _ _ hI hq)
   rw [if_pos ho] at this
   obtain ⟨cont,h',n',h1,h2⟩:=this
   exact ⟨_,h',n',h1,cont,rfl,h2⟩
  obtain ⟨kc,fc,hcv,hkc⟩:=b.clsK hic
  subst hcv
  have hC:=hkc es1
  have hca:=b.cl_at hic
  have hcb:=b.cl_at hla
  have hcl:=rowsC30_len g.cls
  have hcc:=b.ok.cl_len
  have hia:(i<g.all.length)=True:=by simp [hic]
  have hib:(last<g.all.length)=True:=by simp [hla]
  have hpa:=partner_den (p.cells.map Cell.enc) (p.modules.map Contract.enc) (p.locks.map Lock.enc) (p.threads.map Thread.enc) model g b.ok b.nt4 last i hla hic
  have hxa:=GrB.ac_at hic
  have hpr:=b.pr_den (b.ok.cl_lt last hla) (b.ok.cl_lt i hic)
  have hth:(g.ac i).th<4:=by have:=b.ok.th_lt i hic; have:=b.nt4; omega
  have hsh:=i_shr m (g.ac i).th (by omega)
  have hms:m >>> (g.ac i).th<2^62:=Nat.lt_of_le_of_lt (Nat.shiftRight_le _ _) (by omega)
  have han:=i_and1 hms
  have hbt:(((m >>> (g.ac i).th &&& 1:Nat):Int)=0)=(m.testBit (g.ac i).th=false):=by
   have h1:=u_bit (a:=m) (i:=(g.ac i).th) (by omega)
   have h2:m >>> (g.ac i).th &&& 1<2:=Nat.lt_of_le_of_lt Nat.and_le_right (by omega)
   cases htb:m.testBit (g.ac i).th
   ·rw [htb] at h1; simp at h1 ⊢; omega
   ·rw [htb] at h1; simp at h1 ⊢; omega
  have hv1:(g.visit last m op i).1=(op&&g.partner last i):=rfl
  have hv2:(g.visit last m op i).2=(!m.testBit (g.ac i).th&&g.prec (g.cl last) (g.cl i)):=rfl
  rw [hv1,hv2] at hst hyl
  have hq : ∀ x:Bool,(decide (x=false)) = !x:=by intro x; cases x <;> rfl
  have hcase:(op=false/\(op&&g.partner last i)=false)\/(op=true/\(op&&g.partner last i)=false/\g.partner last i=false)\/(op=true/\(op&&g.partner last i)=true/\g.partner last i=true):=by
   cases op <;> cases g.partner last i <;> simp
  generalize (op&&g.partner last i)=ib at hst hyl hcase
  rcases hcase with ⟨rfl,rfl⟩ | ⟨rfl,rfl,hpi⟩ | ⟨rfl,rfl,hpi⟩
  all_goals
   first | simp -dsimp -implicitDefEqProofs only [go_sem,seval,h15,hxa,hbg,hbo,hbl,hbm,hG,hC,hca,hcb,hcl,hcc,hia,hib, ↓hT,hpa,hpr,hsh,han,hbt,hq,hpi] | simp -dsimp -implicitDefEqProofs only [go_sem,seval,h15,hxa,hbg,hbo,hbl,hbm,hG,hC,hca,hcb,hcl,hcc,hia,hib, ↓hT,hpa,hpr,hsh,han,hbt,hq]
   cases htb:m.testBit (g.ac i).th
   all_goals rw [htb] at hst hyl
   ·simp -dsimp -implicitDefEqProofs only [go_sem,seval,h15,hxa,hbg,hbo,hbl,hbm,hG,hC,hca,hcb,hcl,hcc,hia,hib, ↓hT,hpa,hpr,hsh,han,hbt]
    cases hpc:g.prec (g.cl last) (g.cl i)
    all_goals
     rw [hpc] at hst hyl
     (try simp -dsimp -implicitDefEqProofs only [go_sem,seval,h15])
     first
     | rw [if_neg (by simp)] at hst
       exact ⟨by omega,by simp -dsimp -implicitDefEqProofs only [go_sem,seval,hw],hmono _ _ _ _ hst (by simp -dsimp -implicitDefEqProofs only [go_sem,seval]; omega)⟩
     | refine rawK_of (hyl (by simp) _ (by omega)) ?_
       rintro r h' n' ⟨cont,rfl,hcont⟩
       cases cont
       ·simp -dsimp -implicitDefEqProofs only [go_sem,seval,h15]
        exact .inr (hstop _ _ _ hcont (by omega))
       ·simp -dsimp -implicitDefEqProofs only [go_sem,seval,h15]
        exact ⟨by omega,by simp -dsimp -implicitDefEqProofs only [go_sem,seval,hw],hmono _ _ _ _ hcont (by simp -dsimp -implicitDefEqProofs only [go_sem,seval]; omega)⟩
   ·simp -dsimp -implicitDefEqProofs only [go_sem,seval,h15]
    first
    | rw [if_neg (by simp)] at hst
      exact ⟨by omega,by simp -dsimp -implicitDefEqProofs only [go_sem,seval,hw],hmono _ _ _ _ hst (by simp -dsimp -implicitDefEqProofs only [go_sem,seval]; omega)⟩
    | refine rawK_of (hyl (by simp) _ (by omega)) ?_
      rintro r h' n' ⟨cont,rfl,hcont⟩
      cases cont
      ·simp -dsimp -implicitDefEqProofs only [go_sem,seval,h15]
       exact .inr (hstop _ _ _ hcont (by omega))
      ·simp -dsimp -implicitDefEqProofs only [go_sem,seval,h15]
       exact ⟨by omega,by simp -dsimp -implicitDefEqProofs only [go_sem,seval,hw],hmono _ _ _ _ hcont (by simp -dsimp -implicitDefEqProofs only [go_sem,seval]; omega)⟩
 ·have hi2:i=g.all.length:=by omega
  subst hi2
  exact .inl (hmono _ _ _ _ hI (by simp -dsimp -implicitDefEqProofs only [go_sem,seval]; omega))
end Rg
end
