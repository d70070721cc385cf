/- Part of the proof of the laws of the package relyguardlaw30: an abstract machine for the program's functions, what they compute, and that the machine is the program's. No condition. (H44e RgEv H45a H45b H32c) -/
import Derived.Test.YtcgkpboneipghaaGreatDoorPartBF
import Derived.Test.YtcgkpboneipghaaGreatDoorPartAR
import Derived.ProofKit
import Derived.Test.YtcgkpboneipghaaGreatDoorPartAZ
import Derived.Test.YtcgkpboneipghaaGreatDoorPartAX
set_option linter.unusedSimpArgs false
set_option linter.unusedVariables false
section
namespace Rg
open Go
def pairsL (A:Nat):List (Nat×Nat):=(List.range A).flatMap fun a=>(List.range A).map fun b=>(a,b)
theorem pairs_none {A:Nat} {f:Nat->Nat->Bool} (h : ∀ a b,a<A->b<A->f a b=false):(pairsL A).find? (fun x=>f x.1 x.2)=none:=by
 rw [List.find?_eq_none]
 intro x hx
 simp only [pairsL,List.mem_flatMap,List.mem_range,List.mem_map] at hx
 obtain ⟨a,ha,b,hb,rfl⟩:=hx
 simp [h a b ha hb]
theorem pairs_some {A:Nat} {f:Nat->Nat->Bool} {i j:Nat} (hi:i<A) (hj:j<A) (h1 : ∀ a,a<i -> ∀ b,b<A->f a b=false) (h2 : ∀ b,b<j->f i b=false) (h3:f i j=true):(pairsL A).find? (fun x=>f x.1 x.2)=some (i,j):=by
 have e:List.range A=List.range i++i::(List.range A).drop (i+1):=by
  conv=>lhs; rw [<- List.take_append_drop i (List.range A)]
  rw [drop_of (List.getElem?_range hi),List.take_range,Nat.min_eq_left (by omega)]
 unfold pairsL
 generalize hF:(fun a=>(List.range A).map fun b=>(a,b))=F
 have hn:((List.range i).flatMap F).find? (fun x=>f x.1 x.2)=none:=by
  rw [List.find?_eq_none]
  intro x hx
  rw [<- hF] at hx
  simp only [List.mem_flatMap,List.mem_range,List.mem_map] at hx
  obtain ⟨a,ha,b,hb,rfl⟩:=hx
  simp [h1 a ha b hb]
 have hr:(F i).find? (fun x=>f x.1 x.2)=some (i,j):=by
  rw [<- hF,List.find?_map]
  have:(List.range A).find? ((fun x:Nat×Nat=>f x.1 x.2) ∘ fun b=>(i,b))=some j:=find_some hj (fun t ht=>h2 t ht) h3
  rw [this]; rfl
 rw [e,List.flatMap_append,List.flatMap_cons,List.find?_append,hn,Option.none_or,List.find?_append,hr]; rfl
theorem listV_shape {h:Nat->Option O} {n:Nat} {rr:V} {o:Option (List Acc)} (hl:listV h n rr o) (hne : ∀ l,o=some l->l≠[]):(rr = .tup [.t .nils,vb false]/\o=none) \/ ∃ k m l,rr = .tup [.ms k 0 m,vb true]/\o=some l/\OwnB h n (.ms k 0 m) 4 (rowsA l):=by
 cases o with
 | none=>exact .inl ⟨hl,rfl⟩
 | some l =>
   obtain ⟨v,rfl,hv⟩:=hl
   obtain ⟨k,m,rfl⟩:=hv.msE (by have:=hne l rfl; simpa [rowsA] using this)
   exact .inr ⟨k,m,l,rfl,rfl,hv⟩
theorem Gr.first_ne (g:Gr) (r:Nat) : ∀ l,g.first r=some l->l≠[]:=by
 intro l h
 unfold Gr.first at h
 split at h
 ·cases h
 ·rw [Option.map_eq_some_iff] at h
  obtain ⟨x,_,rfl⟩:=h
  simp
theorem GrL.at {H:Nat->Option O} {n n' kG kM kn:Nat} {cv:V} {p:Prog} {model:Int} {g:Gr} (gl:GrL H n kG kM kn cv p model g) {es:List (T×V)} (hes:MemoOk g es) (hn:n<=n'):GrL (HM H kn es) n' kG kM kn cv p model g:=by
 have hk:Kp H n kn g (HM H kn es):=⟨fun k _ hk=>HM_ne _ _ hk,es,hes,HM_at _ _ _⟩
 obtain ⟨_,f1,f2,_,b,_⟩:=hk.grB gl
 exact ⟨⟨f1,f2,b⟩,by have:=gl.lG; omega,by have:=gl.lM; omega,by have:=gl.ln; omega,fun q hq=>gl.lc q (by omega),gl.al⟩
theorem Kp.here {h:Nat->Option O} {n kn:Nat} {g:Gr} {es:List (T×V)} (hes:MemoOk g es) (hh:h kn=some (.map es)):Kp h n kn g h:=⟨fun _ _ _=>rfl,es,hes,hh⟩
set_option maxHeartbeats 4000000
theorem first_den {H:Nat->Option O} {n kG kM kn:Nat} {cv:V} {p:Prog} {model:Int} {g:Gr} (gl:GrL H n kG kM kn cv p model g) (hkp:Kp H n kn g H) {r:Nat} (hr:r<90)
 (hdd : ∀ a b,a<g.all.length->b<g.all.length->Den Γ G 306 [.t (grT (p.cells.map Cell.enc) (p.modules.map Contract.enc) (p.locks.map Lock.enc) (p.threads.map Thread.enc) model g),vi a,vi b]=some (vb (g.delay a b))) :
 ∃ rr h' n',DenR Γ G 302 [.mp kG 0 0,vi r] H n=some (rr,h',n')/\listV h' n' rr (g.first r):=by
 obtain ⟨es0,f1,f2,hes0,gb0,hE0⟩:=hkp.grB gl
 obtain ⟨e1,e2,b⟩:=gl.b
 have hal:=gl.al
 have hG:=gb0.rowM es0
 rw [<- hE0] at hG
 (refine denR_ofY Γ302 rfl ?_; dsimp only [f302])
 simp -dsimp -implicitDefEqProofs only [go_sem,seval,hG]
 refine loopYH 36893488147419095280 g.all.length (fun i f h x=>(f 13).v=vi i/\(∃ es,MemoOk g es/\h=HM H kn es)/\n<=x /\ ∀ a,a<i -> ∀ b,b<g.all.length->g.starts r a b=false) rfl ⟨by simp -dsimp -implicitDefEqProofs only [go_sem,seval],⟨es0,hes0,hE0⟩,by simp -dsimp -implicitDefEqProofs only [go_sem,seval]; omega,fun a ha=>by omega⟩ ?_
 clear hG hE0
 rintro i f u h z bs hi ⟨h13,⟨es1,hes1,rfl⟩,hz,hno⟩
 have hw:=wrapS i (by omega)
 simp -dsimp -implicitDefEqProofs only [go_sem,seval,h13]
 refine csplit (fun h => ?_) (fun h => ?_) <;> (try rw [h]) <;> (try simp only [bools] at h) <;> (try simp -dsimp -implicitDefEqProofs only [go_sem,seval,h13])
 ·have hia:i<g.all.length:=by assumption
  have hG1:=b.rowM es1
  simp -dsimp -implicitDefEqProofs only [go_sem,seval,hG1]
  refine loopYH 18446744073707454640 g.all.length (fun j f h x=>(f 21).v=vi j/\(∃ es,MemoOk g es/\h=HM H kn es)/\n<=x /\ ∀ b,b<j->g.starts r i b=false) rfl ⟨by simp -dsimp -implicitDefEqProofs only [go_sem,seval],⟨es1,hes1,rfl⟩,by simp -dsimp -implicitDefEqProofs only [go_sem,seval]; omega,fun a ha=>by omega⟩ ?_
  clear hG1 hes1
  rintro j f2 u2 h2 z2 bs2 hj ⟨h21,⟨es2,hes2,rfl⟩,hz2,hno2⟩
  have hw2:=wrapS j (by omega)
  have hT:=b.tree es2
  simp -dsimp -implicitDefEqProofs only [go_sem,seval,h21]
  refine csplit (fun h => ?_) (fun h => ?_) <;> (try rw [h]) <;> (try simp only [bools] at h) <;> (try simp -dsimp -implicitDefEqProofs only [go_sem,seval,h21, ↓hT])
  ·have hja:j<g.all.length:=by assumption
   have hd:=hdd i j hia hja
   have hG2:=b.rowM es2
   obtain ⟨kc,fc,hcv,hkc⟩:=b.clsK hia
   subst hcv
   have hC2:=hkc es2
   have hca:=b.cl_at hia
   have hcb:=b.cl_at hja
   have hcl:=rowsC30_len g.cls
   have hcc:=b.ok.cl_len
   have hib:(i<g.all.length)=True:=by simp [hia]
   have hjb:(j<g.all.length)=True:=by simp [hja]
   have hxb:=GrB.ac_at hja
   have hth:(g.ac j).th<4:=by have:=b.ok.th_lt j hja; have:=b.nt4; omega
   have hsl:=i_shl (i:=(g.ac j).th) (by omega)
   have hb16:1 <<< (g.ac j).th<16:=by have:=mask_lt (m:=0) (by omega) hth; rw [Nat.zero_or] at this; exact this
   simp -dsimp -implicitDefEqProofs only [go_sem,seval,hd]
   cases hdl:g.delay i j
   ·simp -dsimp -implicitDefEqProofs only [go_sem,seval,h21]
    refine ⟨by omega,by simp -dsimp -implicitDefEqProofs only [go_sem,seval,h21,hw2],⟨es2,hes2,rfl⟩,by simp -dsimp -implicitDefEqProofs only [go_sem,seval]; omega,fun t ht => ?_⟩
    rcases Nat.lt_or_ge t j with h1 | h1
    ·exact hno2 t h1
    ·obtain rfl:t=j:=by omega
     unfold Gr.starts; rw [hdl]; rfl
   ·simp -dsimp -implicitDefEqProofs only [go_sem,seval,h13,h21,hG2,hC2,hca,hcb,hcl,hcc,hib,hjb,hxb,hsl]
    refine rawK_of (nxt_of (ends_all b r (by omega) (g.cl i) (g.cl j) (1 <<< (g.ac j).th) es2 _ (b.ok.cl_lt i hia) (b.ok.cl_lt j hja) hb16 hes2)) ?_
    rintro _ h' n' ⟨⟨rfl,es3,hes3,rfl⟩,hnn⟩
    have hzn:n<=n' := by refine Nat.le_trans ?_ hnn; omega
    simp -dsimp -implicitDefEqProofs only [go_sem,seval]
    cases hen:g.ends r (g.cl i) (g.cl j) (1 <<< (g.ac j).th)
    ·simp -dsimp -implicitDefEqProofs only [go_sem,seval,h21]
     refine ⟨by omega,by simp -dsimp -implicitDefEqProofs only [go_sem,seval,h21,hw2],⟨es3,hes3,rfl⟩,by simp -dsimp -implicitDefEqProofs only [go_sem,seval]; omega,fun t ht => ?_⟩
     rcases Nat.lt_or_ge t j with h1 | h1
     ·exact hno2 t h1
     ·obtain rfl:t=j:=by omega
      unfold Gr.starts; rw [hen,Bool.and_false]
    ·have hst:g.starts r i j=true:=by unfold Gr.starts; rw [hdl,hen]; rfl
     have hfi:g.first r=(g.follow (g.cl i) r j (1 <<< (g.ac j).th) false).map fun l=>g.ac i::g.ac j::l:=by
      have:=pairs_some hia hja hno hno2 hst
      unfold Gr.first
      unfold pairsL at this
      rw [this]
     rw [hfi]
     simp -dsimp -implicitDefEqProofs only [go_sem,seval,h13,h21]
     refine rawK_of (nxt_of (follow_den (n:=n' + 9) (gl.at hes3 (by omega)) (Kp.here hes3 (HM_at _ _ _)) hia hja hr)) ?_
     rintro rr h4 n4 ⟨hlv,hn4⟩
     rcases listV_shape hlv (by intro l hl; rw [Option.map_eq_some_iff] at hl; obtain ⟨x,_,rfl⟩:=hl; simp) with ⟨rfl,ho⟩ | ⟨k,m,l,rfl,ho,hv⟩
     ·simp -dsimp -implicitDefEqProofs only [go_sem,seval]
      rw [ho]; rfl
     ·simp -dsimp -implicitDefEqProofs only [go_sem,seval]
      rw [ho]
      exact ⟨_,rfl,hv.le (by (try simp -dsimp -implicitDefEqProofs only [go_sem,seval]); omega)⟩
  ·have hjn:j=g.all.length:=by omega
   subst hjn
   simp -dsimp -implicitDefEqProofs only [go_sem,seval,h13]
   refine ⟨by omega,by simp -dsimp -implicitDefEqProofs only [go_sem,seval,hw],⟨es2,hes2,rfl⟩,by simp -dsimp -implicitDefEqProofs only [go_sem,seval]; omega,fun t ht => ?_⟩
   rcases Nat.lt_or_ge t i with h1 | h1
   ·exact hno t h1
   ·obtain rfl:t=i:=by omega
    exact hno2
 ·have hin:i=g.all.length:=by omega
  subst hin
  have hfi:g.first r=none:=by
   have:=pairs_none (f:=g.starts r) fun a b ha hb=>hno a ha b hb
   unfold Gr.first
   unfold pairsL at this
   rw [this]
  rw [hfi]
  rfl
theorem GrObj.grL {H:Nat->Option O} {n kG:Nat} {p:Prog} {model:Int} (hp:p.ok) (h:GrObj H n kG p model (grM p model)) : ∃ kM kn cv,GrL H n kG kM kn cv p model (grM p model)/\GrB H kG kM kn cv p model (grM p model) false false/\H=HM H kn []:=by
 obtain ⟨cv,kM,kn,h1,h2,h3,h4,h5,h6,h7⟩:=h.ex
 obtain ⟨⟨l1,l2,l3,l4⟩,l5⟩:=limits_iff.1 (ok_iff.1 hp).lim
 have hb:GrB H kG kM kn cv p model (grM p model) false false:=by
  refine ⟨h1, ?_,h3, ?_, ?_,h2.offM h4,grM_ok hp model,l4,rfl,l1,rfl⟩
  ·refine OwnB.shw (es:=(grM p model).cls.map fun c:Nat=>[ti c]) (x:=n) ?_
   have e:rowsI ((grM p model).cls.map fun c:Nat=>(c:Int))=((grM p model).cls.map fun c:Nat=>[ti c]).map (·.map V.t):=by simp only [rowsI,List.map_map]; rfl
   rw [<- e]; exact h2
  ·rintro rfl; rw [h1] at h4; cases h4
  ·rintro rfl; rw [h3] at h4; cases h4
 refine ⟨kM,kn,cv,⟨⟨false,false,hb⟩,h5,h6,h7,fun q hq=>h2.off hq,(grM_ask hp model).al⟩,hb, ?_⟩
 funext k
 by_cases hk:k=kn
 ·subst hk; rw [HM_at,h4]
 ·rw [HM_ne _ _ hk]
theorem cycle_den (p:Prog) (hs:p.sane) (hset : ∀ x∈p.threads, ∀ s∈x.steps,s.set.length<2^20) (model:Int):Den Γ G 288 [(.agg [.t (.sl ((p).cells.map (Cell.enc))), .t (.sl ((p).modules.map (Contract.enc))), .t (.sl ((p).locks.map (Lock.enc))), .t (.sl ((p).threads.map (Thread.enc)))]),vi model]=some (.tup [.t (.sl (((cycleM p model).getD []).map Acc.enc)),vb (cycleM p model).isSome]):=by
 have hv:=valid30_den p hs
 (refine den_ofY Γ288 rfl ?_; dsimp only [f288])
 simp -dsimp -implicitDefEqProofs only [go_sem,seval,hv]
 unfold cycleM
 cases h:validB p
 ·simp -dsimp -implicitDefEqProofs only [go_sem,seval]
  exact ⟨rfl,rfl⟩
 ·have hp:p.ok:=by simpa [validB] using h
  simp -dsimp -implicitDefEqProofs only [go_sem,seval]
  refine rawK_of (build_den p hp hset model _ _) ?_
  rintro _ h1 n1 ⟨kG,rfl,hg⟩
  obtain ⟨kM,kn,cv,gl,b,hH⟩:=hg.grL hp
  have hdd : ∀ a b,a<(grM p model).all.length->b<(grM p model).all.length->Den Γ G 306 [.t (grT (p.cells.map Cell.enc) (p.modules.map Contract.enc) (p.locks.map Lock.enc) (p.threads.map Thread.enc) model (grM p model)),vi a,vi b]=some (vb ((grM p model).delay a b)):=fun a b ha hb=>delay_den _ _ _ p hp model a b ha hb
  simp -dsimp -implicitDefEqProofs only [go_sem,seval]
  rw [hH]
  refine rawK_of (nxt_of (shortest_den b (grM_ask hp model) [] (fun e he=>by cases he) _)) ?_
  rintro _ h2 n2 ⟨⟨rfl,H',f1',f2',es',b',hes',rfl⟩,hn2⟩
  have hn12:n1<=n2:=by refine Nat.le_trans ?_ hn2; omega
  have gl2:GrL H' n2 kG kM kn cv p model (grM p model):=⟨⟨f1',f2',b'⟩,by have:=gl.lG; omega,by have:=gl.lM; omega,by have:=gl.ln; omega,fun q hq=>gl.lc q (by omega),gl.al⟩
  rw [if_pos rfl]
  unfold Gr.cycle
  cases hsn:(grM p model).shortest with
  | none =>
    simp -dsimp -implicitDefEqProofs only [go_sem,seval,shortV]
    exact ⟨rfl,rfl⟩
  | some r =>
    have hr:r<90:=by
     have h1:r∈(List.range (2*((grM p model).nt-1))).map (· + 1):=List.mem_of_find?_eq_some hsn
     simp only [List.mem_map,List.mem_range] at h1
     obtain ⟨q,hq,rfl⟩:=h1
     have:=b.nt4
     omega
    simp -dsimp -implicitDefEqProofs only [go_sem,seval,shortV]
    refine rawK_of (nxt_of (first_den (gl2.at hes' (by omega)) (Kp.here hes' (HM_at _ _ _)) hr hdd)) ?_
    rintro rr h4 n4 ⟨hlv,hn4⟩
    simp only [Option.bind_some]
    rcases listV_shape hlv ((grM p model).first_ne r) with ⟨rfl,ho⟩ | ⟨k,m,l,rfl,ho,hv⟩
    ·rw [ho]
     simp -dsimp -implicitDefEqProofs only [go_sem,seval]
     exact ⟨rfl,rfl⟩
    ·rw [ho]
     have ht:toT1 h4 (.ms k 0 m)=some (.t (.sl (l.map Acc.enc))):=hv.reify (acc_norm l)
     simp -dsimp -implicitDefEqProofs only [go_sem,seval, ↓ht]
     rfl
end Rg
end
section
namespace Rg
open Go
inductive Tr (α:Type) where
 | nil
 | node (v:Option α) (l r:Tr α)
namespace Tr
variable {α:Type}
def get:Tr α->Nat->Option α
 | .nil,_=>none
 | .node v l r,n=>if n=0 then v else if n % 2=1 then l.get (n / 2) else r.get (n / 2-1)
def put:Nat->Tr α->Nat->α->Tr α
 | 0,t,_,_=>t
 | f+1, .nil,n,x=>if n=0 then .node (some x) .nil .nil else if n % 2=1 then .node none (put f .nil (n / 2) x) .nil else .node none .nil (put f .nil (n / 2-1) x)
 | f+1, .node v l r,n,x=>if n=0 then .node (some x) l r else if n % 2=1 then .node v (put f l (n / 2) x) r else .node v l (put f r (n / 2-1) x)
theorem get_put : ∀ (f:Nat) (t:Tr α) (n:Nat) (x:α),n<f -> ∀ j,(put f t n x).get j=if j=n then some x else t.get j:=by
 intro f
 induction f with
 | zero=>intro t n x h; omega
 | succ f ih =>
   intro t n x h j
   have key : ∀ (v:Option α) (l r:Tr α),(if n=0 then Tr.node (some x) l r else if n % 2=1 then .node v (put f l (n / 2) x) r else .node v l (put f r (n / 2-1) x)).get j=if j=n then some x else (Tr.node v l r).get j:=by
    intro v l r
    by_cases h0:n=0
    ·subst h0
     simp only [if_true,get]
     by_cases hj:j=0
     ·simp [hj]
     ·simp [hj]
    ·rw [if_neg h0]
     by_cases h1:n % 2=1
     ·rw [if_pos h1]
      simp only [get]
      by_cases hj:j=0
      ·rw [if_pos hj,if_pos hj,if_neg (by omega)]
      ·rw [if_neg hj,if_neg hj]
       by_cases hj2:j % 2=1
       ·rw [if_pos hj2,if_pos hj2,ih l (n / 2) x (by omega)]
        by_cases he:j=n
        ·rw [if_pos he,if_pos (by omega)]
        ·rw [if_neg he,if_neg (by omega)]
       ·rw [if_neg hj2,if_neg hj2,if_neg (by omega)]
     ·rw [if_neg h1]
      simp only [get]
      by_cases hj:j=0
      ·rw [if_pos hj,if_pos hj,if_neg (by omega)]
      ·rw [if_neg hj,if_neg hj]
       by_cases hj2:j % 2=1
       ·rw [if_pos hj2,if_pos hj2,if_neg (by omega)]
       ·rw [if_neg hj2,if_neg hj2,ih r (n / 2-1) x (by omega)]
        by_cases he:j=n
        ·rw [if_pos he,if_pos (by omega)]
        ·rw [if_neg he,if_neg (by omega)]
   cases t with
   | nil =>
     have hn : ∀ k,(Tr.node none .nil .nil:Tr α).get k=(Tr.nil:Tr α).get k:=by
      intro k
      simp only [get]
      split
      ·rfl
      ·split <;> rfl
     have:=key none .nil .nil
     rw [hn] at this
     simpa only [put] using this
   | node v l r=>exact key v l r
end Tr
structure Fn (α:Type) where
 base:Nat->α
 ov:Tr α
namespace Fn
variable {α:Type}
def app (f:Fn α) (k:Nat):α:=match f.ov.get k with
 | some v=>v
 | none=>f.base k
def set (f:Fn α) (k:Nat) (v:α):Fn α:=⟨f.base,f.ov.put (k+1) k v⟩
def of (f:Nat->α):Fn α:=⟨f, .nil⟩
theorem app_set (f:Fn α) (k:Nat) (v:α):(f.set k v).app=upd f.app k v:=by
 funext j
 unfold app set upd
 simp only
 rw [Tr.get_put (k+1) f.ov k v (by omega)]
 by_cases h:j=k
 ·rw [if_pos h,if_pos h]
 ·rw [if_neg h,if_neg h]
end Fn
structure E where
 env:Fn V
 loc:Fn (Option (List V))
 adr:Fn (Option (Nat×Nat))
 used:Fn Bool
 heap:Fn (Option O)
 nxt:Nat
 bas:Nat
namespace E
def st (e:E):St:=⟨e.env.app,e.loc.app,e.adr.app,e.used.app,e.heap.app,e.nxt,e.bas⟩
def begin (e:E) (n:Nat):E:={ e with adr:=.of fun _=>none,used:=.of fun _=>false,bas:=e.nxt,nxt:=e.nxt+n }
def hpSet (h:Fn (Option O)):List (Nat×O)->Fn (Option O)
 | []=>h
 | (k,o)::r=>hpSet (h.set k (some o)) r
theorem hpSet_app (h:Fn (Option O)) (l:List (Nat×O)):(hpSet h l).app=hpUpd h.app l:=by
 induction l generalizing h with
 | nil=>rfl
 | cons a l ih=>rw [hpSet,hpUpd,ih,Fn.app_set]
def apply (s:E) (dst:Option Nat) (e:Eff):E :=
 { s with
   env:=match dst with | some d=>s.env.set d e.val | none=>s.env
   adr:=match dst with | some d=>s.adr.set d e.adr | none=>s.adr
   loc:=match dst with
    | some d=>(match e.wloc with | some (b,cs)=>s.loc.set b (some cs) | none=>s.loc).set d e.loc
    | none=>match e.wloc with | some (b,cs)=>s.loc.set b (some cs) | none=>s.loc
   used:=match e.adr with | some (b,_)=>s.used.set b true | none=>s.used
   heap:=hpSet s.heap e.hp }
theorem apply_st (s:E) (dst:Option Nat) (e:Eff):(s.apply dst e).st=s.st.apply dst e:=by
 unfold apply st St.apply
 rcases dst with _ | d <;> rcases e with ⟨val,adr,loc,wloc,hp⟩ <;> rcases wloc with _ | ⟨b,cs⟩ <;> rcases adr with _ | ⟨a1,a2⟩ <;> simp only [Fn.app_set,hpSet_app]
def init (args:List V) (h:Fn (Option O)) (n:Nat):E:=⟨.of (initEnv args), .of fun _=>none, .of fun _=>none, .of fun _=>false,h,n,n⟩
def fill:Fn V->List Nat->List V->Fn V
 | env,t::ts,v::vs=>fill (env.set t v) ts vs
 | env,_,_=>env
theorem fill_app (f:Fn V) (ts:List Nat) (vs:List V):(fill f ts vs).app=fillEnv f.app ts vs:=by
 induction ts generalizing f vs with
 | nil=>cases vs <;> rfl
 | cons t ts ih=>cases vs with
   | nil=>rfl
   | cons v vs=>rw [fill,fillEnv,ih,Fn.app_set]
def round (h:Fn (Option O)) (n k:Nat) (env:Nat->V) (ps:List Nat) (bd:C) (vs:List V):E :=
 ⟨fill (.of env) ps vs, .of fun _=>none, .of fun _=>none, .of fun _=>false,h.set k (some (.loop env ps bd .enter)),n,n⟩
theorem round_st (h:Fn (Option O)) (n k:Nat) (env:Nat->V) (ps:List Nat) (bd:C) (vs:List V):(round h n k env ps bd vs).st=roundSt h.app n k env ps bd vs:=by
 unfold round st roundSt
 simp only [fill_app,Fn.app_set]
 rfl
def freeB (s:E) (dst:Option Nat) (e:Eff):Bool:=match dst with
 | none=>true
 | some d => !s.used.app d&&match e.adr with
   | some (b,_) => !decide (b=d)
   | none=>true
theorem free_of {s:E} {dst:Option Nat} {e:Eff} (h:s.freeB dst e=true):s.st.free dst e:=by
 intro d hd
 subst hd
 unfold freeB at h
 simp only [Bool.and_eq_true,Bool.not_eq_true'] at h
 refine ⟨h.1,fun b o hb => ?_⟩
 rw [hb] at h
 simpa using h.2
end E
inductive ET where
 | code (c:C) (s:E)
 | loop (b:C) (s:E)
 | ops (draw:Bool) (p:Nat) (l:List ROp) (s:E)
 | pcall (f:Nat) (args:List V)
 | rcall (f:Nat) (args:List V) (h:Fn (Option O)) (n:Nat)
inductive EO where
 | code (e:Ex) (s:E)
 | ops (s:E)
 | val (v:V)
 | vals (v:V) (h:Fn (Option O)) (n:Nat)
def ET.task:ET->Task
 | .code c s => .code c s.st
 | .loop b s => .loop b s.st
 | .ops d p l s => .ops d p l s.st
 | .pcall f a => .pcall f a
 | .rcall f a h n => .rcall f a h.app n
def EO.out:EO->Out
 | .code e s => .code e s.st
 | .ops s => .ops s.st
 | .val v => .val v
 | .vals v h n => .vals v h.app n
def noExit:Ex->Bool
 | .exit _=>false
 | _=>true
theorem noExit_of {e:Ex} (h:noExit e=true) : ∀ id,e ≠ .exit id:=by
 rintro id rfl; cases h
def asCode:Option EO->Option (Ex×E)
 | some (.code e s)=>some (e,s)
 | _=>none
def asOps:Option EO->Option E
 | some (.ops s)=>some s
 | _=>none
def asVal:Option EO->Option V
 | some (.val v)=>some v
 | _=>none
def asVals:Option EO->Option (V×Fn (Option O)×Nat)
 | some (.vals v h n)=>some (v,h,n)
 | _=>none
theorem asCode_eq {x:Option EO} {e:Ex} {s:E} (h:asCode x=some (e,s)):x=some (.code e s):=by
 unfold asCode at h; split at h
 ·cases h; rfl
 ·cases h
theorem asOps_eq {x:Option EO} {s:E} (h:asOps x=some s):x=some (.ops s):=by
 unfold asOps at h; split at h
 ·cases h; rfl
 ·cases h
theorem asVal_eq {x:Option EO} {v:V} (h:asVal x=some v):x=some (.val v):=by
 unfold asVal at h; split at h
 ·cases h; rfl
 ·cases h
theorem asVals_eq {x:Option EO} {v:V} {hp:Fn (Option O)} {n:Nat} (h:asVals x=some (v,hp,n)):x=some (.vals v hp n):=by
 unfold asVals at h; split at h
 ·cases h; rfl
 ·cases h
def loopAt (h:Fn (Option O)) (k:Nat):Option ((Nat->V)×List Nat×C×LSt):=match h.app k with
 | some (.loop env ps b st)=>some (env,ps,b,st)
 | _=>none
theorem loopAt_eq {h:Fn (Option O)} {k:Nat} {env:Nat->V} {ps:List Nat} {b:C} {st:LSt} (e:loopAt h k=some (env,ps,b,st)):h.app k=some (.loop env ps b st):=by
 unfold loopAt at e; split at e
 ·rename_i h0; cases e; exact h0
 ·cases e
def LSt.isReady:LSt->Bool
 | .ready=>true
 | _=>false
def LSt.isEnter:LSt->Bool
 | .enter=>true
 | _=>false
def LSt.isBusy:LSt->Bool
 | .busy=>true
 | _=>false
def roundOf:C->Option (C×C)
 | .round a b=>some (a,b)
 | _=>none
def extOf:C->Option Ext
 | .ext e=>some e
 | _=>none
def ylOf:V->Option Nat
 | .yl k=>some k
 | _=>none
def callOf:AOp->Option (Bool×Opd×List Opd)
 | .call r f a=>some (r,f,a)
 | _=>none
def fcallOf:AOp->Option (Opd×List Opd)
 | .fcall f a=>some (f,a)
 | _=>none
def ask (b:Bool):Option Unit:=if b then some () else none
theorem ask_eq {b:Bool} {u:Unit} (h:ask b=some u):b=true:=by
 unfold ask at h; split at h
 ·assumption
 ·cases h
section
variable (Γ:Nat->Option F) (G:Nat->List T) (R:ET->Option EO)
def evCode (s:E):C->Option EO
 | .skip=>some (.code .normal s)
 | .ret=>some (.code .ret s)
 | .exit id=>some (.code (.exit id) s)
 | .region d l=>(asOps (R (.ops d 0 l (s.begin l.length)))).bind fun s' => some (.code .normal s')
 | .regionD ck l=>(asOps (R (.ops true 0 l (s.begin l.length)))).bind fun s' => (ask (sepAll G s'.st l ck)).bind fun _=>some (.code .normal s')
 | .seq a b=>(asCode (R (.code a s))).bind fun q=>match q with
   | (.normal,s1)=>(asCode (R (.code b s1))).bind fun q=>some (.code q.1 q.2)
   | (e,s1)=>some (.code e s1)
 | .cond c a b=>(evBool G s.st c).bind fun t=>(asCode (R (.code (if t then a else b) s))).bind fun q=>some (.code q.1 q.2)
 | .block id b=>(asCode (R (.code b s))).bind fun q=>some (.code (if q.1 = .exit id then .normal else q.1) q.2)
 | .loop b=>(asCode (R (.loop b s))).bind fun q=>some (.code q.1 q.2)
 | .rangeF x ps bd=>(evl G s.st x).bind fun fv=>(fnOf fv).bind fun g=>(Γ g.1).bind fun fn=>(ask fn.raw).bind fun _ =>
   (asVals (R (.rcall g.1 (g.2.1++[.yl s.nxt]++g.2.2) (s.heap.set s.nxt (some (.loop s.env.app ps bd .ready))) (s.nxt+1)))).bind fun r =>
   (loopAt r.2.1 s.nxt).bind fun q=>(LSt.ends q.2.2.2).bind fun e=>some (.code e { s with heap:=r.2.1.set s.nxt (some .dead),nxt:=r.2.2 })
 | .ext _=>none
 | .round _ _=>none
def evRest (d:Bool) (p:Nat) (o:ROp) (l:List ROp) (s:E) (e:Eff):Option EO :=
 (asOps (R (.ops d (p+1) l (s.apply o.dst e)))).bind fun s' => some (.ops s')
def evYield (d:Bool) (p:Nat) (o:ROp) (l:List ROp) (s:E) (k:Nat) (vs:List V):Option EO :=
 (loopAt s.heap k).bind fun q=>(ask (LSt.isReady q.2.2.2)).bind fun _=>(roundOf q.2.2.1).bind fun c=>(ask (decide (vs.length=q.2.1.length))).bind fun _ =>
 (asCode (R (.code c.1 (.round s.heap s.nxt k q.1 q.2.1 (.round c.1 c.2) vs)))).bind fun r1=>(ask (decide (r1.1 = .normal))).bind fun _ =>
 (loopAt r1.2.heap k).bind fun q1=>(ask (LSt.isEnter q1.2.2.2)).bind fun _ =>
 (asCode (R (.code c.2 { r1.2 with heap:=r1.2.heap.set k (some (.loop q1.1 q1.2.1 q1.2.2.1 .busy)) }))).bind fun r2 =>
 (loopAt r2.2.heap k).bind fun q2=>(ask (LSt.isBusy q2.2.2.2)).bind fun _ =>
 evRest R d p o l { s with heap:=r2.2.heap.set k (some (.loop q2.1 q2.2.1 q2.2.2.1 r2.1.toL)),nxt:=r2.2.nxt } { val:=.t (.bool (decide (r2.1=Ex.normal))) }
def evOp (d:Bool) (p:Nat) (o:ROp) (l:List ROp) (s:E):Option EO:=match callOf o.op with
 | some (raw,f,args)=>(ask (s.freeB o.dst {})).bind fun _=>(evl G s.st f).bind fun fv=>(evls G s.st args).bind fun vs=>match ylOf fv with
   | some k=>(ask raw).bind fun _=>evYield R d p o l s k vs
   | none=>(fnOf fv).bind fun g=>(Γ g.1).bind fun fn=>if raw then
      (ask fn.raw).bind fun _=>(asVals (R (.rcall g.1 (g.2.1++vs++g.2.2) s.heap s.nxt))).bind fun r=>evRest R d p o l { s with heap:=r.2.1,nxt:=r.2.2 } { val:=r.1 }
     else (ask (!fn.raw)).bind fun _=>((g.2.1++vs++g.2.2).mapM (toT1 s.st.heap)).bind fun rs=>(asVal (R (.pcall g.1 rs))).bind fun r =>
      (ask (!d||r.scalar||((g.2.1++vs++g.2.2).flatMap (reach1 s.st.heap)).isEmpty)).bind fun _ =>
      evRest R d p o l s { val:=r,hp:=if r.scalar then [] else freezes s.st.heap ((g.2.1++vs++g.2.2).flatMap (reach1 s.st.heap)) }
 | none=>match fcallOf o.op with
   | some (f,args)=>(ask (s.freeB o.dst {})).bind fun _=>(evl G s.st f).bind fun fv=>(evls G s.st args).bind fun vs=>(fnOf fv).bind fun g=>(Γ g.1).bind fun fn=>(ask fn.raw).bind fun _ =>
     ((g.2.1++vs++g.2.2).mapM (toT1 s.st.heap)).bind fun rs=>(ask ((g.2.1++vs++g.2.2).flatMap (reach1 s.st.heap)).isEmpty).bind fun _ =>
     (asVals (R (.rcall g.1 rs (.of fun _=>none) 0))).bind fun r=>(ownR (s.bas+p) r.1 r.2.1.app).bind fun e=>evRest R d p o l s e
   | none=>(aeval G p s.st o.op).bind fun e=>(ask (s.freeB o.dst e)).bind fun _=>evRest R d p o l s e
def evStep:ET->Option EO
 | .code c s=>evCode Γ G R s c
 | .loop b s=>(asCode (R (.code b s))).bind fun q=>match q with
   | (.normal,s1)=>(asCode (R (.loop b s1))).bind fun q=>some (.code q.1 q.2)
   | (e,s1)=>some (.code e s1)
 | .ops _ _ [] s=>some (.ops s)
 | .ops d p (o::l) s=>(wants s.st o.guard).bind fun w=>if w then evOp Γ G R d p o l s else (ask (s.freeB o.dst {})).bind fun _=>evRest R d p o l s {}
 | .pcall g args=>(Γ g).bind fun fn=>(ask (!fn.raw)).bind fun _=>match extOf fn.body with
   | some e=>(extPure e args).bind fun r=>some (.val r)
   | none=>(asCode (R (.code fn.body (.init args (.of fun _=>none) 0)))).bind fun q=>(ask (noExit q.1)).bind fun _=>(resAll q.2.st fn.results).bind fun v=>(reify q.2.st.heap v).bind fun r=>some (.val r)
 | .rcall g args h m=>(Γ g).bind fun fn=>(ask fn.raw).bind fun _=>match extOf fn.body with
   | some e=>(extSem e args h.app m).bind fun r=>some (.vals r.1 (.of r.2.1) r.2.2)
   | none=>(asCode (R (.code fn.body (.init args h m)))).bind fun q=>(ask (noExit q.1)).bind fun _=>(resAll q.2.st fn.results).bind fun v=>some (.vals v q.2.heap q.2.nxt)
end
def ev (Γ:Nat->Option F) (G:Nat->List T):Nat->ET->Option EO
 | 0=>fun _=>none
 | n+1=>evStep Γ G (ev Γ G n)
section
variable {Γ:Nat->Option F} {G:Nat->List T} {R:ET->Option EO}
def EvSound (Γ:Nat->Option F) (G:Nat->List T) (R:ET->Option EO):Prop := ∀ t o,R t=some o->Big Γ G t.task o.out
theorem bind_some {α β:Type} {x:Option α} {f:α->Option β} {b:β} (h:x.bind f=some b) : ∃ a,x=some a/\f a=some b:=by
 cases x with
 | none=>cases h
 | some a=>exact ⟨a,rfl,h⟩
theorem evCode_sound (hR:EvSound Γ G R) {s:E} {c:C} {o:EO} (h:evCode Γ G R s c=some o):Big Γ G (.code c s.st) o.out:=by
 cases c with
 | skip=>simp only [evCode,Option.some.injEq] at h; subst h; exact .skip
 | ret=>simp only [evCode,Option.some.injEq] at h; subst h; exact .ret
 | exit id=>simp only [evCode,Option.some.injEq] at h; subst h; exact .exit
 | region d l =>
   simp only [evCode] at h
   obtain ⟨s',h1,h⟩:=bind_some h
   simp only [Option.some.injEq] at h; subst h
   exact .region (hR _ _ (asOps_eq h1))
 | regionD ck l =>
   simp only [evCode] at h
   obtain ⟨s',h1,h⟩:=bind_some h
   obtain ⟨u,h2,h⟩:=bind_some h
   simp only [Option.some.injEq] at h; subst h
   exact .regionD (hR _ _ (asOps_eq h1)) (ask_eq h2)
 | seq a b =>
   simp only [evCode] at h
   obtain ⟨⟨e,s1⟩,h1,h⟩:=bind_some h
   have g1:=hR _ _ (asCode_eq h1)
   cases e with
   | normal =>
     obtain ⟨⟨e2,s2⟩,h2,h⟩:=bind_some h
     simp only [Option.some.injEq] at h; subst h
     exact .seqN g1 (hR _ _ (asCode_eq h2))
   | exit id=>simp only [Option.some.injEq] at h; subst h; exact .seqX g1 (by intro h; cases h)
   | ret=>simp only [Option.some.injEq] at h; subst h; exact .seqX g1 (by intro h; cases h)
 | cond c a b =>
   simp only [evCode] at h
   obtain ⟨t,ht,h⟩:=bind_some h
   obtain ⟨⟨e,s1⟩,h1,h⟩:=bind_some h
   simp only [Option.some.injEq] at h; subst h
   exact .cond ht (hR _ _ (asCode_eq h1))
 | block id b =>
   simp only [evCode] at h
   obtain ⟨⟨e,s1⟩,h1,h⟩:=bind_some h
   simp only [Option.some.injEq] at h; subst h
   exact .block (hR _ _ (asCode_eq h1))
 | loop b =>
   simp only [evCode] at h
   obtain ⟨⟨e,s1⟩,h1,h⟩:=bind_some h
   simp only [Option.some.injEq] at h; subst h
   exact .loop (hR _ _ (asCode_eq h1))
 | rangeF x ps bd =>
   simp only [evCode] at h
   obtain ⟨fv,hfv,h⟩:=bind_some h
   obtain ⟨⟨g,a,b⟩,hfn,h⟩:=bind_some h
   obtain ⟨fn,hg,h⟩:=bind_some h
   obtain ⟨_,hr,h⟩:=bind_some h
   obtain ⟨⟨r,h',n'⟩,hc,h⟩:=bind_some h
   obtain ⟨⟨env',ps',bd',st⟩,hl,h⟩:=bind_some h
   obtain ⟨e,he,h⟩:=bind_some h
   simp only [Option.some.injEq] at h; subst h
   have g1:=hR _ _ (asVals_eq hc)
   simp only [ET.task,EO.out,Fn.app_set] at g1
   have:=Big.rangeF (s:=s.st) (ps:=ps) (bd:=bd) hfv hfn hg (ask_eq hr) g1 (loopAt_eq hl) he
   simpa only [EO.out,E.st,Fn.app_set] using this
 | ext e=>simp [evCode] at h
 | round a b=>simp [evCode] at h
theorem evRest_sound (hR:EvSound Γ G R) {d:Bool} {p:Nat} {ro:ROp} {l:List ROp} {s:E} {e:Eff} {o:EO} (h:evRest R d p ro l s e=some o) : ∃ s',o = .ops s' /\ Big Γ G (.ops d (p+1) l (s.st.apply ro.dst e)) (.ops s'.st):=by
 obtain ⟨s',h1,h⟩:=bind_some h
 simp only [Option.some.injEq] at h; subst h
 have:=hR _ _ (asOps_eq h1)
 simp only [ET.task,EO.out,E.apply_st] at this
 exact ⟨s',rfl,this⟩
theorem isReady_eq {st:LSt} (h:st.isReady=true):st = .ready:=by cases st <;> first | rfl | cases h
theorem isEnter_eq {st:LSt} (h:st.isEnter=true):st = .enter:=by cases st <;> first | rfl | cases h
theorem isBusy_eq {st:LSt} (h:st.isBusy=true):st = .busy:=by cases st <;> first | rfl | cases h
theorem roundOf_eq {c a b:C} (h:roundOf c=some (a,b)):c = .round a b:=by cases c <;> first | (cases h; rfl) | cases h
theorem extOf_eq {c:C} {e:Ext} (h:extOf c=some e):c = .ext e:=by cases c <;> first | (cases h; rfl) | cases h
theorem ylOf_eq {v:V} {k:Nat} (h:ylOf v=some k):v = .yl k:=by cases v <;> first | (cases h; rfl) | cases h
theorem callOf_eq {o:AOp} {r:Bool} {f:Opd} {a:List Opd} (h:callOf o=some (r,f,a)):o = .call r f a:=by cases o <;> first | (cases h; rfl) | cases h
theorem fcallOf_eq {o:AOp} {f:Opd} {a:List Opd} (h:fcallOf o=some (f,a)):o = .fcall f a:=by cases o <;> first | (cases h; rfl) | cases h
theorem evYield_sound (hR:EvSound Γ G R) {d:Bool} {p:Nat} {ro:ROp} {l:List ROp} {s:E} {k:Nat} {vs:List V} {o:EO} {f:Opd} {args:List Opd} (hw:wants s.st ro.guard=some true) (hf:s.st.free ro.dst {}) (ho:ro.op = .call true f args)
 (hfv:evl G s.st f=some (.yl k)) (hvs:evls G s.st args=some vs) (h:evYield R d p ro l s k vs=some o):Big Γ G (.ops d p (ro::l) s.st) o.out:=by
 unfold evYield at h
 obtain ⟨⟨env,ps,bd,st⟩,hk,z1⟩:=bind_some h
 obtain ⟨_,hst,z2⟩:=bind_some z1
 obtain ⟨⟨ca,cb⟩,hc,z3⟩:=bind_some z2
 obtain ⟨_,hlen,z4⟩:=bind_some z3
 obtain ⟨⟨e1,s1⟩,h1,z5⟩:=bind_some z4
 obtain ⟨_,he1,z6⟩:=bind_some z5
 obtain ⟨⟨env1,ps1,bd1,st1⟩,hk1,z7⟩:=bind_some z6
 obtain ⟨_,hst1,z8⟩:=bind_some z7
 obtain ⟨⟨e2,s2⟩,h2,z9⟩:=bind_some z8
 obtain ⟨⟨env',ps',bd',st2⟩,hk2,z10⟩:=bind_some z9
 obtain ⟨_,hst2,z11⟩:=bind_some z10
 have q1:=isReady_eq (ask_eq hst)
 have q2:=isEnter_eq (ask_eq hst1)
 have q3:=isBusy_eq (ask_eq hst2)
 have q4:=roundOf_eq hc
 have q5:=of_decide_eq_true (ask_eq he1)
 have q6:=of_decide_eq_true (ask_eq hlen)
 simp only at q1 q2 q3 q4 q5 q6 h1 h2 hk hk1 hk2 z11
 subst q1 q2 q3 q4 q5
 obtain ⟨s',rfl,hb⟩:=evRest_sound hR z11
 have g1:=hR _ _ (asCode_eq h1)
 have g2:=hR _ _ (asCode_eq h2)
 simp only [ET.task,EO.out,E.round_st] at g1 g2
 refine .opsYield (s:=s.st) (s1:=s1.st) (s2:=s2.st) (e:=e2) hw hf ho hfv (loopAt_eq hk) hvs q6 g1 (loopAt_eq hk1) ?_ (loopAt_eq hk2) ?_
 ·simpa only [E.st,Fn.app_set] using g2
 ·simpa only [E.st,Fn.app_set] using hb
theorem evOp_sound (hR:EvSound Γ G R) {d:Bool} {p:Nat} {ro:ROp} {l:List ROp} {s:E} {o:EO} (hw:wants s.st ro.guard=some true) (h:evOp Γ G R d p ro l s=some o):Big Γ G (.ops d p (ro::l) s.st) o.out:=by
 unfold evOp at h
 split at h
 ·rename_i raw f args hcall
  have ho:=callOf_eq hcall
  obtain ⟨_,hf,h⟩:=bind_some h
  obtain ⟨fv,hfv,h⟩:=bind_some h
  obtain ⟨vs,hvs,h⟩:=bind_some h
  have hfree:=E.free_of (ask_eq hf)
  split at h
  ·rename_i k hk
   obtain ⟨_,hr,h⟩:=bind_some h
   have hk' := ylOf_eq hk
   rw [hk'] at hfv
   rw [ask_eq hr] at ho
   exact evYield_sound hR hw hfree ho hfv hvs h
  ·obtain ⟨⟨g,a,b⟩,hfn,h⟩:=bind_some h
   obtain ⟨fn,hg,h⟩:=bind_some h
   split at h
   ·rename_i hraw
    rw [hraw] at ho
    obtain ⟨_,hr,h⟩:=bind_some h
    obtain ⟨⟨r,h',n'⟩,hc,h⟩:=bind_some h
    obtain ⟨s',rfl,hb⟩:=evRest_sound hR h
    have g1:=hR _ _ (asVals_eq hc)
    exact .opsRaw hw hfree ho hfv hfn hg (ask_eq hr) hvs g1 hb
   ·rename_i hraw
    have hraw:raw=false:=by simpa using hraw
    rw [hraw] at ho
    obtain ⟨_,hr,h⟩:=bind_some h
    obtain ⟨rs,hrs,h⟩:=bind_some h
    obtain ⟨r,hc,h⟩:=bind_some h
    obtain ⟨_,hd,h⟩:=bind_some h
    obtain ⟨s',rfl,hb⟩:=evRest_sound hR h
    have g1:=hR _ _ (asVal_eq hc)
    have hr' : fn.raw=false:=by simpa using ask_eq hr
    have hd' := ask_eq hd
    simp only [Bool.or_eq_true,Bool.not_eq_true',List.isEmpty_iff] at hd'
    refine .opsPure hw hfree ho hfv hfn hg hr' hvs hrs g1 (fun h0 => ?_) hb
    rcases hd' with (hd' | hd') | hd'
    ·rw [hd'] at h0; cases h0
    ·exact .inl hd'
    ·exact .inr hd'
 ·split at h
  ·rename_i f args hcall
   have ho:=fcallOf_eq hcall
   obtain ⟨_,hf,h⟩:=bind_some h
   obtain ⟨fv,hfv,h⟩:=bind_some h
   obtain ⟨vs,hvs,h⟩:=bind_some h
   obtain ⟨⟨g,a,b⟩,hfn,h⟩:=bind_some h
   obtain ⟨fn,hg,h⟩:=bind_some h
   obtain ⟨_,hr,h⟩:=bind_some h
   obtain ⟨rs,hrs,h⟩:=bind_some h
   obtain ⟨_,hd,h⟩:=bind_some h
   obtain ⟨⟨r,h',n'⟩,hc,h⟩:=bind_some h
   obtain ⟨e,he,h⟩:=bind_some h
   obtain ⟨s',rfl,hb⟩:=evRest_sound hR h
   have g1:=hR _ _ (asVals_eq hc)
   exact .opsFresh hw (E.free_of (ask_eq hf)) ho hfv hfn hg (ask_eq hr) hvs hrs (List.isEmpty_iff.1 (ask_eq hd)) g1 he hb
  ·obtain ⟨e,he,h⟩:=bind_some h
   obtain ⟨_,hf,h⟩:=bind_some h
   obtain ⟨s',rfl,hb⟩:=evRest_sound hR h
   exact .opsEff hw (E.free_of (ask_eq hf)) he hb
theorem evStep_sound (hR:EvSound Γ G R):EvSound Γ G (evStep Γ G R):=by
 intro t o h
 cases t with
 | code c s=>exact evCode_sound hR h
 | loop b s =>
   simp only [evStep] at h
   obtain ⟨⟨e,s1⟩,h1,h⟩:=bind_some h
   have g1:=hR _ _ (asCode_eq h1)
   cases e with
   | normal =>
     obtain ⟨⟨e2,s2⟩,h2,h⟩:=bind_some h
     simp only [Option.some.injEq] at h; subst h
     exact .loopN g1 (hR _ _ (asCode_eq h2))
   | exit id=>simp only [Option.some.injEq] at h; subst h; exact .loopX g1 (by intro h; cases h)
   | ret=>simp only [Option.some.injEq] at h; subst h; exact .loopX g1 (by intro h; cases h)
 | ops d p l s =>
   cases l with
   | nil=>simp only [evStep,Option.some.injEq] at h; subst h; exact .opsNil
   | cons ro l =>
     simp only [evStep] at h
     obtain ⟨w,hw,h⟩:=bind_some h
     cases w with
     | true=>exact evOp_sound hR hw h
     | false =>
       simp only [Bool.false_eq_true,if_false] at h
       obtain ⟨_,hf,h⟩:=bind_some h
       obtain ⟨s',rfl,hb⟩:=evRest_sound hR h
       exact .opsSkip hw (E.free_of (ask_eq hf)) hb
 | pcall g args =>
   simp only [evStep] at h
   obtain ⟨fn,hg,h⟩:=bind_some h
   obtain ⟨_,hr,h⟩:=bind_some h
   have hr' : fn.raw=false:=by simpa using ask_eq hr
   split at h
   ·rename_i e he
    obtain ⟨r,hx,h⟩:=bind_some h
    simp only [Option.some.injEq] at h; subst h
    exact .pext hg hr' (extOf_eq he) hx
   ·obtain ⟨⟨e,s1⟩,h1,h⟩:=bind_some h
    obtain ⟨_,hn,h⟩:=bind_some h
    obtain ⟨v,hv,h⟩:=bind_some h
    obtain ⟨r,hre,h⟩:=bind_some h
    simp only [Option.some.injEq] at h; subst h
    exact .pcall hg hr' (hR _ _ (asCode_eq h1)) (noExit_of (ask_eq hn)) hv hre
 | rcall g args hp m =>
   simp only [evStep] at h
   obtain ⟨fn,hg,h⟩:=bind_some h
   obtain ⟨_,hr,h⟩:=bind_some h
   split at h
   ·rename_i e he
    obtain ⟨⟨r,h',n'⟩,hx,h⟩:=bind_some h
    simp only [Option.some.injEq] at h; subst h
    exact .rext hg (ask_eq hr) (extOf_eq he) hx
   ·obtain ⟨⟨e,s1⟩,h1,h⟩:=bind_some h
    obtain ⟨_,hn,h⟩:=bind_some h
    obtain ⟨v,hv,h⟩:=bind_some h
    simp only [Option.some.injEq] at h; subst h
    exact .rcall hg (ask_eq hr) (hR _ _ (asCode_eq h1)) (noExit_of (ask_eq hn)) hv
def evO (Γ:Nat->Option F) (G:Nat->List T) (K:Nat->List V->Option V):Nat->ET->Option EO
 | 0=>fun _=>none
 | n+1=>fun t=>match t with
   | .pcall g args=>(match K g args with
     | some r=>some (.val r)
     | none=>evStep Γ G (evO Γ G K n) (.pcall g args))
   | t=>evStep Γ G (evO Γ G K n) t
theorem evO_sound {K:Nat->List V->Option V} (hK : ∀ g args r,K g args=some r->Den Γ G g args=some r) : ∀ n,EvSound Γ G (evO Γ G K n)
 | 0=>fun _ _ h=>by cases h
 | n+1=>by
   intro t o h
   cases t with
   | pcall g args =>
     simp only [evO] at h
     split at h
     ·rename_i r hr
      simp only [Option.some.injEq] at h; subst h
      exact den_iff.1 (hK g args r hr)
     ·exact evStep_sound (evO_sound hK n) _ _ h
   | _=>exact evStep_sound (evO_sound hK n) _ _ h
theorem den_evO {K:Nat->List V->Option V} (hK : ∀ g args r,K g args=some r->Den Γ G g args=some r) (n:Nat) {g:Nat} {args:List V} {r:V}
 (h:evO Γ G K n (.pcall g args)=some (.val r)):Den Γ G g args=some r:=den_iff.2 (evO_sound hK n _ _ h)
end
end Rg
end
section
set_option maxRecDepth 100000
namespace Rg
open Go
def e1:Expr:=.mk 1 1 1 []
def ec (c:Int):Expr:=.mk 2 1 c []
def ldS (t c a:Int):Step:=⟨2,a,a+1,e1,[⟨2+t,ec c⟩],false,0,0⟩
def stS (t c a:Int):Step:=⟨3,a,a+1,e1,[⟨c,ec (2+t)⟩],false,0,0⟩
def feS:Step:=⟨5,1,2,e1,[],false,0,0⟩
def twoP (a b:List Step) (n:Int) (es:List Expr) (ms:List Int):Prog :=
 ⟨[⟨bs [120],1,0, -1,false,0⟩,⟨bs [121],1,0, -1,false,0⟩,⟨bs [114],1,0,0,false,0⟩,⟨bs [115],1,0,1,false,0⟩],[⟨bs [77],bs [65], .mk 0 0 0 [],e1,[0,1]⟩],[],
  [⟨bs [97],n,es,ms,a,[],false⟩,⟨bs [98],n,es,ms,b,[],false⟩]⟩
def pP:Prog:=twoP [stS 0 0 0,ldS 0 1 1] [stS 1 1 0,ldS 1 0 1] 3 [e1,e1,e1] [0,0,0]
def pQ:Prog:=twoP [stS 0 0 0,feS,ldS 0 1 2] [stS 1 1 0,feS,ldS 1 0 2] 4 [e1,e1,e1,e1] [0,0,0,0]
def pM:Prog:=twoP [stS 0 0 0,stS 0 1 1] [ldS 1 1 0,ldS 1 0 1] 3 [e1,e1,e1] [0,0,0]
def pB:Prog:=⟨[⟨bs [],0,0,0,false,0⟩],[],[],[]⟩
abbrev progV (p:Prog):V:=(.agg [.t (.sl ((p).cells.map (Cell.enc))), .t (.sl ((p).modules.map (Contract.enc))), .t (.sl ((p).locks.map (Lock.enc))), .t (.sl ((p).threads.map (Thread.enc)))])
theorem cP:cycleM pP 1=some [⟨0,0,0,true⟩,⟨0,1,1,false⟩,⟨1,0,1,true⟩,⟨1,1,0,false⟩]:=by decide +kernel
theorem rP:robM pP 0=true:=by decide +kernel
theorem rQ:robM pQ 2=true:=by decide +kernel
theorem rM:robM pM 1=true:=by decide +kernel
theorem cM:cycleM pM 2=some [⟨0,0,0,true⟩,⟨0,1,1,true⟩,⟨1,0,1,false⟩,⟨1,1,0,false⟩]:=by decide +kernel
theorem rB:robM pB 0=false:=by decide +kernel
mutual
def eqT:T->T->Bool
 | .int k a, .int l b=>decide (k=l)&&decide (a=b)
 | .bool a, .bool b=>decide (a=b)
 | .str a, .str b=>decide (a.data.toList=b.data.toList)
 | .sl a, .sl b=>eqRs a b
 | _,_=>false
def eqR:List T->List T->Bool
 | [],[]=>true
 | x::a,y::b=>eqT x y&&eqR a b
 | _,_=>false
def eqRs:List (List T)->List (List T)->Bool
 | [],[]=>true
 | x::a,y::b=>eqR x y&&eqRs a b
 | _,_=>false
end
mutual
theorem eqT_eq : ∀ {a b:T},eqT a b=true->a=b
 | .int k a,b,h=>by
   cases b <;> simp only [eqT,Bool.and_eq_true,decide_eq_true_eq,Bool.false_eq_true] at h
   rw [h.1,h.2]
 | .bool a,b,h=>by
   cases b <;> simp only [eqT,decide_eq_true_eq,Bool.false_eq_true] at h
   rw [h]
 | .str a,b,h=>by
   cases b <;> simp only [eqT,decide_eq_true_eq,Bool.false_eq_true] at h
   rename_i b
   have:a=b:=by
    cases a; cases b
    congr
    exact Array.toList_inj.1 h
   rw [this]
 | .sl a,b,h=>by
   cases b <;> simp only [eqT,Bool.false_eq_true] at h
   rw [eqRs_eq h]
 | .nilp,b,h=>by simp [eqT] at h
 | .nils,b,h=>by simp [eqT] at h
 | .nilm,b,h=>by simp [eqT] at h
 | .nilf,b,h=>by simp [eqT] at h
 | .nili,b,h=>by simp [eqT] at h
 | .ip _,b,h=>by simp [eqT] at h
 | .fn _ _ _,b,h=>by simp [eqT] at h
 | .fa _ _,b,h=>by simp [eqT] at h
 | .opq,b,h=>by simp [eqT] at h
theorem eqR_eq : ∀ {a b:List T},eqR a b=true->a=b
 | [],[],_=>rfl
 | [],_::_,h=>by simp [eqR] at h
 | _::_,[],h=>by simp [eqR] at h
 | x::a,y::b,h=>by
   simp only [eqR,Bool.and_eq_true] at h
   rw [eqT_eq h.1,eqR_eq h.2]
theorem eqRs_eq : ∀ {a b:List (List T)},eqRs a b=true->a=b
 | [],[],_=>rfl
 | [],_::_,h=>by simp [eqRs] at h
 | _::_,[],h=>by simp [eqRs] at h
 | x::a,y::b,h=>by
   simp only [eqRs,Bool.and_eq_true] at h
   rw [eqR_eq h.1,eqRs_eq h.2]
end
def cellsT:List V->Option (List T)
 | []=>some []
 | .t x::r=>(cellsT r).map (x :: ·)
 | _=>none
theorem cellsT_eq : ∀ {l:List V} {r:List T},cellsT l=some r->l=r.map V.t
 | [],r,h=>by cases h; rfl
 | .t x::l,r,h=>by
   simp only [cellsT,Option.map_eq_some_iff] at h
   obtain ⟨y,hy,rfl⟩:=h
   rw [cellsT_eq hy]; rfl
 | .ms _ _ _::_,_,h=>by cases h
 | .mp _ _ _::_,_,h=>by cases h
 | .mm _::_,_,h=>by cases h
 | .yl _::_,_,h=>by cases h
 | .fn _ _ _::_,_,h=>by cases h
 | .agg _::_,_,h=>by cases h
 | .tup _::_,_,h=>by cases h
 | .undef::_,_,h=>by cases h
 | .lb::_,_,h=>by cases h
def eqV:V->V->Bool
 | .t a, .t b=>eqT a b
 | .agg a, .agg b=>match cellsT a,cellsT b with
   | some x,some y=>eqR x y
   | _,_=>false
 | _,_=>false
theorem eqV_eq {a b:V} (h:eqV a b=true):a=b:=by
 unfold eqV at h
 split at h
 ·rw [eqT_eq h]
 ·split at h
  ·rename_i h1 h2
   rw [cellsT_eq h1,cellsT_eq h2,eqR_eq h]
  ·cases h
 ·cases h
def eqVs:List V->List V->Bool
 | [],[]=>true
 | x::a,y::b=>eqV x y&&eqVs a b
 | _,_=>false
theorem eqVs_eq : ∀ {a b:List V},eqVs a b=true->a=b
 | [],[],_=>rfl
 | [],_::_,h=>by simp [eqVs] at h
 | _::_,[],h=>by simp [eqVs] at h
 | x::a,y::b,h=>by
   simp only [eqVs,Bool.and_eq_true] at h
   rw [eqV_eq h.1,eqVs_eq h.2]
def orcl (l:List (Nat×List V×V)) (g:Nat) (args:List V):Option V:=(l.find? fun e=>e.1==g&&eqVs e.2.1 args).map (·.2.2)
theorem orcl_ok {l:List (Nat×List V×V)} (h : ∀ e∈l,Den Γ G e.1 e.2.1=some e.2.2) : ∀ g args r,orcl l g args=some r->Den Γ G g args=some r:=by
 intro g args r hr
 unfold orcl at hr
 rw [Option.map_eq_some_iff] at hr
 obtain ⟨e,he,rfl⟩:=hr
 have h1:=List.find?_some he
 simp only [Bool.and_eq_true,beq_iff_eq] at h1
 rw [<- h1.1, <- eqVs_eq h1.2]
 exact h e (List.mem_of_find?_eq_some he)
def cycV (l:List Acc):V:=.tup [.t (.sl (l.map Acc.enc)),vb true]
def known30:List (Nat×List V×V) :=
 [(288,[progV pP,vi 1],cycV [⟨0,0,0,true⟩,⟨0,1,1,false⟩,⟨1,0,1,true⟩,⟨1,1,0,false⟩]),(291,[progV pP,vi 1], .t (.sl ((delaysM pP 1).map dlT))),(293,[progV pP], .t (.sl ((accessesM pP).map Acc.enc))),
  (289,[progV pP,vi 0],vb true),(289,[progV pQ,vi 2],vb true),(289,[progV pM,vi 1],vb true),
  (288,[progV pM,vi 2],cycV [⟨0,0,0,true⟩,⟨0,1,1,true⟩,⟨1,0,1,false⟩,⟨1,1,0,false⟩]),(289,[progV pB,vi 0],vb false)]
theorem sP:pP.sane:=⟨by decide,by decide,by decide,by decide,by decide +kernel,by decide +kernel,by decide +kernel,by decide +kernel,by decide +kernel⟩
theorem sQ:pQ.sane:=⟨by decide,by decide,by decide,by decide,by decide +kernel,by decide +kernel,by decide +kernel,by decide +kernel,by decide +kernel⟩
theorem sM:pM.sane:=⟨by decide,by decide,by decide,by decide,by decide +kernel,by decide +kernel,by decide +kernel,by decide +kernel,by decide +kernel⟩
theorem sB:pB.sane:=⟨by decide,by decide,by decide,by decide,by decide +kernel,by decide +kernel,by decide +kernel,by decide +kernel,by decide +kernel⟩
theorem tP : ∀ x∈pP.threads, ∀ s∈x.steps,s.set.length<2^20:=by decide +kernel
theorem tQ : ∀ x∈pQ.threads, ∀ s∈x.steps,s.set.length<2^20:=by decide +kernel
theorem tM : ∀ x∈pM.threads, ∀ s∈x.steps,s.set.length<2^20:=by decide +kernel
theorem tB : ∀ x∈pB.threads, ∀ s∈x.steps,s.set.length<2^20:=by decide +kernel
theorem known30_ok : ∀ e∈known30,Den Γ G e.1 e.2.1=some e.2.2:=by
 intro e he
 simp only [known30,List.mem_cons,List.not_mem_nil,or_false] at he
 rcases he with rfl | rfl | rfl | rfl | rfl | rfl | rfl | rfl
 ·have:=cycle_den pP sP tP 1
  rw [cP] at this
  exact this
 ·exact delays_den pP sP tP 1
 ·exact accesses_den pP sP tP
 ·have:=robust_den pP sP tP 0
  rw [rP] at this
  exact this
 ·have:=robust_den pQ sQ tQ 2
  rw [rQ] at this
  exact this
 ·have:=robust_den pM sM tM 1
  rw [rM] at this
  exact this
 ·have:=cycle_den pM sM tM 2
  rw [cM] at this
  exact this
 ·have:=robust_den pB sB tB 0
  rw [rB] at this
  exact this
theorem head30_den:Den Γ G 286 []=some (vb true):=den_evO (orcl_ok known30_ok) 3000 (by kernel_rfl)
end Rg
end
section
namespace Rg
open Go
def sumS (l:List Thread):Nat:=(l.map fun x=>x.steps.length).sum
def fits30 (p:Prog):Bool:=progSmall 40 p&&decide (sumS p.threads<=36)
theorem sumS_succ {l:List Thread} {i:Nat} {x:Thread} (h:l[i]? = some x):sumS (l.take (i+1))=sumS (l.take i)+x.steps.length:=by
 rw [take_succ_of h]; simp [sumS]
theorem sumS_le (l:List Thread) (h : ∀ x∈l,x.steps.length<=80) : ∀ i,i<=l.length->sumS (l.take i)<=80*i
 | 0,_=>by simp [sumS]
 | i+1,hi=>by
   obtain ⟨x,hx,hxm⟩:=get_of (show i<l.length by omega)
   rw [sumS_succ hx]
   have:=sumS_le l h i (by omega)
   have:=h x hxm
   omega
theorem fits_den (p:Prog):Den Γ G 287 [(.agg [.t (.sl ((p).cells.map (Cell.enc))), .t (.sl ((p).modules.map (Contract.enc))), .t (.sl ((p).locks.map (Lock.enc))), .t (.sl ((p).threads.map (Thread.enc)))])]=some (vb (fits30 p)):=by
 have h1:=small7_den p 40 (by decide)
 (refine den_ofY Γ287 rfl ?_; dsimp only [f287])
 simp -dsimp -implicitDefEqProofs only [go_sem,seval,h1]
 unfold fits30
 cases hs:progSmall 40 p
 ·simp -dsimp -implicitDefEqProofs only [go_sem,seval]
  rfl
 ·have hS:=progSmall_of hs
  have hT:=hS.threads
  have hst : ∀ x∈p.threads,x.steps.length<=80:=fun x hx=>(hS.thr x hx).2.2.1
  simp -dsimp -implicitDefEqProofs only [go_sem,seval]
  refine loopY 16776984 p.threads.length (fun i f=>(f 4).v=vi i/\(f 3).v=vi (sumS (p.threads.take i))) rfl rfl ⟨by simp -dsimp -implicitDefEqProofs only [go_sem,seval],by simp -dsimp -implicitDefEqProofs only [go_sem,seval]; rfl⟩ ?_
  rintro i f u kk bb hi ⟨h4,h3⟩
  have hw:=wrapS i (by omega)
  have hle:=sumS_le p.threads hst i hi
  simp -dsimp -implicitDefEqProofs only [go_sem,seval,h4]
  refine csplit (fun h => ?_) (fun h => ?_) <;> (try rw [h]) <;> (try simp only [bools] at h) <;> (try simp -dsimp -implicitDefEqProofs only [go_sem,seval,h4])
  ·obtain ⟨x,hx,hxm⟩:=get_of ‹i<p.threads.length›
   have hsx:=hst x hxm
   have hadd:IntKind.i64.wrap ((sumS (p.threads.take i):Int)+x.steps.length)=((sumS (p.threads.take (i+1)):Nat):Int):=by
    rw [sumS_succ hx,wrap64 (by omega)]; push_cast; rfl
   simp -dsimp -implicitDefEqProofs only [go_sem,seval,h4,h3,hx,hadd]
   exact ⟨by omega,by simp -dsimp -implicitDefEqProofs only [go_sem,seval,h4,hw],by simp -dsimp -implicitDefEqProofs only [go_sem,seval]⟩
  ·have:i=p.threads.length:=by omega
   subst this
   rw [List.take_length] at h3
   have hd:decide ((sumS p.threads:Int)<=36)=decide (sumS p.threads<=36):=by simp; omega
   simp -dsimp -implicitDefEqProofs only [go_sem,seval,h3,hd]
theorem fits_small {p:Prog} (h:fits30 p=true):p.SmallP 40:=by
 unfold fits30 at h
 rw [Bool.and_eq_true] at h
 exact progSmall_of h.1
theorem small_set {p:Prog} {L:Int} (h:p.SmallP L) : ∀ x∈p.threads, ∀ s∈x.steps,s.set.length<2^20:=fun x hx s hs=>by
 have:=(h.steps x hx s hs).1; omega
set_option maxHeartbeats 2000000
end Rg
end
section
set_option maxRecDepth 100000
namespace Rg
open Go
end Rg
end
