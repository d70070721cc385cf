/- Part of the proof of the laws of the package relyguardlaw12: an abstract machine for the program's functions, what they compute, and that the machine is the program's. No condition. (H21n H21o H21p H21q H21r H22a H22b) -/
import Derived.Test.YtadooimmjnipcaaGreatDoorPartBE
set_option linter.unusedSimpArgs false
set_option linter.unusedVariables false
section
namespace Rg
open Go
theorem LstV.upd {h:Nat->Option O} {n kL ky:Nat} {l:List Choice} {env:Nat->V} {ps:List Nat} {bd:C} {st:LSt} (o:Option O) (a:LstV h n kL l) (hk:h ky=some (.loop env ps bd st)) (hne:ky≠kL):LstV (updC h ky o) n kL l:=by
 obtain ⟨v,v1,v2⟩:=a
 refine ⟨v,by rw [updC_at,if_neg hne.symm]; exact v1, ?_⟩
 rcases v2 with h1 | ⟨k2,h1,h2,h3⟩
 ·exact .inl h1
 ·exact .inr ⟨k2,h1,h2,by rw [updC_at,if_neg (by rintro rfl; rw [hk] at h3; simp at h3)]; exact h3⟩
theorem rng_from {o:Option (V×(Nat->Option O)×Nat)} {k:Nat} {P:Ex->(Nat->Option O)->Nat->Prop} {Q:(Nat->Option O)->Nat->Prop} (h : ∃ r h' n',o=some (r,h',n')/\Q h' n')
 (hQ : ∀ h' n',Q h' n' -> ∃ env ps bd st e,h' k=some (.loop env ps bd st)/\st.ends=some e/\P e h' n') : ∃ r h' n',o=some (r,h',n') /\ ∃ env ps bd st e,h' k=some (.loop env ps bd st)/\st.ends=some e/\P e h' n' := by
 obtain ⟨r,h',n',h1,h2⟩:=h
 exact ⟨r,h',n',h1,hQ h' n' h2⟩
theorem enabledBW_den (p:Prog) (hs:p.sane) (hf:formedM p=true) (k:Int) (hk:k=1\/k=2) (c:Config) (hc:IsB p c):Den Γ G 179 [(.agg [.t (.sl ((p).cells.map (Cell.enc))), .t (.sl ((p).modules.map (Contract.enc))), .t (.sl ((p).locks.map (Lock.enc))), .t (.sl ((p).threads.map (Thread.enc)))]),vi k,(.agg [.t (ints (c).mem), .t (ints (c).at_), .t (.sl ((c).buf.map (fun b=>[.sl (b.map Entry.enc)])))])]=some (.t (.sl ((choicesB p k c).map Choice.enc))):=by
 obtain ⟨⟨m1,m2,m3,m4⟩,l5⟩:=limits_points (formed_limits hf).1
 have l1:=hc.lm
 have l2:=hc.la
 have l3:=hc.lb
 have hld:=load_den p hs hf c hc k hk
 have k0 : ¬ k=0:=by omega
 unfold stV at hld
 (refine den_ofY Γ179 rfl ?_; dsimp only [f179])
 simp -dsimp -implicitDefEqProofs only [go_sem,seval,k0,hld]
 refine loopYH 37797378607022281333760 c.at_.length (fun i f h x=>(f 33).v=vi i/\LstV h x 17 (choicesBN p k c i)/\18<=x) rfl ?_ ?_
 ·exact ⟨by simp -dsimp -implicitDefEqProofs only [go_sem,seval],⟨.t .nils,by simp -dsimp -implicitDefEqProofs only [go_sem,seval], .inl ⟨rfl,rfl⟩⟩,by simp -dsimp -implicitDefEqProofs only [go_sem,seval]⟩
 rintro i f u H z bs hi ⟨h33,hL,hz⟩
 have hw:=wrapS i (by omega)
 simp -dsimp -implicitDefEqProofs only [go_sem,seval,h33]
 refine csplit (fun h => ?_) (fun h => ?_) <;> (try rw [h]) <;> (try simp only [bools] at h) <;> (try simp -dsimp -implicitDefEqProofs only [go_sem,seval,h33])
 ·obtain ⟨x,hx,hxm⟩:=get_of (show i<p.threads.length by omega)
  have hv:=view_den p hf c hc i (by omega)
  obtain ⟨_,hst,_⟩:=l5 x hxm
  simp -dsimp -implicitDefEqProofs only [go_sem,seval,h33,hv,hx]
  refine loopYH 2305772640469520384 x.steps.length (fun j f' h' x' => (f' 46).v=vi j/\h' (z+1+1)=some (.rows 1 [[vi i]] false)/\LstV h' x' 17 (choicesBN p k c i++stepsB p c i x j)/\z+3<=x') rfl ?_ ?_
  ·obtain ⟨v,v1,v2⟩:=hL
   have u1:17≠z+1+1:=by omega
   refine ⟨by simp -dsimp -implicitDefEqProofs only [go_sem,seval],by simp -dsimp -implicitDefEqProofs only [go_sem,seval],⟨v,by simp -dsimp -implicitDefEqProofs only [go_sem,seval,u1,v1], ?_⟩,by simp -dsimp -implicitDefEqProofs only [go_sem,seval]; omega⟩
   have e0:stepsB p c i x 0=[]:=rfl
   rw [e0,List.append_nil]
   rcases v2 with h1 | ⟨k2,h1,h2,h3⟩
   ·exact .inl h1
   ·have u2:k2≠z+1+1:=by omega
    exact .inr ⟨k2,h1,by simp -dsimp -implicitDefEqProofs only [go_sem,seval]; omega,by simp -dsimp -implicitDefEqProofs only [go_sem,seval,u2,h3]⟩
  rintro j f' u' H' z' bs' hj ⟨h46,hT,hL',hz'⟩
  have hw' := wrapS j (by omega)
  simp -dsimp -implicitDefEqProofs only [go_sem,seval,h46]
  refine csplit (fun h => ?_) (fun h => ?_) <;> (try rw [h]) <;> (try simp only [bools] at h) <;> (try simp -dsimp -implicitDefEqProofs only [go_sem,seval,h46,h33])
  ·obtain ⟨s,hs',hsm⟩:=get_of ‹j<x.steps.length›
   have hen:=enabledB_den p hf k c hc i x hx j s hs'
   unfold stV at hen
   obtain ⟨v,v1,v2⟩:=hL'
   simp -dsimp -implicitDefEqProofs only [go_sem,seval,h46,h33,hT,hen,v1]
   refine csplit (fun h => ?_) (fun h => ?_) <;> (try rw [h]) <;> (try simp only [bools] at h) <;> (try simp -dsimp -implicitDefEqProofs only [go_sem,seval,h46,h33,hT,v1])
   ·have hvv:=v2.valOf
    have hll:(choicesBN p k c i++stepsB p c i x j).length<2^20:=by
     have h1:=choicesBN_len hf (k:=k) hc i
     have h2:=stepsB_len p c i x j
     rw [List.length_append]; omega
    have hsucc:=stepsB_succ (p:=p) (c:=c) (t:=i) hs'
    rw [h,if_pos rfl] at hsucc
    have hoG:OwnB (updC H' (z' + 1+2+5+4) (some (O.rows 3 [[V.t (T.int IntKind.i64 i),V.t (T.int IntKind.i64 j),V.t (T.int IntKind.i64 0)]] false))) (z' + 1+2+5+5) v 3 (rowsC (choicesBN p k c i++stepsB p c i x j)):=by
     rcases v2 with h1 | ⟨k2,h1,h2,h3⟩
     ·exact .inl h1
     ·exact .inr ⟨k2,h1,by omega,by rw [updC_at,if_neg (by omega)]; exact h3⟩
    have hrs:=hoG.rowsS
    simp -dsimp -implicitDefEqProofs only [go_sem,seval,h46,h33,hT,v1,hvv,hrs]
    refine putA_app1 hoG (Nat.le_refl _) (by rw [rowsC_len]; omega) (by decide) rfl (rowsC_all _) ?_
    intro v3 hp hO hof hkp
    rcases hO with ⟨_,he0⟩ | ⟨k3,rfl,hk3a,hk3h⟩
    ·simp at he0
    have hk3q:z' + 1+2+5+5<=k3:=by
     rcases Nat.lt_or_ge k3 (z' + 1+2+5+5) with h1 | h1
     ·exact absurd rfl (hof k3 h1 0 _)
     ·exact h1
    have hoffv : ∀ q,(∀ rs fz,H' q≠some (.rows 3 rs fz))->offK v q:=fun q hq=>by
     rcases v2 with ⟨rfl,_⟩ | ⟨kv,rfl,h2,h3⟩
     ·intro i n h0; cases h0
     ·refine offK_ms ?_ _ _
      rintro rfl; exact hq _ _ h3
    have y1:=hkp 17 (by omega) (hoffv 17 (by rw [v1]; simp))
    have y2:=hkp (z+1+1) (by omega) (hoffv _ (by rw [hT]; simp))
    rw [updC_at,if_neg (by omega),v1] at y1
    rw [updC_at,if_neg (by omega),hT] at y2
    have u1:z+1+1≠17:=by omega
    have u2:k3≠17:=by omega
    simp -dsimp -implicitDefEqProofs only [go_sem,seval,h46,y1]
    refine ⟨by omega,by simp -dsimp -implicitDefEqProofs only [go_sem,seval,hw'],by simp -dsimp -implicitDefEqProofs only [go_sem,seval,u1,y2],⟨.ms k3 0 (rowsC (choicesBN p k c i++stepsB p c i x j)++[[vi i,vi j,vi 0]]).length,by simp -dsimp -implicitDefEqProofs only [go_sem,seval], .inr ⟨k3, ?_,by simp -dsimp -implicitDefEqProofs only [go_sem,seval]; omega, ?_⟩⟩,by simp -dsimp -implicitDefEqProofs only [go_sem,seval]; omega⟩
    ·rw [hsucc, <- List.append_assoc,rowsC_app]
    ·simp -dsimp -implicitDefEqProofs only [go_sem,seval,u2]
     rw [hk3h,hsucc, <- List.append_assoc,rowsC_app]
   ·have hsucc:=stepsB_succ (p:=p) (c:=c) (t:=i) hs'
    rw [h] at hsucc
    simp only [Bool.false_eq_true,if_false,List.append_nil] at hsucc
    refine ⟨by omega,by simp -dsimp -implicitDefEqProofs only [go_sem,seval,hw'],by simp -dsimp -implicitDefEqProofs only [go_sem,seval,hT],⟨v,by simp -dsimp -implicitDefEqProofs only [go_sem,seval,v1], ?_⟩,by simp -dsimp -implicitDefEqProofs only [go_sem,seval]; omega⟩
    rw [hsucc]
    exact v2.le (by simp -dsimp -implicitDefEqProofs only [go_sem,seval]; omega)
  ·have hj2:j=x.steps.length:=by omega
   subst hj2
   have hop:=open_den p k c i
   unfold stV at hop
   simp -dsimp -implicitDefEqProofs only [go_sem,seval,hT,h33,hop]
   generalize hE:envC _=env
   have e9:env 9 = .mp 17 0 0:=by rw [<- hE]; simp -dsimp -implicitDefEqProofs only [go_sem,seval]
   have e10:env 10 = .mp (z+1+1) 0 0:=by rw [<- hE]; simp -dsimp -implicitDefEqProofs only [go_sem,seval]
   clear hE
   have hb:=(hc.buf i _ (bufM_at (c:=c) (t:=i) (by omega))).2.1
   have hLen:(choicesBN p k c i++stepsB p c i x x.steps.length).length<2^19:=by
    have h1:=choicesBN_len hf (k:=k) hc i
    have h2:=stepsB_len p c i x x.steps.length
    rw [List.length_append]; omega
   refine rngK_of (P:=fun e h' n' => e = .normal/\LstV (updC h' (z' + 1+3) (some .dead)) n' 17 (choicesBN p k c (i+1))/\18<=n') ?_ ?_
   ·refine rng_from (open1_den p hf k c hc i (by omega) (z' + 1+3)
     (fun q h n=>h (z' + 1+3)=some (.loop env [64,65] b179_0 .ready)/\h (z+1+1)=some (.rows 1 [[vi i]] false)/\LstV h n 17 (choicesBN p k c i++stepsB p c i x x.steps.length++entsB k i (bufM c i) q)/\z' + 1+4<=n)
     (fun _ _=>False) ?_ (fun _ _ _ h _=>h) ?_ _ _ ?_) ?_
    ·rintro q h n m ⟨a1,a2,⟨v,v1,v2⟩,a4⟩ hnm
     exact ⟨a1,a2,⟨v,v1,v2.le hnm⟩,by omega⟩
    ·rintro q e h n he ⟨a1,a2,a3,a4⟩
     have hsucc:=entsB_succ (k:=k) (t:=i) he
     have hqb:=(List.getElem?_eq_some_iff.1 he).1
     have hbl:=(hc.buf i _ (bufM_at (c:=c) (t:=i) (by omega))).1
     cases ho:openM k (bufM c i) q e
     ·rw [if_neg (by simp)]
      rw [ho,if_neg (by simp),List.append_nil] at hsucc
      rw [hsucc]
      exact ⟨a1,a2,a3,a4⟩
     ·rw [if_pos rfl]
      rw [ho,if_pos rfl] at hsucc
      have hEl:=entsB_len k i (bufM c i) q
      obtain ⟨h',n',b1,b2,b3,b4,b5,b6⟩:=roundE (i:=q) (e:=e) a1 e9 e10 a2 a3 (by omega) (by omega) (by omega) (by omega) (by omega) (by omega) (hb e (List.mem_of_getElem? he)).ne (by rw [List.length_append]; omega)
      refine ⟨true,h',n',b1, ?_⟩
      rw [if_pos rfl,hsucc, <- List.append_assoc]
      exact ⟨b2,b3,b4,by omega⟩
    ·obtain ⟨v,v1,v2⟩:=hL'
     have u1:z+1+1≠z' + 1+3:=by omega
     have u2:17≠z' + 1+3:=by omega
     refine ⟨by rw [updC_at,if_pos rfl],by rw [updC_at,if_neg u1]; exact hT,⟨v,by rw [updC_at,if_neg u2]; exact v1, ?_⟩,by omega⟩
     have e0:entsB k i (bufM c i) 0=[]:=rfl
     rw [e0,List.append_nil]
     rcases v2 with h1 | ⟨k2,h1,h2,h3⟩
     ·exact .inl h1
     ·exact .inr ⟨k2,h1,by omega,by rw [updC_at,if_neg (by omega)]; exact h3⟩
    ·rintro h' n' (hI | ⟨⟨⟩⟩)
     refine ⟨env,[64,65],b179_0, .ready, .normal,hI.1,rfl,rfl, ?_,by omega⟩
     rw [choicesBN_succ hx, <- List.append_assoc]
     exact hI.2.2.1.upd _ hI.1 (by omega)
   ·rintro e h' n' ⟨rfl,⟨v,v1,v2⟩,hn2⟩
    simp -dsimp -implicitDefEqProofs only [go_sem,seval,h33]
    refine ⟨by omega,by simp -dsimp -implicitDefEqProofs only [go_sem,seval,hw],⟨v,by simp -dsimp -implicitDefEqProofs only [go_sem,seval,v1], ?_⟩,by simp -dsimp -implicitDefEqProofs only [go_sem,seval]; omega⟩
    exact v2.le (by simp -dsimp -implicitDefEqProofs only [go_sem,seval]; omega)
 ·have hi2:i=c.at_.length:=by omega
  subst hi2
  obtain ⟨v,v1,v2⟩:=hL
  have hvv:=v2.valOf
  have hre:=v2.reify (choice_norm _)
  have v5:=v2.resVal
  simp only [Rg.resVal] at v5
  simp -dsimp -implicitDefEqProofs only [go_sem,seval,v1,hvv,v5]
  rw [l2] at hre
  exact hre
end Rg
end
section
namespace Rg
open Go
structure NxV (p:Prog) (k:Int) (c:Config) (t:Nat) (n:Int) (env:Nat->V) (ky k7 k8 k9 kS:Nat) (h:Nat->Option O) (x:Nat):Prop where
 e7:env 7 = .mp k7 0 0
 e8:env 8 = .mp k8 0 0
 e9:env 9 = .mp k9 0 0
 e10:env 10 = .mp kS 0 0
 hy:h ky=some (.loop env [57,58] b180_0 .ready)
 h7:h k7=some (.rows 3 [[vi t,vi (-1),vi n]] false)
 h8:h k8=some (.rows 3 [[.t .nils, .t .nils, .t .nils]] false)
 h9:h k9=some (.rows 1 [[vi 0]] false)
 hS:h kS=some (.rows 8 [[.t (ints c.mem), .t (ints c.at_), .t (.sl (c.buf.map fun b=>[.sl (b.map Entry.enc)])), .t (.sl (p.cells.map Cell.enc)), .t (.sl (p.modules.map Contract.enc)), .t (.sl (p.locks.map Lock.enc)), .t (.sl (p.threads.map Thread.enc)),vi k]] false)
 ly:ky<x
 l7:k7<ky
 l8:k8<ky
 l9:k9<ky
 lS:kS<ky
 d78:k7≠k8
 d79:k7≠k9
 d7S:k7≠kS
 d89:k8≠k9
 d8S:k8≠kS
 d9S:k9≠kS
theorem roundN_no {p:Prog} {k:Int} {c:Config} {t i:Nat} {n:Int} {env:Nat->V} {ky k7 k8 k9 kS:Nat} {h:Nat->Option O} {x:Nat} {e:Entry} (H:NxV p k c t n env ky k7 k8 k9 kS h x) (hne:e.cells≠[]) (hn:headC e≠n) :
 ∃ h' n',DenY Γ G ky [vi i, .agg [.t (ints e.cells), .t (ints e.values)]] h x=some (vb true,h',n')/\NxV p k c t n env ky k7 k8 k9 kS h' n' := by
 have hc0:e.cells[0]? = some (headC e):=by
  cases hc:e.cells with
  | nil=>exact absurd hc hne
  | cons a r=>simp [headC,hc]
 obtain ⟨e7,e8,e9,e10,hy,h7,h8,h9,hS,ly,l7,l8,l9,lS,d78,d79,d7S,d89,d8S,d9S⟩:=H
 have a1:k7≠x+1+0:=by omega
 have a2:k8≠x+1+0:=by omega
 have a3:k9≠x+1+0:=by omega
 have a4:kS≠x+1+0:=by omega
 have a5:ky≠x+1+0:=by omega
 have c1:x+1+0≠k7:=by omega
 have c2:x+1+0≠k8:=by omega
 have c3:x+1+0≠k9:=by omega
 have c4:x+1+0≠kS:=by omega
 have c5:x+1+0≠ky:=by omega
 have b1:k7≠ky:=by omega
 have b2:k8≠ky:=by omega
 have b3:k9≠ky:=by omega
 have b4:kS≠ky:=by omega
 have:=denY_of (Γ:=Γ) (G:=G) (vs:=[vi i, .agg [.t (ints e.cells), .t (ints e.values)]]) (n:=x) (P:=fun ex h' n' => ex = .normal/\h' ky=some (.loop env [57,58] b180_0 .busy)/\x<=n' /\ (∀ j,j<ky->h' j=h j)) hy rfl (fun ex h' n' hP=>⟨_,_,_,hP.2.1⟩) (by
  simp -dsimp -implicitDefEqProofs only [go_sem,seval,e7,h7,a1,a2,a3,a4,a5,b1,b2,b3,b4,c1,c2,c3,c4,c5,hc0,hn]
  refine ⟨rfl,by simp -dsimp -implicitDefEqProofs only [go_sem,seval]; rfl,by simp -dsimp -implicitDefEqProofs only [go_sem,seval]; omega,fun j hj => ?_⟩
  have u1:j≠ky:=by omega
  have u2:j≠x+1+0:=by omega
  simp -dsimp -implicitDefEqProofs only [go_sem,seval,u1,u2])
 obtain ⟨ex,h',n',⟨rfl,q1,q2,q3⟩,env',ps',bd',q6,q7⟩:=this
 rw [q1] at q6
 simp only [Option.some.injEq,O.loop.injEq] at q6
 obtain ⟨rfl,rfl,rfl,_⟩:=q6
 have hj : ∀ j o,j<ky->updC h' ky o j=h j:=fun j o hj=>by rw [updC_at,if_neg (by omega)]; exact q3 j hj
 exact ⟨_,n',q7,e7,e8,e9,e10,by rw [updC_at,if_pos rfl]; rfl,by rw [hj _ _ l7]; exact h7,by rw [hj _ _ l8]; exact h8,by rw [hj _ _ l9]; exact h9,by rw [hj _ _ lS]; exact hS,by omega,l7,l8,l9,lS,d78,d79,d7S,d89,d8S,d9S⟩
theorem roundN_yes {p:Prog} (hf:formedM p=true) {k:Int} {c:Config} (hc:IsB p c) {t i:Nat} (ht:t<p.threads.length) {n:Int} {env:Nat->V} {ky k7 k8 k9 kS:Nat} {h:Nat->Option O} {x:Nat} {e:Entry} (H:NxV p k c t n env ky k7 k8 k9 kS h x)
 (he:(bufM c t)[i]? = some e) (hne:e.cells≠[]) (hn:headC e=n) :
 ∃ h' n',DenY Γ G ky [vi i, .agg [.t (ints e.cells), .t (ints e.values)]] h x=some (vb false,h',n')/\h' ky=some (.loop env [57,58] b180_0 (.done .ret)) /\
  h' k8=some (.rows 3 [[.t (ints (commitB c t i).mem), .t (ints (commitB c t i).at_), .t (.sl ((commitB c t i).buf.map fun b=>[.sl (b.map Entry.enc)]))]] false)/\h' k9=some (.rows 1 [[vi 0]] false)/\ky<n' := by
 have hc0:e.cells[0]? = some (headC e):=by
  cases hc:e.cells with
  | nil=>exact absurd hc hne
  | cons a r=>simp [headC,hc]
 have hcm:=commit_den p hf k c hc t ht i e he
 unfold stV at hcm
 obtain ⟨e7,e8,e9,e10,hy,h7,h8,h9,hS,ly,l7,l8,l9,lS,d78,d79,d7S,d89,d8S,d9S⟩:=H
 have a1:k7≠x+1+0:=by omega
 have a2:k8≠x+1+0:=by omega
 have a3:k9≠x+1+0:=by omega
 have a4:kS≠x+1+0:=by omega
 have a5:ky≠x+1+0:=by omega
 have c1:x+1+0≠k7:=by omega
 have c2:x+1+0≠k8:=by omega
 have c3:x+1+0≠k9:=by omega
 have c4:x+1+0≠kS:=by omega
 have c5:x+1+0≠ky:=by omega
 have b1:k7≠ky:=by omega
 have b2:k8≠ky:=by omega
 have b3:k9≠ky:=by omega
 have b4:kS≠ky:=by omega
 have b6:ky≠k8:=by omega
 have b7:ky≠k9:=by omega
 have b8:k9≠k8:=by omega
 have:=denY_of (Γ:=Γ) (G:=G) (vs:=[vi i, .agg [.t (ints e.cells), .t (ints e.values)]]) (n:=x) (P:=fun ex h' n' => ex = .ret/\h' ky=some (.loop env [57,58] b180_0 .busy)/\x<=n' /\
  h' k8=some (.rows 3 [[.t (ints (commitB c t i).mem), .t (ints (commitB c t i).at_), .t (.sl ((commitB c t i).buf.map fun b=>[.sl (b.map Entry.enc)]))]] false)/\h' k9=some (.rows 1 [[vi 0]] false)) hy rfl (fun ex h' n' hP=>⟨_,_,_,hP.2.1⟩) (by
  simp -dsimp -implicitDefEqProofs only [go_sem,seval,e7,h7,a1,a2,a3,a4,a5,b1,b2,b3,b4,c1,c2,c3,c4,c5,hc0,hn,e8,e9,e10,hS,hcm,h8,h9,b6,b7,b8,d89]
  refine ⟨rfl,by simp -dsimp -implicitDefEqProofs only [go_sem,seval,b6,b7]; rfl,by simp -dsimp -implicitDefEqProofs only [go_sem,seval]; omega,by simp -dsimp -implicitDefEqProofs only [go_sem,seval,d89],by simp -dsimp -implicitDefEqProofs only [go_sem,seval]⟩)
 obtain ⟨ex,h',n',⟨rfl,q1,q2,q3,q4⟩,env',ps',bd',q6,q7⟩:=this
 rw [q1] at q6
 simp only [Option.some.injEq,O.loop.injEq] at q6
 obtain ⟨rfl,rfl,rfl,_⟩:=q6
 exact ⟨_,n',q7,by rw [updC_at,if_pos rfl]; rfl,by rw [updC_at,if_neg b2]; exact q3,by rw [updC_at,if_neg b3]; exact q4,by omega⟩
theorem nextBW_den (p:Prog) (hs:p.sane) (hf:formedM p=true) (k:Int) (hk:k=1\/k=2) (c:Config) (hc:IsB p c) (x:Choice) :
 Den Γ G 180 [(.agg [.t (.sl ((p).cells.map (Cell.enc))), .t (.sl ((p).modules.map (Contract.enc))), .t (.sl ((p).locks.map (Lock.enc))), .t (.sl ((p).threads.map (Thread.enc)))]),vi k,(.agg [.t (ints (c).mem), .t (ints (c).at_), .t (.sl ((c).buf.map (fun b=>[.sl (b.map Entry.enc)])))]),(.agg [.t (ti (x).thread), .t (ti (x).step), .t (ti (x).cell)])]=some (.tup [(.agg [.t (ints ((nextB p k c x).1).mem), .t (ints ((nextB p k c x).1).at_), .t (.sl (((nextB p k c x).1).buf.map (fun b=>[.sl (b.map Entry.enc)])))]),vi (nextB p k c x).2]):=by
 obtain ⟨⟨m1,m2,m3,m4⟩,l5⟩:=limits_points (formed_limits hf).1
 have l1:=hc.lm
 have l2:=hc.la
 have l3:=hc.lb
 have hld:=load_den p hs hf c hc k hk
 have k0 : ¬ k=0:=by omega
 unfold stV at hld
 (refine den_ofY Γ180 rfl ?_; dsimp only [f180])
 by_cases hr:x.thread<0\/(p.threads.length:Int)<=x.thread\/x.step < -1
 ·have hN:nextB p k c x=(zeroC,110):=by rw [nextB,if_pos hr]
  rw [hN]
  simp only [zeroC,List.map_nil]
  by_cases r1:x.thread<0
  ·simp -dsimp -implicitDefEqProofs only [go_sem,seval,k0,hld,r1]
   rfl
  ·by_cases r2:x.thread>=(p.threads.length:Int)
   ·simp -dsimp -implicitDefEqProofs only [go_sem,seval,k0,hld,r1,r2]
    rfl
   ·have r3:x.step < -1:=by omega
    simp -dsimp -implicitDefEqProofs only [go_sem,seval,k0,hld,r1,r2,r3]
    rfl
 ·have r1 : ¬ x.thread<0:=by omega
  have r2 : ¬ x.thread>=(p.threads.length:Int):=by omega
  have r3 : ¬ x.step < -1:=by omega
  by_cases hm:x.step = -1
  ·have et:((x.thread.toNat:Nat):Int)=x.thread:=by omega
   have hop:=open_den p k c x.thread.toNat
   rw [et] at hop
   unfold stV at hop
   simp -dsimp -implicitDefEqProofs only [go_sem,seval,k0,hld,r1,r2,r3,hm,hop]
   generalize hE:envC _=env
   have e7:=congrFun hE 7
   have e8:=congrFun hE 8
   have e9:=congrFun hE 9
   have e10:=congrFun hE 10
   clear hE
   simp -dsimp -implicitDefEqProofs only [go_sem,seval] at e7 e8 e9 e10
   have ht:x.thread.toNat<p.threads.length:=by omega
   have hbp:=(hc.buf x.thread.toNat _ (bufM_at (c:=c) (t:=x.thread.toNat) (by omega))).2.1
   refine rngK_of (P:=fun e h' n' => (e = .normal/\findB k (bufM c x.thread.toNat) x.cell=none/\h' 3=some (.rows 3 [[.t .nils, .t .nils, .t .nils]] false)/\h' 4=some (.rows 1 [[vi 0]] false)) \/
    (e = .ret /\ ∃ i,findB k (bufM c x.thread.toNat) x.cell=some i /\
      h' 3=some (.rows 3 [[.t (ints (commitB c x.thread.toNat i).mem), .t (ints (commitB c x.thread.toNat i).at_), .t (.sl ((commitB c x.thread.toNat i).buf.map fun b=>[.sl (b.map Entry.enc)]))]] false)/\h' 4=some (.rows 1 [[vi 0]] false))) ?_ ?_
   ·rw [<- et]
    refine rng_from (open1_den p hf k c hc x.thread.toNat ht 42
     (fun q h n=>NxV p k c x.thread.toNat x.cell env 42 2 3 4 14 h n /\ ∀ j e,j<q->(bufM c x.thread.toNat)[j]? = some e -> ¬ (openM k (bufM c x.thread.toNat) j e=true/\headC e=x.cell))
     (fun h n => ∃ i,findB k (bufM c x.thread.toNat) x.cell=some i/\h 42=some (.loop env [57,58] b180_0 (.done .ret)) /\
       h 3=some (.rows 3 [[.t (ints (commitB c x.thread.toNat i).mem), .t (ints (commitB c x.thread.toNat i).at_), .t (.sl ((commitB c x.thread.toNat i).buf.map fun b=>[.sl (b.map Entry.enc)]))]] false)/\h 4=some (.rows 1 [[vi 0]] false)) ?_ (fun _ _ _ h _=>h) ?_ _ _ ?_) ?_
    ·rintro q h n m ⟨a1,a2⟩ hnm
     exact ⟨{ a1 with ly:=by have:=a1.ly; omega },a2⟩
    ·rintro q e h n he ⟨a1,a2⟩
     have hpr:=hbp e (List.mem_of_getElem? he)
     cases ho:openM k (bufM c x.thread.toNat) q e
     ·rw [if_neg (by simp)]
      refine ⟨a1,fun j e' hj hje => ?_⟩
      rcases Nat.lt_or_ge j q with h1 | h1
      ·exact a2 j e' h1 hje
      ·have:j=q:=by omega
       subst this
       rw [he] at hje; cases hje
       rw [ho]; simp
     ·rw [if_pos rfl]
      by_cases hh:headC e=x.cell
      ·obtain ⟨h',n',b1,b2,b3,b4,b5⟩:=roundN_yes hf hc ht a1 he hpr.ne hh
       refine ⟨false,h',n',b1, ?_⟩
       rw [if_neg (by simp)]
       exact ⟨q,by rw [<- hh]; exact findB_of hbp he ho,b2,b3,b4⟩
      ·obtain ⟨h',n',b1,b2⟩:=roundN_no (i:=q) a1 hpr.ne hh
       refine ⟨true,h',n',b1, ?_⟩
       rw [if_pos rfl]
       refine ⟨b2,fun j e' hj hje => ?_⟩
       rcases Nat.lt_or_ge j q with h1 | h1
       ·exact a2 j e' h1 hje
       ·have:j=q:=by omega
        subst this
        rw [he] at hje; cases hje
        exact fun h=>hh h.2
    ·refine ⟨⟨e7.symm,e8.symm,e9.symm,e10.symm,by simp -dsimp -implicitDefEqProofs only [go_sem,seval],by simp -dsimp -implicitDefEqProofs only [go_sem,seval,et,hm],by simp -dsimp -implicitDefEqProofs only [go_sem,seval],by simp -dsimp -implicitDefEqProofs only [go_sem,seval],by simp -dsimp -implicitDefEqProofs only [go_sem,seval],by omega,by omega,by omega,by omega,by omega,by omega,by omega,by omega,by omega,by omega,by omega⟩,fun j _ hj=>by omega⟩
    ·rintro h' n' (⟨a1,a2⟩ | ⟨i,b1,b2,b3,b4⟩)
     ·refine ⟨env,[57,58],b180_0, .ready, .normal,a1.hy,rfl, .inl ⟨rfl, ?_,a1.h8,a1.h9⟩⟩
      unfold findB
      rw [List.find?_eq_none]
      intro j hj
      rw [List.mem_range] at hj
      rw [List.getElem?_eq_getElem hj]
      intro h
      simp only [Bool.and_eq_true,decide_eq_true_eq] at h
      exact a2 j _ hj (List.getElem?_eq_getElem hj) h
     ·exact ⟨env,[57,58],b180_0, .done .ret, .ret,b2,rfl, .inr ⟨rfl,i,b1,b3,b4⟩⟩
   ·rintro e h' n' (⟨rfl,g1,g2,g3⟩ | ⟨rfl,i,g1,g2,g3⟩)
    ·have hN:nextB p k c x=(zeroC,110):=by rw [nextB,if_neg hr,if_pos hm,g1]
     rw [hN]
     simp only [zeroC,List.map_nil]
     simp -dsimp -implicitDefEqProofs only [go_sem,seval,g2,g3]
     rfl
    ·have hN:nextB p k c x=(commitB c x.thread.toNat i,0):=by rw [nextB,if_neg hr,if_pos hm,g1]
     rw [hN]
     simp -dsimp -implicitDefEqProofs only [go_sem,seval,g2,g3]
  ·have et:((x.thread.toNat:Nat):Int)=x.thread:=by omega
   have es:((x.step.toNat:Nat):Int)=x.step:=by omega
   have t0:0<=x.thread:=by omega
   have s0:0<=x.step:=by omega
   obtain ⟨th,hth,hthm⟩:=get_of (show x.thread.toNat<p.threads.length by omega)
   have hv:=view_den p hf c hc x.thread.toNat (by omega)
   rw [et] at hv
   by_cases c0:x.cell=0
   ·by_cases c1:x.step>=(th.steps.length:Int)
    ·have hN:nextB p k c x=(zeroC,110):=by
      rw [nextB,if_neg hr,if_neg hm]
      have:stepAt p x=none:=by simp [stepAt,hth]; omega
      rw [this]
     rw [hN]
     simp only [zeroC,List.map_nil]
     simp -dsimp -implicitDefEqProofs only [go_sem,seval,k0,hld,r1,r2,r3,hm,hv,hth,t0,c0,c1]
     rfl
    ·obtain ⟨s,hss,hsm⟩:=get_of (show x.step.toNat<th.steps.length by omega)
     have hsa:stepAt p x=some s:=by simp [stepAt,hth,hss]
     have hen:=enabledB_den p hf k c hc x.thread.toNat th hth x.step.toNat s hss
     rw [et,es] at hen
     unfold stV at hen
     cases he:enabledB p c x.thread.toNat s
     ·have hN:nextB p k c x=(zeroC,110):=by
       rw [nextB,if_neg hr,if_neg hm,hsa]
       simp [he]
      rw [hN]
      rw [he] at hen
      simp only [zeroC,List.map_nil]
      simp -dsimp -implicitDefEqProofs only [go_sem,seval,k0,hld,r1,r2,r3,hm,hv,hth,t0,c0,c1,hen]
      rfl
     ·have hN:nextB p k c x=(execB p c x.thread.toNat s,0):=by
       rw [nextB,if_neg hr,if_neg hm,hsa]
       simp [he,c0]
      rw [hN]
      rw [he] at hen
      have hex:=execB_den p hf k c hc x.thread.toNat th hth x.step.toNat s hss x (by cases x; simp_all)
      unfold stV at hex
      simp -dsimp -implicitDefEqProofs only [go_sem,seval,k0,hld,r1,r2,r3,hm,hv,hth,t0,c0,c1,hen]
      rw [c0] at hex
      simp -dsimp -implicitDefEqProofs only [go_sem,seval,hex]
   ·have hN:nextB p k c x=(zeroC,110):=by
     rw [nextB,if_neg hr,if_neg hm]
     split
     ·simp [c0]
     ·rfl
    rw [hN]
    simp only [zeroC,List.map_nil]
    simp -dsimp -implicitDefEqProofs only [go_sem,seval,k0,hld,r1,r2,r3,hm,hv,hth,t0,c0]
    rfl
theorem isB_fits {p:Prog} {c:Config} (hc:IsB p c):fitsM p c.mem c.at_=true:=by
 have h:IsC p ⟨c.mem,c.at_,p.threads.map fun _=>[]⟩:=⟨hc.lm,hc.la,by simp,hc.mem,hc.at_,by simp⟩
 have h2:=is_iff.2 h
 simp only [isM,Bool.and_eq_true] at h2
 exact h2.1.1
theorem entryR_den (p:Prog) (hf:formedM p=true) (e:Entry) (he:Proper p e):Den Γ G 204 [(.agg [.t (.sl ((p).cells.map (Cell.enc))), .t (.sl ((p).modules.map (Contract.enc))), .t (.sl ((p).locks.map (Lock.enc))), .t (.sl ((p).threads.map (Thread.enc)))]), .agg [.t (ints e.cells), .t (ints e.values)]]=some (vb true):=by
 obtain ⟨⟨m1,m2,m3,m4⟩,_⟩:=limits_points (formed_limits hf).1
 have hl:=proper_len he
 have hv:=he.len
 have n0 : ¬ (e.cells.length:Int)=0:=by
  have:e.cells.length≠0:=fun h=>he.ne (List.eq_nil_of_length_eq_zero h)
  omega
 have n2:(e.values.length:Int)=(e.cells.length:Int):=by omega
 (refine den_ofY Γ204 rfl ?_; dsimp only [f204])
 simp -dsimp -implicitDefEqProofs only [go_sem,seval,n0,n2]
 refine loopY 154742504910672534360293616 e.cells.length (fun i f=>(f 5).v=vi i) rfl rfl (by simp -dsimp -implicitDefEqProofs only [go_sem,seval]) ?_
 rintro i f u kk bb hi h5
 have hw:=wrapS i (by omega)
 simp -dsimp -implicitDefEqProofs only [go_sem,seval,h5]
 refine csplit (fun h => ?_) (fun h => ?_) <;> (try rw [h]) <;> (try simp only [bools] at h) <;> (try simp -dsimp -implicitDefEqProofs only [go_sem,seval,h5])
 ·obtain ⟨n,hn,hnm⟩:=get_of ‹i<e.cells.length›
  obtain ⟨v,hvv,_⟩:=get_of (show i<e.values.length by omega)
  obtain ⟨c0,y,hy,ht,hg,v0,v1⟩:=he.cell i n v hn hvv
  have hyl:=(List.getElem?_eq_some_iff.1 hy).1
  obtain ⟨w1,w2,_⟩:=formed_cell hf (List.mem_of_getElem? hy)
  have hpw:=power_den y.w (by omega)
  have hin1:=in_den n p.cells.length
  have hin2:=in_den v (2^y.w.toNat)
  have r1:inR n p.cells.length=true:=by simp only [inR,decide_eq_true_eq]; omega
  have r2:inR v (2^y.w.toNat)=true:=by simp only [inR,decide_eq_true_eq]; omega
  rw [r1] at hin1
  rw [r2] at hin2
  have hgi:((y.ghost==decide ((i:Int)>0)) != true)=false:=by
   rw [hg]
   by_cases h0:0<i
   ·have:(i:Int)>0:=by omega
    simp [h0]
   ·have : ¬ (i:Int)>0:=by omega
    simp [h0]
  simp -dsimp -implicitDefEqProofs only [go_sem,seval,h5,hn,hin1,c0,hy,ht,hgi,hvv,hpw,hin2]
  refine loopY 154704725978809577200681104 i (fun j f' => (f' 7).v=vi j) rfl rfl (by simp -dsimp -implicitDefEqProofs only [go_sem,seval]) ?_
  rintro j f' u' kk' bb' hj h7
  have hw' := wrapS j (by omega)
  simp -dsimp -implicitDefEqProofs only [go_sem,seval,h7,h5]
  refine csplit (fun h => ?_) (fun h => ?_) <;> (try rw [h]) <;> (try simp only [bools] at h) <;> (try simp -dsimp -implicitDefEqProofs only [go_sem,seval,h7,h5])
  ·obtain ⟨q,hq,_⟩:=get_of (show j<e.cells.length by omega)
   have hqn : ¬ q=n:=by
    rintro rfl
    have h1:=List.getElem?_eq_some_iff.1 hq
    have h2:=List.getElem?_eq_some_iff.1 hn
    exact List.pairwise_iff_getElem.1 (List.nodup_iff_pairwise_ne.1 he.nd) j i h1.1 h2.1 (by omega) (by rw [h1.2,h2.2])
   simp -dsimp -implicitDefEqProofs only [go_sem,seval,h7,h5,hq,hqn]
   exact ⟨by omega,by simp -dsimp -implicitDefEqProofs only [go_sem,seval,hw']⟩
  ·exact ⟨by omega,by simp -dsimp -implicitDefEqProofs only [go_sem,seval,hw,h5]⟩
theorem isBR_den (p:Prog) (hf:formedM p=true) (c:Config) (hc:IsB p c):Den Γ G 193 [(.agg [.t (.sl ((p).cells.map (Cell.enc))), .t (.sl ((p).modules.map (Contract.enc))), .t (.sl ((p).locks.map (Lock.enc))), .t (.sl ((p).threads.map (Thread.enc)))]),(.agg [.t (ints (c).mem), .t (ints (c).at_), .t (.sl ((c).buf.map (fun b=>[.sl (b.map Entry.enc)])))])]=some (vb true):=by
 obtain ⟨⟨m1,m2,m3,m4⟩,_⟩:=limits_points (formed_limits hf).1
 have l1:=hc.lm
 have l2:=hc.la
 have l3:=hc.lb
 have e3:(c.buf.length:Int)=(p.threads.length:Int):=by omega
 have h1:=fitsR_den p hf c.mem c.at_ (by omega) (by omega)
 rw [isB_fits hc] at h1
 (refine den_ofY Γ193 rfl ?_; dsimp only [f193])
 simp -dsimp -implicitDefEqProofs only [go_sem,seval,h1,e3]
 refine loopY 37778931862957153321072 c.buf.length (fun i f=>(f 5).v=vi i) rfl rfl (by simp -dsimp -implicitDefEqProofs only [go_sem,seval]) ?_
 rintro t f u kk bb hi h5
 have hw:=wrapS t (by omega)
 simp -dsimp -implicitDefEqProofs only [go_sem,seval,h5]
 refine csplit (fun h => ?_) (fun h => ?_) <;> (try rw [h]) <;> (try simp only [bools] at h) <;> (try simp -dsimp -implicitDefEqProofs only [go_sem,seval,h5])
 ·obtain ⟨a,ha,_⟩:=get_of (show t<c.at_.length by omega)
  have hget:=bufM_at (c:=c) (t:=t) (by omega)
  obtain ⟨b1,b2,b3⟩:=hc.buf t _ hget
  have q3 : ¬ ((bufM c t).length:Int)>3:=by omega
  by_cases n0:((bufM c t).length:Int)>0
  ·have ha1 : ¬ a = -1:=by
    rintro rfl
    have:=b3 ha
    rw [this] at n0; simp at n0
   simp -dsimp -implicitDefEqProofs only [go_sem,seval,h5,ha,hget,q3,n0,ha1]
   refine loopY 37778913848558652227664 (bufM c t).length (fun j f' => (f' 6).v=vi j) rfl rfl (by simp -dsimp -implicitDefEqProofs only [go_sem,seval]) ?_
   rintro j f' u' kk' bb' hj h6
   have hw' := wrapS j (by omega)
   simp -dsimp -implicitDefEqProofs only [go_sem,seval,h6,h5,hget]
   refine csplit (fun h => ?_) (fun h => ?_) <;> (try rw [h]) <;> (try simp only [bools] at h) <;> (try simp -dsimp -implicitDefEqProofs only [go_sem,seval,h6,h5,hget])
   ·obtain ⟨e,he,hem⟩:=get_of ‹j<(bufM c t).length›
    have hpd:=entryR_den p hf e (b2 e hem)
    simp -dsimp -implicitDefEqProofs only [go_sem,seval,h6,h5,hget,he,Entry.enc,hpd]
    exact ⟨by omega,by simp -dsimp -implicitDefEqProofs only [go_sem,seval,hw']⟩
   ·exact ⟨by omega,by simp -dsimp -implicitDefEqProofs only [go_sem,seval,hw,h5]⟩
  ·have hb0:(bufM c t).length=0:=by omega
   simp -dsimp -implicitDefEqProofs only [go_sem,seval,h5,ha,hget,q3,n0]
   refine loopY 37778913848558652227664 0 (fun j f' => (f' 6).v=vi j) rfl rfl (by simp -dsimp -implicitDefEqProofs only [go_sem,seval]) ?_
   rintro j f' u' kk' bb' hj h6
   have hj0:j=0:=by omega
   subst hj0
   simp -dsimp -implicitDefEqProofs only [go_sem,seval,h6,h5,hget,hb0]
   exact ⟨by omega,by simp -dsimp -implicitDefEqProofs only [go_sem,seval,hw,h5]⟩
theorem quietR_den (c:Config) (hl:c.buf.length<2^40):Den Γ G 194 [(.agg [.t (ints (c).mem), .t (ints (c).at_), .t (.sl ((c).buf.map (fun b=>[.sl (b.map Entry.enc)])))])]=some (vb (quietM c)):=by
 (refine den_ofY Γ194 rfl ?_; dsimp only [f194])
 simp -dsimp -implicitDefEqProofs only [go_sem,seval]
 refine loopY 262140 c.buf.length (fun i f=>(f 3).v=vi i/\quietM c=(c.buf.drop i).all fun b=>b.isEmpty) rfl rfl ⟨by simp -dsimp -implicitDefEqProofs only [go_sem,seval],rfl⟩ ?_
 rintro i f u kk bb hi ⟨h3,hq⟩
 have hw:=wrapS i (by omega)
 simp -dsimp -implicitDefEqProofs only [go_sem,seval,h3]
 refine csplit (fun h => ?_) (fun h => ?_) <;> (try rw [h]) <;> (try simp only [bools] at h) <;> (try simp -dsimp -implicitDefEqProofs only [go_sem,seval,h3])
 ·obtain ⟨b,hb,_⟩:=get_of ‹i<c.buf.length›
  by_cases hbe:b=[]
  ·have n0 : ¬ (b.length:Int)>0:=by rw [hbe]; simp
   simp -dsimp -implicitDefEqProofs only [go_sem,seval,h3,hb,n0]
   exact ⟨by omega,by simp -dsimp -implicitDefEqProofs only [go_sem,seval,hw],by rw [hq,all_step hb (by rw [hbe]; rfl)]⟩
  ·have n0:(b.length:Int)>0:=by
    have:b.length≠0:=fun h=>hbe (List.eq_nil_of_length_eq_zero h)
    omega
   simp -dsimp -implicitDefEqProofs only [go_sem,seval,h3,hb,n0]
   rw [hq,all_stop hb (by cases b with | nil=>exact absurd rfl hbe | cons _ _=>rfl)]
 ·have:i=c.buf.length:=by omega
  subst this
  rw [hq,all_end]
theorem okR_den (p:Prog) (hs:p.sane):Den Γ G 176 [(.agg [.t (.sl ((p).cells.map (Cell.enc))), .t (.sl ((p).modules.map (Contract.enc))), .t (.sl ((p).locks.map (Lock.enc))), .t (.sl ((p).threads.map (Thread.enc)))])]=some (vb (formedM p)):=by
 (refine den_ofY Γ176 rfl ?_; dsimp only [f176])
 have h1:=validR_den p hs
 simp -dsimp -implicitDefEqProofs only [go_sem,seval,h1]
 rfl
theorem fitsK_den (p:Prog) (hs:p.sane) (hf:formedM p=true) (k:Int) (hk:0<=k/\k<=2) (c:Config) (hc:IsK p k c):Den Γ G 182 [(.agg [.t (.sl ((p).cells.map (Cell.enc))), .t (.sl ((p).modules.map (Contract.enc))), .t (.sl ((p).locks.map (Lock.enc))), .t (.sl ((p).threads.map (Thread.enc)))]),vi k,(.agg [.t (ints (c).mem), .t (ints (c).at_), .t (.sl ((c).buf.map (fun b=>[.sl (b.map Entry.enc)])))])]=some (vb true):=by
 obtain ⟨⟨m1,m2,m3,m4⟩,_⟩:=limits_points (formed_limits hf).1
 have l3:=hc.b.lb
 have h1:=okR_den p hs
 rw [hf] at h1
 have h2:=isBR_den p hf c hc.b
 have h3:=quietR_den c (by omega)
 have k1 : ¬ k<0:=by omega
 have k2 : ¬ k>2:=by omega
 (refine den_ofY Γ182 rfl ?_; dsimp only [f182])
 by_cases k0:k=0
 ·have hq:quietM c=true:=by
   rw [quietM,List.all_eq_true]
   intro b hb
   rw [hc.q k0 b hb]; rfl
  rw [hq] at h3
  simp -dsimp -implicitDefEqProofs only [go_sem,seval,k1,k2,h1,h2,k0,h3]
 ·simp -dsimp -implicitDefEqProofs only [go_sem,seval,k1,k2,h1,h2,k0]
theorem IsB.sane {p:Prog} (hs:p.sane) {c:Config} (hc:IsB p c):c.sane:=⟨by rw [hc.lm]; exact hs.cells,by rw [hc.la]; exact hs.threads,by rw [hc.lb]; exact hs.threads⟩
theorem choicesK_le {p:Prog} (hf:formedM p=true) {k:Int} {c:Config} (hc:IsK p k c):(choicesK p k c).length<=268:=by
 have h1:=choicesBN_len hf (k:=k) hc.b p.threads.length
 have h2:=(limits_points (formed_limits hf).1).1
 rw [choicesK_eq hc]
 unfold choicesB; omega
theorem enabledK_den (p:Prog) (hs:p.sane) (hf:formedM p=true) (k:Int) (hk:0<=k/\k<=2) (c:Config) (hc:IsK p k c):Den Γ G 179 [(.agg [.t (.sl ((p).cells.map (Cell.enc))), .t (.sl ((p).modules.map (Contract.enc))), .t (.sl ((p).locks.map (Lock.enc))), .t (.sl ((p).threads.map (Thread.enc)))]),vi k,(.agg [.t (ints (c).mem), .t (ints (c).at_), .t (.sl ((c).buf.map (fun b=>[.sl (b.map Entry.enc)])))])]=some (.t (.sl ((choicesK p k c).map Choice.enc))):=by
 by_cases k0:k=0
 ·have h1:=enabledPL_den p hs c (hc.b.sane hs)
  rw [enabledL_eq hf (hc.c k0)] at h1
  rw [choicesK,if_pos k0]
  (refine den_ofY Γ179 rfl ?_; dsimp only [f179])
  simp -dsimp -implicitDefEqProofs only [go_sem,seval,k0,h1]
 ·rw [choicesK,if_neg k0]
  exact enabledBW_den p hs hf k (by omega) c hc.b
theorem nextK_den (p:Prog) (hs:p.sane) (hf:formedM p=true) (k:Int) (hk:0<=k/\k<=2) (c:Config) (hc:IsK p k c) (x:Choice):Den Γ G 180 [(.agg [.t (.sl ((p).cells.map (Cell.enc))), .t (.sl ((p).modules.map (Contract.enc))), .t (.sl ((p).locks.map (Lock.enc))), .t (.sl ((p).threads.map (Thread.enc)))]),vi k,(.agg [.t (ints (c).mem), .t (ints (c).at_), .t (.sl ((c).buf.map (fun b=>[.sl (b.map Entry.enc)])))]),(.agg [.t (ti (x).thread), .t (ti (x).step), .t (ti (x).cell)])]=some (.tup [(.agg [.t (ints ((nextK p k c x).1).mem), .t (ints ((nextK p k c x).1).at_), .t (.sl (((nextK p k c x).1).buf.map (fun b=>[.sl (b.map Entry.enc)])))]),vi (nextK p k c x).2]):=by
 by_cases k0:k=0
 ·have h1:=nextP_den p hs c (hc.b.sane hs) x
  rw [nextK,if_pos k0]
  (refine den_ofY Γ180 rfl ?_; dsimp only [f180])
  simp -dsimp -implicitDefEqProofs only [go_sem,seval,k0,h1]
 ·rw [nextK,if_neg k0]
  exact nextBW_den p hs hf k (by omega) c hc.b x
theorem nextK_is {p:Prog} (hf:formedM p=true) {k:Int} {c:Config} (hc:IsK p k c) {y:Choice} (hy:y∈choicesK p k c):IsK p k (nextK p k c y).1/\(nextK p k c y).2=0:=by
 obtain ⟨d,hn,hd⟩:=nextK_ok hf hc hy
 rw [hn]; exact ⟨hd,rfl⟩
def kM (m:Int):Int:=m % 3
theorem kM_in {m:Int}:0<=kM m/\kM m<=2:=by unfold kM; omega
theorem model_den (m:Int) (hm:0<=m/\m<256):Den Γ G 177 [.t (.int .u8 m)]=some (vi (kM m)):=by
 have h1:IntKind.i64.wrap m=m:=wrap64 (by omega)
 have h2:m.tmod 3=m % 3:=Int.tmod_eq_emod_of_nonneg hm.1
 (refine den_ofY Γ177 rfl ?_; dsimp only [f177])
 simp -dsimp -implicitDefEqProofs only [go_sem,seval,h1,h2]
 rfl
theorem smallK_den (p:Prog) (hf:formedM p=true) (c:Config) (hc:IsB p c):Den Γ G 181 [(.agg [.t (ints (c).mem), .t (ints (c).at_), .t (.sl ((c).buf.map (fun b=>[.sl (b.map Entry.enc)])))])]=some (vb true):=by
 obtain ⟨⟨m1,m2,m3,m4⟩,_⟩:=limits_points (formed_limits hf).1
 have l1:=hc.lm
 have l2:=hc.la
 have l3:=hc.lb
 have g1 : ¬ (c.mem.length:Int)>40:=by omega
 have g2 : ¬ (c.at_.length:Int)>8:=by omega
 have g3 : ¬ (c.buf.length:Int)>8:=by omega
 (refine den_ofY Γ181 rfl ?_; dsimp only [f181])
 simp -dsimp -implicitDefEqProofs only [go_sem,seval,g1,g2,g3]
 refine loopY 590295810358703554588 c.buf.length (fun i f=>(f 3).v=vi i) rfl rfl (by simp -dsimp -implicitDefEqProofs only [go_sem,seval]) ?_
 rintro t f u kk bb hi h3
 have hw:=wrapS t (by omega)
 simp -dsimp -implicitDefEqProofs only [go_sem,seval,h3]
 refine csplit (fun h => ?_) (fun h => ?_) <;> (try rw [h]) <;> (try simp only [bools] at h) <;> (try simp -dsimp -implicitDefEqProofs only [go_sem,seval,h3])
 ·have hget:=bufM_at (c:=c) (t:=t) (by omega)
  obtain ⟨b1,b2,b3⟩:=hc.buf t _ hget
  have q3 : ¬ ((bufM c t).length:Int)>6:=by omega
  simp -dsimp -implicitDefEqProofs only [go_sem,seval,h3,hget,q3]
  refine loopY 590295810324345913364 (bufM c t).length (fun j f' => (f' 4).v=vi j) rfl rfl (by simp -dsimp -implicitDefEqProofs only [go_sem,seval]) ?_
  rintro j f' u' kk' bb' hj h4
  have hw' := wrapS j (by omega)
  simp -dsimp -implicitDefEqProofs only [go_sem,seval,h4,h3,hget]
  refine csplit (fun h => ?_) (fun h => ?_) <;> (try rw [h]) <;> (try simp only [bools] at h) <;> (try simp -dsimp -implicitDefEqProofs only [go_sem,seval,h4,h3,hget])
  ·obtain ⟨e,he,hem⟩:=get_of ‹j<(bufM c t).length›
   have hpr:=b2 e hem
   have hpl:=proper_len hpr
   have hv:=hpr.len
   have n1 : ¬ (e.cells.length:Int)>40:=by omega
   have n2 : ¬ (e.values.length:Int)>40:=by omega
   simp -dsimp -implicitDefEqProofs only [go_sem,seval,h4,h3,hget,he,Entry.enc,n1,n2]
   exact ⟨by omega,by simp -dsimp -implicitDefEqProofs only [go_sem,seval,hw']⟩
  ·exact ⟨by omega,by simp -dsimp -implicitDefEqProofs only [go_sem,seval,hw,h3]⟩
theorem atK_den (p:Prog) (hs:p.sane) (hf:formedM p=true) (k:Int) (hk:0<=k/\k<=2) (picks:List Int) (hpk : ∀ n∈picks,0<=n/\n<256) :
 Den Γ G 178 [(.agg [.t (.sl ((p).cells.map (Cell.enc))), .t (.sl ((p).modules.map (Contract.enc))), .t (.sl ((p).locks.map (Lock.enc))), .t (.sl ((p).threads.map (Thread.enc)))]),vi k, .t (bytesT picks)]=some (.tup [(.agg [.t (ints (atK p k picks).mem), .t (ints (atK p k picks).at_), .t (.sl ((atK p k picks).buf.map (fun b=>[.sl (b.map Entry.enc)])))]),vb true]):=by
 have h1:=startP_den p hs
 have hlb:(picks.map fun n=>[T.int .u8 n]).length=picks.length:=by simp
 (refine den_ofY Γ178 rfl ?_; dsimp only [f178])
 simp -dsimp -implicitDefEqProofs only [go_sem,seval,h1]
 have hend : ∀ c:Config,IsK p k c->atK p k picks=c->Den Γ G 181 [(.agg [.t (ints (c).mem), .t (ints (c).at_), .t (.sl ((c).buf.map (fun b=>[.sl (b.map Entry.enc)])))])]=some (vb true)/\Den Γ G 182 [(.agg [.t (.sl ((p).cells.map (Cell.enc))), .t (.sl ((p).modules.map (Contract.enc))), .t (.sl ((p).locks.map (Lock.enc))), .t (.sl ((p).threads.map (Thread.enc)))]),vi k,(.agg [.t (ints (c).mem), .t (ints (c).at_), .t (.sl ((c).buf.map (fun b=>[.sl (b.map Entry.enc)])))])]=some (vb true):=fun c hc _=>⟨smallK_den p hf c hc.b,fitsK_den p hs hf k hk c hc⟩
 refine loopY 576460752303398848 (picks.take 30).length (fun i f=>(f 9).v=vi i/\(f 6).v = .lb/\(f 6).box=some [.t .nils, .t .nils, .t .nils] /\ ∃ c:Config,IsK p k c/\(f 8).v = .lb/\(f 8).box=some [.t (ints c.mem), .t (ints c.at_), .t (.sl (c.buf.map (fun b=>[.sl (b.map Entry.enc)])))]/\atK p k picks=walkK p k c ((picks.take 30).drop i)) rfl rfl
  ⟨by simp -dsimp -implicitDefEqProofs only [go_sem,seval],by simp -dsimp -implicitDefEqProofs only [go_sem,seval],by simp -dsimp -implicitDefEqProofs only [go_sem,seval],startM p,startK_is hf k,by simp -dsimp -implicitDefEqProofs only [go_sem,seval],by simp -dsimp -implicitDefEqProofs only [go_sem,seval],rfl⟩ ?_
 have htl:(picks.take 30).length=min 30 picks.length:=List.length_take
 rintro i f u kk bb hi ⟨h9,b1,b2,c,hc,b3,b4,hwk⟩
 have hw:=wrapS i (by omega)
 by_cases hil:i<(picks.take 30).length
 ·have i1:(i:Int)<(picks.length:Int):=by omega
  have i2:(i:Int)<30:=by omega
  obtain ⟨n,hn,hnm⟩:=get_of hil
  have hnp:picks[i]? = some n:=by rw [List.getElem?_take] at hn; split at hn; exact hn; simp at hn
  obtain ⟨n0,n1⟩:=hpk n (List.mem_of_getElem? hnp)
  have hen:=enabledK_den p hs hf k hk c hc
  have hel:=choicesK_le hf hc
  rw [drop_of hn,walkK] at hwk
  simp -dsimp -implicitDefEqProofs only [go_sem,seval,h9,i1,i2,b3,b4,hen]
  by_cases hstop:(choicesK p k c).length=0\/200<(choicesK p k c).length
  ·rw [if_pos hstop] at hwk
   obtain ⟨hsm,hft⟩:=hend c hc hwk
   rw [hwk]
   by_cases z0:(choicesK p k c).length=0
   ·simp -dsimp -implicitDefEqProofs only [go_sem,seval,z0,b3,b4,b1,b2,hsm,hft]
   ·have z1 : ¬ ((choicesK p k c).length:Int)=0:=by omega
    have z2:((choicesK p k c).length:Int)>200:=by omega
    simp -dsimp -implicitDefEqProofs only [go_sem,seval,z1,z2,b3,b4,b1,b2,hsm,hft]
  ·rw [if_neg hstop] at hwk
   have z1 : ¬ ((choicesK p k c).length:Int)=0:=by omega
   have z2 : ¬ ((choicesK p k c).length:Int)>200:=by omega
   have hwn:IntKind.i64.wrap n=n:=wrap64 (by omega)
   have he1:0<(choicesK p k c).length:=by omega
   have hrem:n.tmod (choicesK p k c).length=((n.toNat % (choicesK p k c).length:Nat):Int):=by
    rw [Int.tmod_eq_emod_of_nonneg n0,Int.natCast_emod,Int.toNat_of_nonneg n0]
   have hri:n.toNat % (choicesK p k c).length<(choicesK p k c).length:=Nat.mod_lt _ he1
   obtain ⟨x,hx,hxm⟩:=get_of hri
   have hx' : pickAt (choicesK p k c) n=x:=by simp [pickAt,List.getD,hx]
   have hnx:=nextK_den p hs hf k hk c hc x
   obtain ⟨hni,hne⟩:=nextK_is hf hc hxm
   rw [hne] at hnx
   rw [hx'] at hwk
   simp -dsimp -implicitDefEqProofs only [go_sem,seval,z1,z2,h9,b3,b4,hnp,hwn,hrem,hx,hnx]
   refine ⟨by omega,by simp -dsimp -implicitDefEqProofs only [go_sem,seval,hw],by simp -dsimp -implicitDefEqProofs only [go_sem,seval,b1],by simp -dsimp -implicitDefEqProofs only [go_sem,seval,b2],(nextK p k c x).1,hni,by simp -dsimp -implicitDefEqProofs only [go_sem,seval,b3],by simp -dsimp -implicitDefEqProofs only [go_sem,seval],hwk⟩
 ·have hdr:(picks.take 30).drop i=[]:=List.drop_of_length_le (by omega)
  rw [hdr,walkK] at hwk
  obtain ⟨hsm,hft⟩:=hend c hc hwk
  rw [hwk]
  by_cases i1:(i:Int)<(picks.length:Int)
  ·have i2 : ¬ (i:Int)<30:=by omega
   simp -dsimp -implicitDefEqProofs only [go_sem,seval,h9,i1,i2,b3,b4,b1,b2,hsm,hft]
  ·simp -dsimp -implicitDefEqProofs only [go_sem,seval,h9,i1,b3,b4,b1,b2,hsm,hft]
def exStep (a b:Int):Step:=⟨3,b,b+1,exOne,[⟨a,exOne⟩],false,0,0⟩
def exampleB:Prog :=
 ⟨[⟨bs [120],1,0, -1,false,0⟩,⟨bs [121],1,0, -1,false,0⟩],
  [⟨bs [77],bs [65,110,110], .mk 0 0 0 [],exOne,[0,1]⟩],[],
  [⟨bs [116],3,[exOne,exOne,exOne],[0,0,0],[⟨3,0,1,exOne,[⟨0,exOne⟩],false,0,0⟩,⟨3,1,2,exOne,[⟨1,exOne⟩],false,0,0⟩],[],false⟩]⟩
theorem exStep_den (a b:Int) (h:IntKind.i64.wrap (b+1)=b+1):Den Γ G 197 [vi a,vi b, .t (.ip [ti 1,ti 1,ti 1, .sl []])]=some (.agg [.t (ti (exStep a b).kind), .t (ti (exStep a b).fr), .t (ti (exStep a b).to), .t (ti ((exStep a b).guard).op), .t (ti ((exStep a b).guard).w), .t (ti ((exStep a b).guard).n), .t (.sl (((exStep a b).guard).kids.map Expr.enc)), .t (.sl ((exStep a b).set.map Assign.enc)), .t (tb (exStep a b).release), .t (ti (exStep a b).target), .t (ti (exStep a b).module)]):=by
 (refine den_ofY Γ197 rfl ?_; dsimp only [f197])
 simp -dsimp -implicitDefEqProofs only [go_sem,seval,h]
 exact ⟨rfl,rfl,rfl,rfl,rfl,rfl,rfl,rfl,rfl,rfl,rfl⟩
theorem exampleB_den:Den Γ G 184 []=some (.agg [.t (.sl ((exampleB).cells.map (Cell.enc))), .t (.sl ((exampleB).modules.map (Contract.enc))), .t (.sl ((exampleB).locks.map (Lock.enc))), .t (.sl ((exampleB).threads.map (Thread.enc)))]):=by
 (refine den_ofY Γ184 rfl ?_; dsimp only [f184])
 have c1:=oneR_den
 have h0:=exStep_den 0 0 (by decide)
 have h1:=exStep_den 1 1 (by decide)
 simp only [go_sem,exStep,exOne,List.map_cons,List.map_nil] at c1 h0 h1
 simp -dsimp -implicitDefEqProofs only [go_sem,seval,c1,h0,h1]
 exact ⟨rfl,rfl,rfl,rfl⟩
def goK (p:Prog) (k:Int):Config->List Choice->Config
 | c,[]=>c
 | c,y::r=>goK p k (nextK p k c y).1 r
def okK (p:Prog) (k:Int):Config->List Choice->Bool
 | _,[]=>true
 | c,y::r=>decide (y∈choicesK p k c)&&okK p k (nextK p k c y).1 r
theorem goK_is {p:Prog} (hf:formedM p=true) {k:Int} : ∀ (l:List Choice) (c:Config),IsK p k c->okK p k c l=true->IsK p k (goK p k c l)
 | [],_,h,_=>h
 | y::r,c,h,ho=>by
  rw [okK,Bool.and_eq_true,decide_eq_true_eq] at ho
  exact goK_is hf r _ (nextK_is hf h ho.1).1 ho.2
theorem run_den (p:Prog) (hs:p.sane) (hf:formedM p=true) (k:Int) (hk:0<=k/\k<=2) (l:List Choice) (hl:l.length<2^40) (ho:okK p k (startM p) l=true) :
 Den Γ G 185 [(.agg [.t (.sl ((p).cells.map (Cell.enc))), .t (.sl ((p).modules.map (Contract.enc))), .t (.sl ((p).locks.map (Lock.enc))), .t (.sl ((p).threads.map (Thread.enc)))]),vi k, .t (.sl (l.map Choice.enc))]=some (.tup [(.agg [.t (ints (goK p k (startM p) l).mem), .t (ints (goK p k (startM p) l).at_), .t (.sl ((goK p k (startM p) l).buf.map (fun b=>[.sl (b.map Entry.enc)])))]),vb true]):=by
 have h1:=startP_den p hs
 (refine den_ofY Γ185 rfl ?_; dsimp only [f185])
 simp -dsimp -implicitDefEqProofs only [go_sem,seval,h1]
 refine loopY 34359726016 l.length (fun i f=>(f 9).v=vi i/\(f 6).v = .lb/\(f 6).box=some [.t .nils, .t .nils, .t .nils] /\ ∃ c:Config,IsK p k c/\(f 8).v = .lb/\(f 8).box=some [.t (ints c.mem), .t (ints c.at_), .t (.sl (c.buf.map (fun b=>[.sl (b.map Entry.enc)])))]/\goK p k (startM p) l=goK p k c (l.drop i)/\okK p k c (l.drop i)=true) rfl rfl
  ⟨by simp -dsimp -implicitDefEqProofs only [go_sem,seval],by simp -dsimp -implicitDefEqProofs only [go_sem,seval],by simp -dsimp -implicitDefEqProofs only [go_sem,seval],startM p,startK_is hf k,by simp -dsimp -implicitDefEqProofs only [go_sem,seval],by simp -dsimp -implicitDefEqProofs only [go_sem,seval],rfl,ho⟩ ?_
 rintro i f u kk bb hi ⟨h9,b1,b2,c,hc,b3,b4,hwk,hok⟩
 have hw:=wrapS i (by omega)
 simp -dsimp -implicitDefEqProofs only [go_sem,seval,h9]
 refine csplit (fun h => ?_) (fun h => ?_) <;> (try rw [h]) <;> (try simp only [bools] at h) <;> (try simp -dsimp -implicitDefEqProofs only [go_sem,seval,h9])
 ·obtain ⟨y,hy,hym⟩:=get_of ‹i<l.length›
  rw [drop_of hy,goK] at hwk
  rw [drop_of hy,okK,Bool.and_eq_true,decide_eq_true_eq] at hok
  have hnx:=nextK_den p hs hf k hk c hc y
  obtain ⟨hni,hne⟩:=nextK_is hf hc hok.1
  rw [hne] at hnx
  simp -dsimp -implicitDefEqProofs only [go_sem,seval,h9,b3,b4,hy,hnx]
  exact ⟨by omega,by simp -dsimp -implicitDefEqProofs only [go_sem,seval,hw],by simp -dsimp -implicitDefEqProofs only [go_sem,seval,b1],by simp -dsimp -implicitDefEqProofs only [go_sem,seval,b2],(nextK p k c y).1,hni,by simp -dsimp -implicitDefEqProofs only [go_sem,seval,b3],by simp -dsimp -implicitDefEqProofs only [go_sem,seval],hwk,hok.2⟩
 ·have:i=l.length:=by omega
  subst this
  rw [List.drop_length,goK] at hwk
  simp -dsimp -implicitDefEqProofs only [go_sem,seval,b1,b2,b3,b4]
  rw [hwk]
  exact ⟨rfl,rfl,rfl⟩
end Rg
end
