/- Part of the proof of laws of relyguardlaw31. No condition. -/
import Derived.Test.YtcmeofagpechdaaGreatDoorRartBH
import Derived.Test.YtcmeofagpechdaaGreatDoorRartBF
set_option linter.unusedSimpArgs false
set_option linter.unusedVariables false
section
namespace Rg
open Go
theorem zAD.upd {h:Nat->Option O} {n kL ky:Nat} {l:List Choice} {env:Nat->V} {ps:List Nat} {bd:C} {st:LSt} (o:Option O) (a:zAD h n kL l) (hk:h ky=some (.loop env ps bd st)) (hne:ky≠kL):zAD (updC h ky o) n kL l:=by
 obtain⟨v,v1,v2⟩:=a;refine⟨v,by rw[zac,if_neg hne.symm];exact v1,?_⟩;rcases v2 with h1 | ⟨k2,h1,h2,h3⟩
 ·exact .inl h1
 ·exact .inr ⟨k2,h1,h2,by rw[zac,if_neg (by rintro rfl;rw[hk]at h3;simp at h3)];exact h3⟩
theorem zzE {o:Option (V×(Nat->Option O)×Nat)} {k:Nat} {P:Ex->(Nat->Option O)->Nat->Prop} {Q:(Nat->Option O)->Nat->Prop} (h: ∃r h' n',o=some (r,h',n')/\Q h' n')
 (hQ: ∀h' n',Q h' n'-> ∃env ps bd st e,h' k=some (.loop env ps bd st)/\st.ends=some e/\P e h' n'): ∃r h' n',o=some (r,h',n')/\ ∃env ps bd st e,h' k=some (.loop env ps bd st)/\st.ends=some e/\P e h' n':=by
 obtain⟨r,h',n',h1,h2⟩:=h;exact⟨r,h',n',h1,hQ h' n' h2⟩
theorem zy3 (p:Prog) (hs:p.sane) (hf:formedM p=true) (k:Int) (hk:k=1\/k=2) (c:Config) (hc:IsB p c):Den Γ G 179 [(.agg [.t (.sl ((p).cells.map (Cell.enc))),.t (.sl ((p).modules.map (Contract.enc))),.t (.sl ((p).locks.map (Lock.enc))),.t (.sl ((p).threads.map (Thread.enc)))]),vi k,(.agg [.t (ints (c).mem),.t (ints (c).at_),.t (.sl ((c).buf.map (fun b=>[.sl (b.map Entry.enc)])))])]=some (.t (.sl ((choicesB p k c).map Choice.enc))):=by
 obtain⟨⟨m1,m2,m3,m4⟩,l5⟩:=limits_points (formed_limits hf).1;have l1:=hc.lm;have l2:=hc.la;have l3:=hc.lb;have hld:=zzL p hs hf c hc k hk;have k0: ¬k=0:=by omega
 unfold stV at hld
 (refine den_ofY Γ179 rfl ?_;dsimp only[f179])
 simp -dsimp only[go_sem,seval,k0,hld];refine zaj 37797378607022281333760 c.at_.length (fun i f h x=>(f 33).v=vi i/\zAD h x 17 (choicesBN p k c i)/\18<=x) rfl ?_ ?_
 ·exact⟨by simp -dsimp only[go_sem,seval],⟨.t .nils,by simp -dsimp only[go_sem,seval],.inl ⟨rfl,rfl⟩⟩,by simp -dsimp only[go_sem,seval]⟩
 rintro i f u H z bs hi ⟨h33,hL,hz⟩;have hw:=zah i (by omega);simp -dsimp only[go_sem,seval,h33];refine csplit (fun h=> ?_) (fun h=> ?_)<;>(try rw[h])<;>(try simp only[zab]at h)<;>(try simp -dsimp only[go_sem,seval,h33])
 ·obtain⟨x,hx,hxm⟩:=zaf (show i<p.threads.length by omega);have hv:=zzD p hf c hc i (by omega);obtain⟨_,hst,_⟩:=l5 x hxm;simp -dsimp only[go_sem,seval,h33,hv,hx];refine zaj 2305772640469520384 x.steps.length (fun j f' h' x'=>(f' 46).v=vi j/\h' (z+1+1)=some (.rows 1 [[vi i]] false)/\zAD h' x' 17 (choicesBN p k c i++stepsB p c i x j)/\z+3<=x') rfl ?_ ?_
  ·obtain⟨v,v1,v2⟩:=hL;have u1:17≠z+1+1:=by omega
   refine⟨by simp -dsimp only[go_sem,seval],by simp -dsimp only[go_sem,seval],⟨v,by simp -dsimp only[go_sem,seval,u1,v1],?_⟩,by simp -dsimp only[go_sem,seval];omega⟩;have e0:stepsB p c i x 0=[]:=rfl;rw[e0,List.append_nil];rcases v2 with h1 | ⟨k2,h1,h2,h3⟩
   ·exact .inl h1
   ·have u2:k2≠z+1+1:=by omega
    exact .inr ⟨k2,h1,by simp -dsimp only[go_sem,seval];omega,by simp -dsimp only[go_sem,seval,u2,h3]⟩
  rintro j f' u' H' z' bs' hj ⟨h46,hT,hL',hz'⟩;have hw':=zah j (by omega);simp -dsimp only[go_sem,seval,h46];refine csplit (fun h=> ?_) (fun h=> ?_)<;>(try rw[h])<;>(try simp only[zab]at h)<;>(try simp -dsimp only[go_sem,seval,h46,h33])
  ·obtain⟨s,hs',hsm⟩:=zaf ‹j<x.steps.length›;have hen:=zyt p hf k c hc i x hx j s hs';unfold stV at hen;obtain⟨v,v1,v2⟩:=hL';simp -dsimp only[go_sem,seval,h46,h33,hT,hen,v1];refine csplit (fun h=> ?_) (fun h=> ?_)<;>(try rw[h])<;>(try simp only[zab]at h)<;>(try simp -dsimp only[go_sem,seval,h46,h33,hT,v1])
   ·have hvv:=v2.valOf
    have hll:(choicesBN p k c i++stepsB p c i x j).length<2^20:=by
     have h1:=zxR hf (k:=k) hc i;have h2:=zyk p c i x j;rw[List.length_append];omega
    have hsucc:=zyC (p:=p) (c:=c) (t:=i) hs';rw[h,if_pos rfl]at hsucc
    have hoG:zxp (updC H' (z'+1+2+5+4) (some (O.rows 3 [[V.t (T.int IntKind.i64 i),V.t (T.int IntKind.i64 j),V.t (T.int IntKind.i64 0)]] false))) (z'+1+2+5+5) v 3 (rowsC (choicesBN p k c i++stepsB p c i x j)):=by
     rcases v2 with h1 | ⟨k2,h1,h2,h3⟩
     ·exact .inl h1
     ·exact .inr ⟨k2,h1,by omega,by rw[zac,if_neg (by omega)];exact h3⟩
    have hrs:=hoG.rowsS;simp -dsimp only[go_sem,seval,h46,h33,hT,v1,hvv,hrs];refine zas hoG (Nat.le_refl _) (by rw[zyc];omega) (by decide) rfl (rowsC_all _) ?_;intro v3 hp hO hof hkp;rcases hO with⟨_,he0⟩ | ⟨k3,rfl,hk3a,hk3h⟩
    ·simp at he0
    have hk3q:z'+1+2+5+5<=k3:=by
     rcases Nat.lt_or_ge k3 (z'+1+2+5+5)with h1 | h1
     ·exact absurd rfl (hof k3 h1 0 _)
     ·exact h1
    have hoffv: ∀q,(∀rs fz,H' q≠some (.rows 3 rs fz))->zc1 v q:=fun q hq=>by
     rcases v2 with⟨rfl,_⟩ | ⟨kv,rfl,h2,h3⟩
     ·intro i n h0;cases h0
     ·refine offK_ms ?_ _ _;rintro rfl;exact hq _ _ h3
    have y1:=hkp 17 (by omega) (hoffv 17 (by rw[v1];simp));have y2:=hkp (z+1+1) (by omega) (hoffv _ (by rw[hT];simp));rw[zac,if_neg (by omega),v1]at y1;rw[zac,if_neg (by omega),hT]at y2;have u1:z+1+1≠17:=by omega
    have u2:k3≠17:=by omega
    simp -dsimp only[go_sem,seval,h46,y1];refine⟨by omega,by simp -dsimp only[go_sem,seval,hw'],by simp -dsimp only[go_sem,seval,u1,y2],⟨.ms k3 0 (rowsC (choicesBN p k c i++stepsB p c i x j)++[[vi i,vi j,vi 0]]).length,by simp -dsimp only[go_sem,seval],.inr ⟨k3,?_,by simp -dsimp only[go_sem,seval];omega,?_⟩⟩,by simp -dsimp only[go_sem,seval];omega⟩
    ·rw[hsucc,<- List.append_assoc,zxL]
    ·simp -dsimp only[go_sem,seval,u2];rw[hk3h,hsucc,<- List.append_assoc,zxL]
   ·have hsucc:=zyC (p:=p) (c:=c) (t:=i) hs';rw[h]at hsucc;simp only[zG,if_false,List.append_nil]at hsucc;refine⟨by omega,by simp -dsimp only[go_sem,seval,hw'],by simp -dsimp only[go_sem,seval,hT],⟨v,by simp -dsimp only[go_sem,seval,v1],?_⟩,by simp -dsimp only[go_sem,seval];omega⟩;rw[hsucc];exact v2.le (by simp -dsimp only[go_sem,seval];omega)
  ·have hj2:j=x.steps.length:=by omega
   subst hj2;have hop:=zzJ p k c i;unfold stV at hop;simp -dsimp only[go_sem,seval,hT,h33,hop]
   generalize hE:envC _=env
   have e9:env 9= .mp 17 0 0:=by rw[<- hE];simp -dsimp only[go_sem,seval]
   have e10:env 10= .mp (z+1+1) 0 0:=by rw[<- hE];simp -dsimp only[go_sem,seval]
   clear hE;have hb:=(hc.buf i _ (bufM_at (c:=c) (t:=i) (by omega))).2.1
   have hLen:(choicesBN p k c i++stepsB p c i x x.steps.length).length<2^19:=by
    have h1:=zxR hf (k:=k) hc i;have h2:=zyk p c i x x.steps.length;rw[List.length_append];omega
   refine zhH (P:=fun e h' n'=>e= .normal/\zAD (updC h' (z'+1+3) (some .dead)) n' 17 (choicesBN p k c (i+1))/\18<=n') ?_ ?_
   ·refine zzE (open1_den p hf k c hc i (by omega) (z'+1+3)
     (fun q h n=>h (z'+1+3)=some (.loop env [64,65] zyX .ready)/\h (z+1+1)=some (.rows 1 [[vi i]] false)/\zAD h n 17 (choicesBN p k c i++stepsB p c i x x.steps.length++entsB k i (bufM c i) q)/\z'+1+4<=n)
     (fun _ _=>False) ?_ (fun _ _ _ h _=>h) ?_ _ _ ?_) ?_
    ·rintro q h n m ⟨a1,a2,⟨v,v1,v2⟩,a4⟩ hnm;exact⟨a1,a2,⟨v,v1,v2.le hnm⟩,by omega⟩
    ·rintro q e h n he ⟨a1,a2,a3,a4⟩;have hsucc:=zz5 (k:=k) (t:=i) he;have hqb:=(zH.1 he).1;have hbl:=(hc.buf i _ (bufM_at (c:=c) (t:=i) (by omega))).1;cases ho:openM k (bufM c i) q e
     ·rw[if_neg (by simp)];rw[ho,if_neg (by simp),List.append_nil]at hsucc;rw[hsucc];exact⟨a1,a2,a3,a4⟩
     ·rw[if_pos rfl];rw[ho,if_pos rfl]at hsucc;have hEl:=zzl k i (bufM c i) q;obtain⟨h',n',b1,b2,b3,b4,b5,b6⟩:=zBi (i:=q) (e:=e) a1 e9 e10 a2 a3 (by omega) (by omega) (by omega) (by omega) (by omega) (by omega) (hb e (List.mem_of_getElem? he)).ne (by rw[List.length_append];omega);refine⟨true,h',n',b1,?_⟩;rw[if_pos rfl,hsucc,<- List.append_assoc];exact⟨b2,b3,b4,by omega⟩
    ·obtain⟨v,v1,v2⟩:=hL';have u1:z+1+1≠z'+1+3:=by omega
     have u2:17≠z'+1+3:=by omega
     refine⟨by rw[zac,if_pos rfl],by rw[zac,if_neg u1];exact hT,⟨v,by rw[zac,if_neg u2];exact v1,?_⟩,by omega⟩;have e0:entsB k i (bufM c i) 0=[]:=rfl;rw[e0,List.append_nil];rcases v2 with h1 | ⟨k2,h1,h2,h3⟩
     ·exact .inl h1
     ·exact .inr ⟨k2,h1,by omega,by rw[zac,if_neg (by omega)];exact h3⟩
    ·rintro h' n' (hI | ⟨⟨⟩⟩);refine⟨env,[64,65],zyX,.ready,.normal,hI.1,rfl,rfl,?_,by omega⟩;rw[zx6 hx,<- List.append_assoc];exact hI.2.2.1.upd _ hI.1 (by omega)
   ·rintro e h' n' ⟨rfl,⟨v,v1,v2⟩,hn2⟩;simp -dsimp only[go_sem,seval,h33];refine⟨by omega,by simp -dsimp only[go_sem,seval,hw],⟨v,by simp -dsimp only[go_sem,seval,v1],?_⟩,by simp -dsimp only[go_sem,seval];omega⟩;exact v2.le (by simp -dsimp only[go_sem,seval];omega)
 ·have hi2:i=c.at_.length:=by omega
  subst hi2;obtain⟨v,v1,v2⟩:=hL;have hvv:=v2.valOf;have hre:=v2.reify (choice_norm _);have v5:=v2.resVal;simp only[Rg.resVal]at v5;simp -dsimp only[go_sem,seval,v1,hvv,v5];rw[l2]at hre;exact hre
end Rg
end
section
namespace Rg
open Go
structure NxV (p:Prog) (k:Int) (c:Config) (t:Nat) (n:Int) (env:Nat->V) (ky k7 k8 k9 kS:Nat) (h:Nat->Option O) (x:Nat):Prop where
 e7:env 7= .mp k7 0 0
 e8:env 8= .mp k8 0 0
 e9:env 9= .mp k9 0 0
 e10:env 10= .mp kS 0 0
 hy:h ky=some (.loop env [57,58] zyx .ready)
 h7:h k7=some (.rows 3 [[vi t,vi (-1),vi n]] false)
 h8:h k8=some (.rows 3 [[.t .nils,.t .nils,.t .nils]] false)
 h9:h k9=some (.rows 1 [[vi 0]] false)
 hS:h kS=some (.rows 8 [[.t (ints c.mem),.t (ints c.at_),.t (.sl (c.buf.map fun b=>[.sl (b.map Entry.enc)])),.t (.sl (p.cells.map Cell.enc)),.t (.sl (p.modules.map Contract.enc)),.t (.sl (p.locks.map Lock.enc)),.t (.sl (p.threads.map Thread.enc)),vi k]] false)
 ly:ky<x
 l7:k7<ky
 l8:k8<ky
 l9:k9<ky
 lS:kS<ky
 d78:k7≠k8
 d79:k7≠k9
 d7S:k7≠kS
 d89:k8≠k9
 d8S:k8≠kS
 d9S:k9≠kS
theorem zAf {p:Prog} {k:Int} {c:Config} {t i:Nat} {n:Int} {env:Nat->V} {ky k7 k8 k9 kS:Nat} {h:Nat->Option O} {x:Nat} {e:Entry} (H:NxV p k c t n env ky k7 k8 k9 kS h x) (hne:e.cells≠[]) (hn:headC e≠n):
 ∃h' n',DenY Γ G ky [vi i,.agg [.t (ints e.cells),.t (ints e.values)]] h x=some (vb true,h',n')/\NxV p k c t n env ky k7 k8 k9 kS h' n':=by
 have hc0:e.cells[0]? =some (headC e):=by
  cases hc:e.cells with
  | nil=>exact absurd hc hne
  | cons a r=>simp[headC,hc]
 obtain⟨e7,e8,e9,e10,hy,h7,h8,h9,hS,ly,l7,l8,l9,lS,d78,d79,d7S,d89,d8S,d9S⟩:=H;have a1:k7≠x+1+0:=by omega
 have a2:k8≠x+1+0:=by omega
 have a3:k9≠x+1+0:=by omega
 have a4:kS≠x+1+0:=by omega
 have a5:ky≠x+1+0:=by omega
 have c1:x+1+0≠k7:=by omega
 have c2:x+1+0≠k8:=by omega
 have c3:x+1+0≠k9:=by omega
 have c4:x+1+0≠kS:=by omega
 have c5:x+1+0≠ky:=by omega
 have b1:k7≠ky:=by omega
 have b2:k8≠ky:=by omega
 have b3:k9≠ky:=by omega
 have b4:kS≠ky:=by omega
 have:=zoY (Γ:=Γ) (G:=G) (vs:=[vi i,.agg [.t (ints e.cells),.t (ints e.values)]]) (n:=x) (P:=fun ex h' n'=>ex= .normal/\h' ky=some (.loop env [57,58] zyx .busy)/\x<=n'/\(∀j,j<ky->h' j=h j)) hy rfl (fun ex h' n' hP=>⟨_,_,_,hP.2.1⟩) (by
  simp -dsimp only[go_sem,seval,e7,h7,a1,a2,a3,a4,a5,b1,b2,b3,b4,c1,c2,c3,c4,c5,hc0,hn];refine⟨rfl,by simp -dsimp only[go_sem,seval];rfl,by simp -dsimp only[go_sem,seval];omega,fun j hj=> ?_⟩;have u1:j≠ky:=by omega
  have u2:j≠x+1+0:=by omega
  simp -dsimp only[go_sem,seval,u1,u2])
 obtain⟨ex,h',n',⟨rfl,q1,q2,q3⟩,env',ps',bd',q6,q7⟩:=this;rw[q1]at q6;simp only[zA,O.loop.injEq]at q6;obtain⟨rfl,rfl,rfl,_⟩:=q6;have hj: ∀j o,j<ky->updC h' ky o j=h j:=fun j o hj=>by rw[zac,if_neg (by omega)];exact q3 j hj
 exact⟨_,n',q7,e7,e8,e9,e10,by rw[zac,if_pos rfl];rfl,by rw[hj _ _ l7];exact h7,by rw[hj _ _ l8];exact h8,by rw[hj _ _ l9];exact h9,by rw[hj _ _ lS];exact hS,by omega,l7,l8,l9,lS,d78,d79,d7S,d89,d8S,d9S⟩
theorem zzY {p:Prog} (hf:formedM p=true) {k:Int} {c:Config} (hc:IsB p c) {t i:Nat} (ht:t<p.threads.length) {n:Int} {env:Nat->V} {ky k7 k8 k9 kS:Nat} {h:Nat->Option O} {x:Nat} {e:Entry} (H:NxV p k c t n env ky k7 k8 k9 kS h x)
 (he:(bufM c t)[i]? =some e) (hne:e.cells≠[]) (hn:headC e=n):
 ∃h' n',DenY Γ G ky [vi i,.agg [.t (ints e.cells),.t (ints e.values)]] h x=some (vb false,h',n')/\h' ky=some (.loop env [57,58] zyx (.done .ret))/\
  h' k8=some (.rows 3 [[.t (ints (commitB c t i).mem),.t (ints (commitB c t i).at_),.t (.sl ((commitB c t i).buf.map fun b=>[.sl (b.map Entry.enc)]))]] false)/\h' k9=some (.rows 1 [[vi 0]] false)/\ky<n':=by
 have hc0:e.cells[0]? =some (headC e):=by
  cases hc:e.cells with
  | nil=>exact absurd hc hne
  | cons a r=>simp[headC,hc]
 have hcm:=zz6 p hf k c hc t ht i e he;unfold stV at hcm;obtain⟨e7,e8,e9,e10,hy,h7,h8,h9,hS,ly,l7,l8,l9,lS,d78,d79,d7S,d89,d8S,d9S⟩:=H;have a1:k7≠x+1+0:=by omega
 have a2:k8≠x+1+0:=by omega
 have a3:k9≠x+1+0:=by omega
 have a4:kS≠x+1+0:=by omega
 have a5:ky≠x+1+0:=by omega
 have c1:x+1+0≠k7:=by omega
 have c2:x+1+0≠k8:=by omega
 have c3:x+1+0≠k9:=by omega
 have c4:x+1+0≠kS:=by omega
 have c5:x+1+0≠ky:=by omega
 have b1:k7≠ky:=by omega
 have b2:k8≠ky:=by omega
 have b3:k9≠ky:=by omega
 have b4:kS≠ky:=by omega
 have b6:ky≠k8:=by omega
 have b7:ky≠k9:=by omega
 have b8:k9≠k8:=by omega
 have:=zoY (Γ:=Γ) (G:=G) (vs:=[vi i,.agg [.t (ints e.cells),.t (ints e.values)]]) (n:=x) (P:=fun ex h' n'=>ex= .ret/\h' ky=some (.loop env [57,58] zyx .busy)/\x<=n'/\
  h' k8=some (.rows 3 [[.t (ints (commitB c t i).mem),.t (ints (commitB c t i).at_),.t (.sl ((commitB c t i).buf.map fun b=>[.sl (b.map Entry.enc)]))]] false)/\h' k9=some (.rows 1 [[vi 0]] false)) hy rfl (fun ex h' n' hP=>⟨_,_,_,hP.2.1⟩) (by
  simp -dsimp only[go_sem,seval,e7,h7,a1,a2,a3,a4,a5,b1,b2,b3,b4,c1,c2,c3,c4,c5,hc0,hn,e8,e9,e10,hS,hcm,h8,h9,b6,b7,b8,d89]
  refine⟨rfl,by simp -dsimp only[go_sem,seval,b6,b7];rfl,by simp -dsimp only[go_sem,seval];omega,by simp -dsimp only[go_sem,seval,d89],by simp -dsimp only[go_sem,seval]⟩)
 obtain⟨ex,h',n',⟨rfl,q1,q2,q3,q4⟩,env',ps',bd',q6,q7⟩:=this;rw[q1]at q6;simp only[zA,O.loop.injEq]at q6;obtain⟨rfl,rfl,rfl,_⟩:=q6;exact⟨_,n',q7,by rw[zac,if_pos rfl];rfl,by rw[zac,if_neg b2];exact q3,by rw[zac,if_neg b3];exact q4,by omega⟩
theorem zz1 (p:Prog) (hs:p.sane) (hf:formedM p=true) (k:Int) (hk:k=1\/k=2) (c:Config) (hc:IsB p c) (x:Choice):
 Den Γ G 180 [(.agg [.t (.sl ((p).cells.map (Cell.enc))),.t (.sl ((p).modules.map (Contract.enc))),.t (.sl ((p).locks.map (Lock.enc))),.t (.sl ((p).threads.map (Thread.enc)))]),vi k,(.agg [.t (ints (c).mem),.t (ints (c).at_),.t (.sl ((c).buf.map (fun b=>[.sl (b.map Entry.enc)])))]),(.agg [.t (ti (x).thread),.t (ti (x).step),.t (ti (x).cell)])]=some (.tup [(.agg [.t (ints ((nextB p k c x).1).mem),.t (ints ((nextB p k c x).1).at_),.t (.sl (((nextB p k c x).1).buf.map (fun b=>[.sl (b.map Entry.enc)])))]),vi (nextB p k c x).2]):=by
 obtain⟨⟨m1,m2,m3,m4⟩,l5⟩:=limits_points (formed_limits hf).1;have l1:=hc.lm;have l2:=hc.la;have l3:=hc.lb;have hld:=zzL p hs hf c hc k hk;have k0: ¬k=0:=by omega
 unfold stV at hld
 (refine den_ofY Γ180 rfl ?_;dsimp only[f180])
 by_cases hr:x.thread<0\/(p.threads.length:Int)<=x.thread\/x.step< -1
 ·have hN:nextB p k c x=(zeroC,110):=by rw[nextB,if_pos hr]
  rw[hN];simp only[zeroC,List.map_nil]
  by_cases r1:x.thread<0
  ·simp -dsimp only[go_sem,seval,k0,hld,r1];rfl
  ·by_cases r2:x.thread>=(p.threads.length:Int)
   ·simp -dsimp only[go_sem,seval,k0,hld,r1,r2];rfl
   ·have r3:x.step< -1:=by omega
    simp -dsimp only[go_sem,seval,k0,hld,r1,r2,r3];rfl
 ·have r1: ¬x.thread<0:=by omega
  have r2: ¬x.thread>=(p.threads.length:Int):=by omega
  have r3: ¬x.step< -1:=by omega
  by_cases hm:x.step= -1
  ·have et:((x.thread.toNat:Nat):Int)=x.thread:=by omega
   have hop:=zzJ p k c x.thread.toNat;rw[et]at hop;unfold stV at hop;simp -dsimp only[go_sem,seval,k0,hld,r1,r2,r3,hm,hop]
   generalize hE:envC _=env
   have e7:=congrFun hE 7;have e8:=congrFun hE 8;have e9:=congrFun hE 9;have e10:=congrFun hE 10;clear hE;simp -dsimp only[go_sem,seval]at e7 e8 e9 e10;have ht:x.thread.toNat<p.threads.length:=by omega
   have hbp:=(hc.buf x.thread.toNat _ (bufM_at (c:=c) (t:=x.thread.toNat) (by omega))).2.1
   refine zhH (P:=fun e h' n'=>(e= .normal/\findB k (bufM c x.thread.toNat) x.cell=none/\h' 3=some (.rows 3 [[.t .nils,.t .nils,.t .nils]] false)/\h' 4=some (.rows 1 [[vi 0]] false))\/
    (e= .ret/\ ∃i,findB k (bufM c x.thread.toNat) x.cell=some i/\
      h' 3=some (.rows 3 [[.t (ints (commitB c x.thread.toNat i).mem),.t (ints (commitB c x.thread.toNat i).at_),.t (.sl ((commitB c x.thread.toNat i).buf.map fun b=>[.sl (b.map Entry.enc)]))]] false)/\h' 4=some (.rows 1 [[vi 0]] false))) ?_ ?_
   ·rw[<- et]
    refine zzE (open1_den p hf k c hc x.thread.toNat ht 42
     (fun q h n=>NxV p k c x.thread.toNat x.cell env 42 2 3 4 14 h n/\ ∀j e,j<q->(bufM c x.thread.toNat)[j]? =some e-> ¬(openM k (bufM c x.thread.toNat) j e=true/\headC e=x.cell))
     (fun h n=> ∃i,findB k (bufM c x.thread.toNat) x.cell=some i/\h 42=some (.loop env [57,58] zyx (.done .ret))/\
       h 3=some (.rows 3 [[.t (ints (commitB c x.thread.toNat i).mem),.t (ints (commitB c x.thread.toNat i).at_),.t (.sl ((commitB c x.thread.toNat i).buf.map fun b=>[.sl (b.map Entry.enc)]))]] false)/\h 4=some (.rows 1 [[vi 0]] false)) ?_ (fun _ _ _ h _=>h) ?_ _ _ ?_) ?_
    ·rintro q h n m ⟨a1,a2⟩ hnm;exact⟨{ a1 with ly:=by have:=a1.ly;omega },a2⟩
    ·rintro q e h n he ⟨a1,a2⟩;have hpr:=hbp e (List.mem_of_getElem? he);cases ho:openM k (bufM c x.thread.toNat) q e
     ·rw[if_neg (by simp)];refine⟨a1,fun j e' hj hje=> ?_⟩;rcases Nat.lt_or_ge j q with h1 | h1
      ·exact a2 j e' h1 hje
      ·have:j=q:=by omega
       subst this;rw[he]at hje;cases hje;rw[ho];simp
     ·rw[if_pos rfl]
      by_cases hh:headC e=x.cell
      ·obtain⟨h',n',b1,b2,b3,b4,b5⟩:=zzY hf hc ht a1 he hpr.ne hh;refine⟨false,h',n',b1,?_⟩;rw[if_neg (by simp)];exact⟨q,by rw[<- hh];exact zzN hbp he ho,b2,b3,b4⟩
      ·obtain⟨h',n',b1,b2⟩:=zAf (i:=q) a1 hpr.ne hh;refine⟨true,h',n',b1,?_⟩;rw[if_pos rfl];refine⟨b2,fun j e' hj hje=> ?_⟩;rcases Nat.lt_or_ge j q with h1 | h1
       ·exact a2 j e' h1 hje
       ·have:j=q:=by omega
        subst this;rw[he]at hje;cases hje;exact fun h=>hh h.2
    ·refine⟨⟨e7.symm,e8.symm,e9.symm,e10.symm,by simp -dsimp only[go_sem,seval],by simp -dsimp only[go_sem,seval,et,hm],by simp -dsimp only[go_sem,seval],by simp -dsimp only[go_sem,seval],by simp -dsimp only[go_sem,seval],by omega,by omega,by omega,by omega,by omega,by omega,by omega,by omega,by omega,by omega,by omega⟩,fun j _ hj=>by omega⟩
    ·rintro h' n' (⟨a1,a2⟩ | ⟨i,b1,b2,b3,b4⟩)
     ·refine⟨env,[57,58],zyx,.ready,.normal,a1.hy,rfl,.inl ⟨rfl,?_,a1.h8,a1.h9⟩⟩;unfold findB;rw[List.find?_eq_none];intro j hj;rw[List.mem_range]at hj;rw[zI hj];intro h;simp only[zF,decide_eq_true_eq]at h;exact a2 j _ hj (zI hj) h
     ·exact⟨env,[57,58],zyx,.done .ret,.ret,b2,rfl,.inr ⟨rfl,i,b1,b3,b4⟩⟩
   ·rintro e h' n' (⟨rfl,g1,g2,g3⟩ | ⟨rfl,i,g1,g2,g3⟩)
    ·have hN:nextB p k c x=(zeroC,110):=by rw[nextB,if_neg hr,if_pos hm,g1]
     rw[hN];simp only[zeroC,List.map_nil];simp -dsimp only[go_sem,seval,g2,g3];rfl
    ·have hN:nextB p k c x=(commitB c x.thread.toNat i,0):=by rw[nextB,if_neg hr,if_pos hm,g1]
     rw[hN];simp -dsimp only[go_sem,seval,g2,g3]
  ·have et:((x.thread.toNat:Nat):Int)=x.thread:=by omega
   have es:((x.step.toNat:Nat):Int)=x.step:=by omega
   have t0:0<=x.thread:=by omega
   have s0:0<=x.step:=by omega
   obtain⟨th,hth,hthm⟩:=zaf (show x.thread.toNat<p.threads.length by omega);have hv:=zzD p hf c hc x.thread.toNat (by omega);rw[et]at hv
   by_cases c0:x.cell=0
   ·by_cases c1:x.step>=(th.steps.length:Int)
    ·have hN:nextB p k c x=(zeroC,110):=by
      rw[nextB,if_neg hr,if_neg hm];have:stepAt p x=none:=by simp[stepAt,hth];omega
      rw[this]
     rw[hN];simp only[zeroC,List.map_nil];simp -dsimp only[go_sem,seval,k0,hld,r1,r2,r3,hm,hv,hth,t0,c0,c1];rfl
    ·obtain⟨s,hss,hsm⟩:=zaf (show x.step.toNat<th.steps.length by omega);have hsa:stepAt p x=some s:=by simp[stepAt,hth,hss]
     have hen:=zyt p hf k c hc x.thread.toNat th hth x.step.toNat s hss;rw[et,es]at hen;unfold stV at hen;cases he:enabledB p c x.thread.toNat s
     ·have hN:nextB p k c x=(zeroC,110):=by
       rw[nextB,if_neg hr,if_neg hm,hsa];simp[he]
      rw[hN];rw[he]at hen;simp only[zeroC,List.map_nil];simp -dsimp only[go_sem,seval,k0,hld,r1,r2,r3,hm,hv,hth,t0,c0,c1,hen];rfl
     ·have hN:nextB p k c x=(execB p c x.thread.toNat s,0):=by
       rw[nextB,if_neg hr,if_neg hm,hsa];simp[he,c0]
      rw[hN];rw[he]at hen;have hex:=zAx p hf k c hc x.thread.toNat th hth x.step.toNat s hss x (by cases x;simp_all);unfold stV at hex;simp -dsimp only[go_sem,seval,k0,hld,r1,r2,r3,hm,hv,hth,t0,c0,c1,hen];rw[c0]at hex;simp -dsimp only[go_sem,seval,hex]
   ·have hN:nextB p k c x=(zeroC,110):=by
     rw[nextB,if_neg hr,if_neg hm];split
     ·simp[c0]
     ·rfl
    rw[hN];simp only[zeroC,List.map_nil];simp -dsimp only[go_sem,seval,k0,hld,r1,r2,r3,hm,hv,hth,t0,c0];rfl
end Rg
end
section
namespace Rg
open Go
theorem IsB.sane {p:Prog} (hs:p.sane) {c:Config} (hc:IsB p c):c.sane:=⟨by rw[hc.lm];exact hs.cells,by rw[hc.la];exact hs.threads,by rw[hc.lb];exact hs.threads⟩
theorem zzo (p:Prog) (hs:p.sane) (hf:formedM p=true) (k:Int) (hk:0<=k/\k<=2) (c:Config) (hc:IsK p k c):Den Γ G 179 [(.agg [.t (.sl ((p).cells.map (Cell.enc))),.t (.sl ((p).modules.map (Contract.enc))),.t (.sl ((p).locks.map (Lock.enc))),.t (.sl ((p).threads.map (Thread.enc)))]),vi k,(.agg [.t (ints (c).mem),.t (ints (c).at_),.t (.sl ((c).buf.map (fun b=>[.sl (b.map Entry.enc)])))])]=some (.t (.sl ((choicesK p k c).map Choice.enc))):=by
 by_cases k0:k=0
 ·have h1:=zy2 p hs c (hc.b.sane hs);rw[zyK hf (hc.c k0)]at h1;rw[choicesK,if_pos k0]
  (refine den_ofY Γ179 rfl ?_;dsimp only[f179])
  simp -dsimp only[go_sem,seval,k0,h1]
 ·rw[choicesK,if_neg k0];exact zy3 p hs hf k (by omega) c hc.b
theorem zzd (p:Prog) (hs:p.sane) (hf:formedM p=true) (k:Int) (hk:0<=k/\k<=2) (c:Config) (hc:IsK p k c) (x:Choice):Den Γ G 180 [(.agg [.t (.sl ((p).cells.map (Cell.enc))),.t (.sl ((p).modules.map (Contract.enc))),.t (.sl ((p).locks.map (Lock.enc))),.t (.sl ((p).threads.map (Thread.enc)))]),vi k,(.agg [.t (ints (c).mem),.t (ints (c).at_),.t (.sl ((c).buf.map (fun b=>[.sl (b.map Entry.enc)])))]),(.agg [.t (ti (x).thread),.t (ti (x).step),.t (ti (x).cell)])]=some (.tup [(.agg [.t (ints ((nextK p k c x).1).mem),.t (ints ((nextK p k c x).1).at_),.t (.sl (((nextK p k c x).1).buf.map (fun b=>[.sl (b.map Entry.enc)])))]),vi (nextK p k c x).2]):=by
 by_cases k0:k=0
 ·have h1:=zyG p hs c (hc.b.sane hs) x;rw[nextK,if_pos k0]
  (refine den_ofY Γ180 rfl ?_;dsimp only[f180])
  simp -dsimp only[go_sem,seval,k0,h1]
 ·rw[nextK,if_neg k0];exact zz1 p hs hf k (by omega) c hc.b x
def kM (m:Int):Int:=m % 3
end Rg
end
section
namespace Rg
open Go
section
variable {p:Prog} {B:Nat->Nat->Bool} {c d:Config}
theorem zzH {b:Nat->Bool} {n:Nat} {a a':Int} {s:Step} (h:zyy b n a a') (h0:0<=s.fr) (ha:a'=(s.ins b).fr):a=s.fr:=by
 have h1:(s.ins b).fr=(newB b s.fr.toNat:Nat)+(if b s.fr.toNat then 1 else 0):=rfl;rw[h1]at ha;rcases h with⟨_,h2⟩ | ⟨f,_,h2,h3⟩
 ·split at ha<;>omega
 ·have:f=s.fr.toNat:=by
   cases hb:b s.fr.toNat
   ·rw[hb]at ha;rcases h3 with h3 | ⟨h4,h3⟩
    ·exact zx2 (b:=b) (by simp at ha;omega)
    ·exact absurd (by simp at ha;omega) (newB_mid (b:=b) (m:=s.fr.toNat) h4)
   ·rw[hb]at ha;rcases h3 with h3 | ⟨h4,h3⟩
    ·exact absurd (by simp at ha;omega) (newB_mid (b:=b) (m:=f) hb)
    ·exact zx2 (b:=b) (by simp at ha;omega)
  omega
theorem zAS {b:Nat->Bool} {x:Thread} (hp:1<=x.points) (hlast: ∀n,n<x.points.toNat->b n=true->(n:Int)<x.points-1) {a a':Int} (h:zyy b x.points.toNat a a') (ha:a'=(x.ins b).points-1):a=x.points-1:=by
 have h1:(x.ins b).points=x.points+cntB b x.points.toNat:=rfl;have h3:(newB b x.points.toNat:Int)=x.points+cntB b x.points.toNat:=by unfold newB;omega
 rcases h with⟨_,h2⟩ | ⟨f,hf,h2,h4⟩
 ·omega
 ·refine Classical.byContradiction fun hne=> ?_
  have hf1:f<x.points.toNat-1:=by omega
  have h5:=zoF (b:=b) hf1;have h6:=zgX b (x.points.toNat-1);rw[show x.points.toNat-1+1=x.points.toNat by omega]at h6
  have h7:b (x.points.toNat-1)=false:=by
   cases hb:b (x.points.toNat-1)
   ·rfl
   ·have:=hlast _ (by omega) hb;omega
  rw[h7]at h6;simp at h6;rcases h4 with h4 | ⟨hb,h4⟩
  ·split at h5<;>omega
  ·rw[hb]at h5;simp at h5;omega
theorem zzA {b:Nat->Bool} {n:Nat} {a a':Int} (h:zyy b n a a') (ha:a'= -1):a= -1:=by
 rcases h with⟨h,_⟩ | ⟨f,_,_,h⟩
 ·exact h
 ·rcases h with h | ⟨_,h⟩<;>omega
theorem zAY (hf:formedM p=true) (hr:RelC p B c d) {t:Nat} {x:Thread} {s:Step} (hx:p.threads[t]? =some x) (hto:0<=s.to/\s.to<x.points):
 (if s.kind=6 then(c.at_.set t s.to).set s.target.toNat 0 else c.at_.set t s.to).length=p.threads.length/\
 (if s.kind=6 then(d.at_.set t (newI (B t) s.to)).set s.target.toNat 0 else d.at_.set t (newI (B t) s.to)).length=p.threads.length/\
 ∀(u:Nat) (y:Thread) (a a':Int),p.threads[u]? =some y->(if s.kind=6 then(c.at_.set t s.to).set s.target.toNat 0 else c.at_.set t s.to)[u]? =some a->
  (if s.kind=6 then(d.at_.set t (newI (B t) s.to)).set s.target.toNat 0 else d.at_.set t (newI (B t) s.to))[u]? =some a'->zyy (B u) y.points.toNat a a':=by
 have hl1:t<c.at_.length:=by rw[hr.la];exact(zH.1 hx).1
 have hl2:t<d.at_.length:=by rw[hr.lb];exact(zH.1 hx).1
 have step1: ∀(u:Nat) (y:Thread) (a a':Int),p.threads[u]? =some y->(c.at_.set t s.to)[u]? =some a->(d.at_.set t (newI (B t) s.to))[u]? =some a'->zyy (B u) y.points.toNat a a':=by
  intro u y a a' hy h7 h8;rw[List.getElem?_set]at h7 h8
  by_cases htu:t=u
  ·subst htu;rw[if_pos rfl,if_pos hl1]at h7;rw[if_pos rfl,if_pos hl2]at h8;cases h7;cases h8;rw[hx]at hy;cases hy;have:=zxZ (b:=B t) (show s.to.toNat<x.points.toNat by omega);rw[Int.toNat_of_nonneg hto.1]at this;exact this
  ·rw[if_neg htu]at h7 h8;exact hr.at_ u y a a' hy h7 h8
 refine⟨by split<;>simp[hr.la],by split<;>simp[hr.lb],?_⟩;intro u y a a' hy h7 h8
 by_cases h6:s.kind=6
 ·rw[if_pos h6,List.getElem?_set]at h7 h8
  by_cases hu:s.target.toNat=u
  ·subst hu;have hul:=(zH.1 hy).1;rw[if_pos rfl,if_pos (by simp[hr.la];exact hul)]at h7;rw[if_pos rfl,if_pos (by simp[hr.lb];exact hul)]at h8;cases h7;cases h8;have hp:=points_bound hf hy;exact zxZ (b:=B s.target.toNat) (show 0<y.points.toNat by omega)
  ·rw[if_neg hu]at h7 h8;exact step1 u y a a' hy h7 h8
 ·rw[if_neg h6]at h7 h8;exact step1 u y a a' hy h7 h8
theorem zym (hr:RelC p B c d) (t:Nat):bufM d t=bufM c t:=by unfold bufM;rw[hr.buf]
theorem zy0 (hr:RelC p B c d) (t:Nat):viewM d t=viewM c t:=by unfold viewM;rw[zym hr,hr.mem]
theorem zAh {t:Nat} {x:Thread} (hr:RelC p B c d) (hx:p.threads[t]? =some x): ∃a a',c.at_[t]? =some a/\d.at_[t]? =some a'/\zyy (B t) x.points.toNat a a':=by
 have hu:=(zH.1 hx).1;obtain⟨a,ha,_⟩:=zaf (show t<c.at_.length by rw[hr.la];exact hu);obtain⟨a',ha',_⟩:=zaf (show t<d.at_.length by rw[hr.lb];exact hu);exact⟨a,a',ha,ha',hr.at_ t x a a' hx ha ha'⟩
theorem tgt_back (hf:formedM p=true) (hB:zzs p B) (hr:RelC p B c d) {t i:Nat} {x:Thread} {s:Step} (hx:p.threads[t]? =some x) (hs:x.steps[i]? =some s) (hk:s.kind=6\/s.kind=7):
 (atI d.at_ s.target= -1->atI c.at_ s.target= -1)/\(atI d.at_ s.target=zxl (p.ins B) s.target-1->atI c.at_ s.target=zxl p s.target-1):=by
 have h2:=((formed_step hf hx hs).tgt hk).1;simp only[inR,decide_eq_true_eq]at h2;obtain⟨y,hy,_⟩:=zaf (show s.target.toNat<p.threads.length by omega);obtain⟨a,a',h3,h4,h5⟩:=zAh hr hy;have e:s.target=(s.target.toNat:Int):=by omega
 rw[e,zxN h3,zxN h4];have e1:zxl p (s.target.toNat:Int)=y.points:=by unfold zxl;rw[Int.toNat_natCast,hy]
 have e2:zxl (p.ins B) (s.target.toNat:Int)=(y.ins (B s.target.toNat)).points:=by unfold zxl;rw[Int.toNat_natCast,insP_get (B:=B) hy]
 rw[e1,e2];exact⟨zzA h5,zAS (points_bound hf hy).1 (fen_lt (of_decide_eq_true hf) hB _ y hy) h5⟩
theorem zAb {t j:Nat} {x:Thread} {s:Step} (hs:(x.ins (B t)).steps[j]? =some s):(∃s0,x.steps[j]? =some s0/\s=s0.ins (B t))\/(x.steps.length<=j/\ ∃m,m<x.points.toNat/\B t m=true/\s=fenceS (B t) x m):=by
 rcases Nat.lt_or_ge j x.steps.length with h | h
 ·have h':(x.steps.map (Step.ins (B t))++(fencedL (B t) x.points.toNat).map (fenceS (B t) x))[j]? =some s:=hs;rw[List.getElem?_append_left (by rw[List.length_map];exact h),zJ,zI h]at h';exact .inl ⟨_,zI h,by cases h';rfl⟩
 ·obtain⟨m,h1,h2,_,h3⟩:=zyo hs h rfl;exact .inr ⟨h,m,h1,h2,h3⟩
theorem zzi {a:List Int} (hr:RelC p B c d) {t m:Nat} {x:Thread} (hx:p.threads[t]? =some x) (hm:m<x.points.toNat) (hb:B t m=true) (ha:d.at_[t]? =some ((newB (B t) m:Nat):Int)) (h2:a=d.at_.set t ((newB (B t) m:Int)+1)) {mm:List Int} {bb:List (List Entry)} (h1:mm=d.mem) (h3:bb=d.buf):RelC p B c ⟨mm,a,bb⟩:=by
 subst h1 h2 h3;have htl:t<d.at_.length:=(zH.1 ha).1;refine⟨hr.mem,hr.buf,hr.la,by simp[hr.lb],?_⟩;intro u y a a' hy hca hda;simp only[List.getElem?_set]at hda;split at hda
 ·rename_i htu;subst htu;rw[hx]at hy;cases hy
  try rw[if_pos htl]at hda
  cases hda;rcases hr.at_ t x a _ hx hca ha with⟨h7,h8⟩ | ⟨f,h7,h8,h9⟩
  ·omega
  ·have:f=m:=by
    rcases h9 with h9 | ⟨h9,h10⟩
    ·exact zx2 (b:=B t) (by omega)
    ·exact absurd (show newB (B t) m=newB (B t) f+1 by omega) (newB_mid h9)
   subst this;exact .inr ⟨f,h7,h8,.inr ⟨hb,rfl⟩⟩
 ·exact hr.at_ u y a a' hy hca hda
theorem zAz (hf:formedM p=true) (hB:zzs p B) (hq:formedM (p.ins B)=true) {k:Int} (hc:IsK p k c) (hd:IsK (p.ins B) k d) (hr:RelC p B c d) {y:Choice} (hy:y∈choicesK (p.ins B) k d):
 ∃d',nextK (p.ins B) k d y=(d',0)/\IsK (p.ins B) k d'/\ ∃(t:Nat) (x:Thread),p.threads[t]? =some x/\y.thread=t/\
  ((0<=y.step/\(x.steps.length:Int)<=y.step/\RelC p B c d')\/((y.step<0\/y.step<x.steps.length)/\ ∃c',nextK p k c y=(c',0)/\IsK p k c'/\RelC p B c' d')):=by
 obtain⟨d',hn,hd'⟩:=zAJ hq hd hy;refine⟨d',hn,hd',?_⟩
 by_cases hk:k=0
 ·subst hk;have hyM:y∈choicesM (p.ins B) d:=by simpa[choicesK]using hy
  obtain⟨t,x',i,s,hx',hs,he,rfl,hn',_⟩:=zx7 hq (hd.c rfl) hyM;obtain⟨x,hx,rfl⟩:=zy1 hx'
  have e:d'=execS (p.ins B) d t s:=by
   have:nextK (p.ins B) 0 d ⟨t,i,0⟩=nextM (p.ins B) d ⟨t,i,0⟩:=by simp[nextK]
   rw[this,hn']at hn;cases hn;rfl
  refine⟨t,x,hx,rfl,?_⟩;simp only[enabledM,zF,decide_eq_true_eq]at he;obtain⟨a,a',ha,ha',hat⟩:=zAh hr hx;have hfr:=he.1.1;rw[zxN ha']at hfr;rcases zAb hs with⟨s0,hs0,rfl⟩ | ⟨hj,m,hm,hb,rfl⟩
  ·have hst:=formed_step hf hx hs0;have hca:atI c.at_ t=s0.fr:=by rw[zxN ha];exact zzH hat hst.fr.1 hfr
   have hen:enabledM p c t s0=true:=by
    simp only[enabledM,zF,decide_eq_true_eq];refine⟨⟨hca,by have:=he.1.2;rw[hr.mem]at this;exact this⟩,?_⟩;have h1:=he.2;have h1':(if s0.kind=6 then decide (atI d.at_ s0.target= -1)else if s0.kind=7 then decide (atI d.at_ s0.target=zxl (p.ins B) s0.target-1)else true)=true:=h1
    by_cases h6:s0.kind=6
    ·rw[if_pos h6]at h1'⊢;exact decide_eq_true ((tgt_back hf hB hr hx hs0 (.inl h6)).1 (of_decide_eq_true h1'))
    ·by_cases h7:s0.kind=7
     ·rw[if_neg h6,if_pos h7]at h1'⊢;exact decide_eq_true ((tgt_back hf hB hr hx hs0 (.inr h7)).2 (of_decide_eq_true h1'))
     ·rw[if_neg h6,if_neg h7]
   have hm:(⟨t,i,0⟩:Choice)∈choicesM p c:=zxz.2 ⟨t,x,i,s0,hx,hs0,hen,rfl⟩;obtain⟨t',x',i',s',h1,h2,_,h4,h5,h6⟩:=zx7 hf (hc.c rfl) hm;simp only[Choice.mk.injEq]at h4;have e1:t=t':=by omega
   have e2:i=i':=by omega
   subst e1 e2;rw[hx]at h1;cases h1;rw[hs0]at h2;cases h2;refine .inr ⟨.inr (by have:=(zH.1 hs0).1;simp only;omega),_,by simp only[nextK,if_true];exact h5,⟨zAV (is_iff.1 h6),fun _=>(is_iff.1 h6).buf⟩,?_⟩;obtain⟨u1,u2,u3⟩:=zAY hf hr hx (s:=s0) hst.to;rw[e];refine⟨?_,?_,u1,u2,u3⟩
   ·show writeM d.mem d.mem s0.set=writeM c.mem c.mem s0.set;rw[hr.mem]
   ·show((p.ins B).threads.map fun _=>[])=(p.threads.map fun _=>([]:List Entry));rw[bufs_nil (hd.c rfl),hr.buf,bufs_nil (hc.c rfl)]
  ·refine .inl ⟨by simp only;omega,by simp only;omega,?_⟩;rw[e];exact zzi hr hx hm hb (by rw[ha',hfr];rfl) rfl rfl (bufs_nil (hd.c rfl))
 ·have hyB:y∈choicesB (p.ins B) k d:=by simpa[choicesK,hk]using hy
  rcases zyw.1 hyB with⟨t,x',i,s,hx',hs,he,rfl⟩ | ⟨t,i,e,ht,hi,ho,rfl⟩
  ·obtain⟨x,hx,rfl⟩:=zy1 hx'
   have e:d'=execB (p.ins B) d t s:=by
    have:nextK (p.ins B) k d ⟨t,i,0⟩=nextB (p.ins B) k d ⟨t,i,0⟩:=by simp[nextK,hk]
    rw[this,zyn hx' hs he]at hn;cases hn;rfl
   refine⟨t,x,hx,rfl,?_⟩;simp only[enabledB,zF,decide_eq_true_eq]at he;obtain⟨a,a',ha,ha',hat⟩:=zAh hr hx;have hfr:=he.1.1;rw[zxN ha']at hfr;rcases zAb hs with⟨s0,hs0,rfl⟩ | ⟨hj,m,hm,hb,rfl⟩
   ·have hst:=formed_step hf hx hs0;have hca:atI c.at_ t=s0.fr:=by rw[zxN ha];exact zzH hat hst.fr.1 hfr
    have hen:enabledB p c t s0=true:=by
     simp only[enabledB,zF,decide_eq_true_eq];refine⟨⟨hca,by have:=he.1.2;rw[zy0 hr]at this;exact this⟩,?_⟩
     have h1:(if s0.kind=3 then(if s0.release then decide ((bufM d t).length=0)else decide ((bufM d t).length<3))
      else if s0.kind=4\/s0.kind=5 then decide ((bufM d t).length=0)
      else if s0.kind=6 then decide ((bufM d t).length=0)&&decide (atI d.at_ s0.target= -1)
      else if s0.kind=7 then decide ((bufM d t).length=0)&&(decide (atI d.at_ s0.target=zxl (p.ins B) s0.target-1)&&decide ((bufM d s0.target.toNat).length=0))
      else true)=true:=he.2
     rw[zym hr,zym hr]at h1
     by_cases h3:s0.kind=3
     ·rw[if_pos h3]at h1⊢;exact h1
     ·by_cases h4:s0.kind=4\/s0.kind=5
      ·rw[if_neg h3,if_pos h4]at h1⊢;exact h1
      ·by_cases h6:s0.kind=6
       ·rw[if_neg h3,if_neg h4,if_pos h6,zF]at h1⊢;exact⟨h1.1,decide_eq_true ((tgt_back hf hB hr hx hs0 (.inl h6)).1 (of_decide_eq_true h1.2))⟩
       ·by_cases h7:s0.kind=7
        ·rw[if_neg h3,if_neg h4,if_neg h6,if_pos h7,zF,zF]at h1⊢;exact⟨h1.1,decide_eq_true ((tgt_back hf hB hr hx hs0 (.inr h7)).2 (of_decide_eq_true h1.2.1)),h1.2.2⟩
        ·rw[if_neg h3,if_neg h4,if_neg h6,if_neg h7]
    refine .inr ⟨.inr (by have:=(zH.1 hs0).1;simp only;omega),_,by simp only[nextK,if_neg hk];exact zyn hx hs0 hen,⟨zzP hf hc.b hx hs0 hen,fun h=>absurd h hk⟩,?_⟩;obtain⟨u1,u2,u3⟩:=zAY hf hr hx (s:=s0) hst.to;rw[e];refine⟨?_,?_,u1,u2,u3⟩
    ·show writeM d.mem (viewM d t) (if s0.kind=3 then s0.set.filter (fun a=> !sharedA (p.ins B) a)else s0.set)=_;rw[zy0 hr,hr.mem];rfl
    ·show(if s0.kind=3 then d.buf.set t (bufM d t++[entryOf (p.ins B) (viewM d t) s0.set])else d.buf)=_;rw[zy0 hr,zym hr,hr.buf];rfl
   ·refine .inl ⟨by simp only;omega,by simp only;omega,?_⟩;rw[e];exact zzi hr hx hm hb (by rw[ha',hfr];rfl) rfl rfl rfl
  ·have ht':t<p.threads.length:=by rw[zxv]at ht;exact ht
   have e0:d'=commitB d t i:=by
    have:nextK (p.ins B) k d ⟨t,-1,headC e⟩=nextB (p.ins B) k d ⟨t,-1,headC e⟩:=by simp[nextK,hk]
    rw[this,zxW hd.b ht hi ho]at hn;cases hn;rfl
   obtain⟨x,hx,_⟩:=zaf ht';have hi':=hi;rw[zym hr]at hi ho;refine⟨t,x,hx,rfl,.inr ⟨.inl (by simp only;omega),_,by simp only[nextK,if_neg hk];exact zxW hc.b ht' hi ho,⟨zyW hc.b hi,fun h=>absurd h hk⟩,?_⟩⟩;rw[e0];unfold commitB;rw[hi,hi'];exact⟨by simp only[hr.mem],by simp only[hr.buf,zym hr],hr.la,hr.lb,hr.at_⟩
end
end Rg
end
