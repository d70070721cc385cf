/- Part of the proof of the laws of the package relyguardlaw30: an abstract machine for the program's functions, what they compute, and that the machine is the program's. No condition. (H44c H44d H44e) -/
import Derived.Test.YtcgkpboneipghaaGreatDoorPartBD
set_option linter.unusedSimpArgs false
set_option linter.unusedVariables false
section
namespace Rg
open Go
theorem visits_den (kG last m:Nat) (op:Bool) (H:Nat->Option O) (n:Nat) :
 ∃ r h' n',DenR Γ G 323 [.mp kG 0 0,vi last,vi m,vb op] H n=some (r,h',n') /\
  ∃ kg ko kl km,r = .fn 326 [] [.mp kg 0 0, .mp ko 0 0, .mp kl 0 0, .mp km 0 0]/\BoxV h' kg ko kl km kG op last m/\(∀ k,k<n->h' k=H k)/\n<=kg/\n<=ko/\n<=kl/\n<=km/\kg<n' /\ ko<n' /\ kl<n' /\ km<n' := by
 (refine denR_ofY Γ323 rfl ?_; dsimp only [f323])
 simp -dsimp -implicitDefEqProofs only [go_sem,seval]
 refine ⟨n+0,n+3,n+1,n+2,rfl,⟨?_, ?_, ?_, ?_⟩,fun k hk => ?_, ?_, ?_, ?_, ?_, ?_, ?_, ?_, ?_⟩
 ·simp only [hpC_cons,hpC_nil,updC_at]; rw [if_neg (by omega),if_neg (by omega),if_neg (by omega),if_pos trivial]
 ·simp only [hpC_cons,hpC_nil,updC_at]; rw [if_pos trivial]
 ·simp only [hpC_cons,hpC_nil,updC_at]; rw [if_neg (by omega),if_neg (by omega),if_pos trivial]
 ·simp only [hpC_cons,hpC_nil,updC_at]; rw [if_neg (by omega),if_pos trivial]
 ·simp only [hpC_cons,hpC_nil,updC_at]; rw [if_neg (by omega),if_neg (by omega),if_neg (by omega),if_neg (by omega)]
 ·omega
 ·omega
 ·omega
 ·omega
 ·simp -dsimp -implicitDefEqProofs only [go_sem,seval]; omega
 ·simp -dsimp -implicitDefEqProofs only [go_sem,seval]; omega
 ·simp -dsimp -implicitDefEqProofs only [go_sem,seval]; omega
 ·simp -dsimp -implicitDefEqProofs only [go_sem,seval]; omega
def Kp (H:Nat->Option O) (n0 kn:Nat) (g:Gr) (h:Nat->Option O):Prop:=(∀ k,k<n0->k≠kn->h k=H k) /\ ∃ es,MemoOk g es/\h kn=some (.map es)
structure GrL (H:Nat->Option O) (n0 kG kM kn:Nat) (cv:V) (p:Prog) (model:Int) (g:Gr):Prop where
 b : ∃ f1 f2,GrB H kG kM kn cv p model g f1 f2
 lG:kG<n0
 lM:kM<n0
 ln:kn<n0
 lc : ∀ q,n0<=q->offK cv q
 al:g.all.length<2^20
section
variable {H:Nat->Option O} {n0 kG kM kn:Nat} {cv:V} {p:Prog} {model:Int} {g:Gr}
theorem Kp.grB {h:Nat->Option O} (k:Kp H n0 kn g h) (l:GrL H n0 kG kM kn cv p model g) : ∃ es f1 f2,MemoOk g es/\GrB h kG kM kn cv p model g f1 f2/\h=HM h kn es:=by
 obtain ⟨k1,es,hes,k2⟩:=k
 obtain ⟨f1,f2,b⟩:=l.b
 refine ⟨es,f1,f2,hes,⟨by rw [k1 _ l.lG b.neG]; exact b.row, ?_,by rw [k1 _ l.lM b.neM]; exact b.msk,b.neG,b.neM,b.off,b.ok,b.nt4,b.nc,b.cl,b.nt⟩, ?_⟩
 ·rcases b.cls with h1 | ⟨q,f,rfl,hq⟩
  ·exact .inl h1
  ·refine .inr ⟨q,f,rfl, ?_⟩
   have h2:q≠kn:=by rintro rfl; exact b.off _ _ rfl
   have h3:q<n0:=by
    rcases Nat.lt_or_ge q n0 with h4 | h4
    ·exact h4
    ·exact absurd rfl (l.lc q h4 _ _)
   rw [k1 _ h3 h2]; exact hq
 ·funext q
  by_cases hq:q=kn
  ·subst hq; rw [HM_at,k2]
  ·rw [HM_ne _ _ hq]
theorem Kp.upd {h:Nat->Option O} (k:Kp H n0 kn g h) {q:Nat} (hq:n0<=q) (hn:kn<n0) (o:Option O):Kp H n0 kn g (updC h q o):=by
 obtain ⟨k1,es,hes,k2⟩:=k
 refine ⟨fun j hj hne => ?_,es,hes, ?_⟩
 ·rw [updC_at,if_neg (by omega)]; exact k1 j hj hne
 ·rw [updC_at,if_neg (by omega)]; exact k2
theorem Kp.memo {h:Nat->Option O} (k:Kp H n0 kn g h) {es:List (T×V)} (hes:MemoOk g es):Kp H n0 kn g (HM h kn es) :=
 ⟨fun j hj hne=>by rw [HM_ne _ _ hne]; exact k.1 j hj hne,es,hes,HM_at _ _ _⟩
theorem Kp.keep {h h' : Nat->Option O} (k:Kp H n0 kn g h) (hn:kn<n0) (hk : ∀ j,j<n0->h' j=h j):Kp H n0 kn g h' := by
 obtain ⟨k1,es,hes,k2⟩:=k
 exact ⟨fun j hj hne=>by rw [hk j hj]; exact k1 j hj hne,es,hes,by rw [hk kn hn]; exact k2⟩
structure FV (H:Nat->Option O) (n0 kG kn:Nat) (g:Gr) (h:Nat->Option O) (n k4 k7 k10 k11 k12 k13 k14 rest goal last m:Nat) (op:Bool) (l:List Acc):Prop where
 kp:Kp H n0 kn g h
 b4:h k4=some (.rows 1 [[.mp kG 0 0]] false)
 b7:h k7=some (.rows 1 [[vi rest]] false)
 b10:h k10=some (.rows 1 [[vi goal]] false)
 b11 : ∃ v,h k11=some (.rows 1 [[v]] false)/\OwnB h n v 4 (rowsA l) /\ ∀ q,q<n0->offK v q
 b12:h k12=some (.rows 1 [[vi last]] false)
 b13:h k13=some (.rows 1 [[vi m]] false)
 b14:h k14=some (.rows 1 [[vb op]] false)
 lt:n0<=k4/\k4<k7/\k7<k10/\k10<k11/\k11<k12/\k12<k13/\k13<k14/\k14<n
theorem FV.updY {h:Nat->Option O} {n k4 k7 k10 k11 k12 k13 k14 rest goal last m ky:Nat} {op:Bool} {l:List Acc} (f:FV H n0 kG kn g h n k4 k7 k10 k11 k12 k13 k14 rest goal last m op l) (hn:kn<n0) (hy:k14<ky)
 {env:Nat->V} {ps:List Nat} {bd:C} {st:LSt} (hl:h ky=some (.loop env ps bd st)) (o:Option O):FV H n0 kG kn g (updC h ky o) n k4 k7 k10 k11 k12 k13 k14 rest goal last m op l:=by
 have lt:=f.lt
 obtain ⟨v,v1,v2,v3⟩:=f.b11
 have hof:offK v ky:=by
  rcases v2 with ⟨rfl,_⟩ | ⟨q,rfl,_,hq⟩
  ·intro i n he; cases he
  ·refine offK_ms ?_ _ _
   rintro rfl; rw [hq] at hl; cases hl
 refine ⟨f.kp.upd (by omega) hn o, ?_, ?_, ?_,⟨v, ?_,v2.updO hof o,v3⟩, ?_, ?_, ?_,lt⟩
 ·rw [updC_at,if_neg (by omega)]; exact f.b4
 ·rw [updC_at,if_neg (by omega)]; exact f.b7
 ·rw [updC_at,if_neg (by omega)]; exact f.b10
 ·rw [updC_at,if_neg (by omega)]; exact v1
 ·rw [updC_at,if_neg (by omega)]; exact f.b12
 ·rw [updC_at,if_neg (by omega)]; exact f.b13
 ·rw [updC_at,if_neg (by omega)]; exact f.b14
theorem FV.memo {h:Nat->Option O} {n n' k4 k7 k10 k11 k12 k13 k14 rest goal last m:Nat} {op:Bool} {l:List Acc} (f:FV H n0 kG kn g h n k4 k7 k10 k11 k12 k13 k14 rest goal last m op l) (hn:kn<n0) {es:List (T×V)} (hes:MemoOk g es) (hnn:n<=n'):FV H n0 kG kn g (HM h kn es) n' k4 k7 k10 k11 k12 k13 k14 rest goal last m op l:=by
 have lt:=f.lt
 obtain ⟨v,v1,v2,v3⟩:=f.b11
 have hne : ∀ q,n0<=q->HM h kn es q=h q:=fun q hq=>HM_ne _ _ (by omega)
 refine ⟨f.kp.memo hes, ?_, ?_, ?_,⟨v, ?_, ?_,v3⟩, ?_, ?_, ?_,by omega⟩
 ·rw [hne _ (by omega)]; exact f.b4
 ·rw [hne _ (by omega)]; exact f.b7
 ·rw [hne _ (by omega)]; exact f.b10
 ·rw [hne _ (by omega)]; exact v1
 ·exact (v2.updO (v3 kn hn) _).le hnn
 ·rw [hne _ (by omega)]; exact f.b12
 ·rw [hne _ (by omega)]; exact f.b13
 ·rw [hne _ (by omega)]; exact f.b14
theorem FV.le {h:Nat->Option O} {n n' k4 k7 k10 k11 k12 k13 k14 rest goal last m:Nat} {op:Bool} {l:List Acc} (f:FV H n0 kG kn g h n k4 k7 k10 k11 k12 k13 k14 rest goal last m op l) (hnn:n<=n'):FV H n0 kG kn g h n' k4 k7 k10 k11 k12 k13 k14 rest goal last m op l:=by
 obtain ⟨v,v1,v2,v3⟩:=f.b11
 exact ⟨f.kp,f.b4,f.b7,f.b10,⟨v,v1,v2.le hnn,v3⟩,f.b12,f.b13,f.b14,by have:=f.lt; omega⟩
set_option maxHeartbeats 4000000
theorem roundF (gl:GrL H n0 kG kM kn cv p model g) {h:Nat->Option O} {env:Nat->V} {n k4 k7 k10 k11 k12 k13 k14 r goal last m ky i:Nat} {op ins:Bool} {l:List Acc}
 (hk:h ky=some (.loop env [57,58] b317_0 .ready)) (e4:env 4 = .mp k4 0 0) (e7:env 7 = .mp k7 0 0) (e10:env 10 = .mp k10 0 0) (e11:env 11 = .mp k11 0 0) (e12:env 12 = .mp k12 0 0) (e13:env 13 = .mp k13 0 0) (e14:env 14 = .mp k14 0 0)
 (hF:FV H n0 kG kn g h n k4 k7 k10 k11 k12 k13 k14 (r+1) goal last m op l) (hky:k14<ky) (hkn:ky<n) (hi:i<g.all.length) (hins:(g.visit last m op i).1=ins) (hout:ins=false->(g.visit last m op i).2=true)
 (hgo:goal<g.msk.length) (hm:m<16) (hr:r<90) (hll:l.length<2^20) :
 ∃ h' n',DenY Γ G ky [vi i,vb ins] h n=some (vb (!g.next goal last m op r i),h',n')/\n<=n' /\
  (if g.next goal last m op r i then h' ky=some (.loop env [57,58] b317_0 (.done (.exit 1)))/\FV H n0 kG kn g h' n' k4 k7 k10 k11 k12 k13 k14 r goal i (if ins then m else m ||| 1 <<< (g.ac i).th) (!ins) (l++[g.ac i])
   else h' ky=some (.loop env [57,58] b317_0 .ready)/\FV H n0 kG kn g h' n' k4 k7 k10 k11 k12 k13 k14 (r+1) goal last m op l /\ ∀ q,q≠ky->q≠kn->h' q=h q):=by
 have hln:=gl.ln
 have:=denY_of (Γ:=Γ) (G:=G) (vs:=[vi i,vb ins]) (n:=n) (P:=fun ex h' n' => ex=(if g.next goal last m op r i then .exit 1 else .normal)/\n<=n' /\ h' ky=some (.loop env [57,58] b317_0 .busy) /\
  (if g.next goal last m op r i then FV H n0 kG kn g h' n' k4 k7 k10 k11 k12 k13 k14 r goal i (if ins then m else m ||| 1 <<< (g.ac i).th) (!ins) (l++[g.ac i])
   else FV H n0 kG kn g h' n' k4 k7 k10 k11 k12 k13 k14 (r+1) goal last m op l /\ ∀ q,q≠ky->q≠kn->h' q=h q)) hk rfl (fun ex h' n' hP=>⟨_,_,_,hP.2.2.1⟩) (by
  have lt:=hF.lt
  have hF1:=hF.updY hln hky hk (some (.loop env [57,58] b317_0 .busy))
  have hY1:updC h ky (some (.loop env [57,58] b317_0 .busy)) ky=some (.loop env [57,58] b317_0 .busy):=by rw [updC_at,if_pos rfl]
  simp -dsimp -implicitDefEqProofs only [go_sem,seval]
  rw [updC_same]
  obtain ⟨h1,hh1⟩ : ∃ h1,h1=updC h ky (some (.loop env [57,58] b317_0 .busy)):=⟨_,rfl⟩
  rw [<- hh1] at hF1 hY1
  have hq1 : ∀ q,q≠ky->h1 q=h q:=fun q hq=>by rw [hh1,updC_at,if_neg hq]
  unfold b317_0 at hh1
  rw [<- hh1]
  clear hh1
  clear hF
  obtain ⟨es,f1,f2,hes,b,hE⟩:=hF1.kp.grB gl
  have hG:=b.rowM es
  obtain ⟨kc,fc,hcv,hkc⟩:=b.clsK hi
  subst hcv
  have hC:=hkc es
  rw [<- hE] at hG hC
  have hcal:g.cl i<g.msk.length:=b.ok.cl_lt i hi
  have hca:=b.cl_at hi
  have hcl:=rowsC30_len g.cls
  have hcc:=b.ok.cl_len
  have hia:(i<g.all.length)=True:=by simp [hi]
  have hr2:IntKind.i64.wrap (((r+1:Nat):Int)-1)=((r:Nat):Int):=by rw [wrap64 (by omega)]; omega
  have hF:=hF1
  obtain ⟨_,b4,b7,b10,⟨v,bv,bO,bof⟩,b12,b13,b14,_⟩:=hF1
  have hxa:=GrB.ac_at hi
  cases ins
  ·have hnx:g.next goal last m op r i=g.begins r goal i (m ||| 1 <<< (g.ac i).th):=by unfold Gr.next; rw [hins,hout rfl]; rfl
   rw [hnx]
   have hth:(g.ac i).th<4:=by have:=b.ok.th_lt i hi; have:=b.nt4; omega
   have hsl:=i_shl (i:=(g.ac i).th) (by omega)
   have hor:=i_or (a:=m) (b:=1 <<< (g.ac i).th) (by omega) (by have:=mask_lt (m:=0) (by omega) hth; rw [Nat.zero_or] at this; omega)
   simp -dsimp -implicitDefEqProofs only [go_sem,seval,e4,e7,e10,e13,b4,b7,b10,b13,hG,hxa,hsl,hor,hr2]
   have hen:=begins_den b gl.al (r:=r) (by omega) goal i (m ||| 1 <<< (g.ac i).th) es
   rw [<- hE] at hen
   refine rawK_of (nxt_of (hen _ hgo hi (mask_lt hm hth) hes)) ?_
   rintro _ h' n' ⟨⟨rfl,es1,hes1,rfl⟩,hnn⟩
   have hF2:=hF.memo gl.ln hes1 (n' := n') (by refine Nat.le_trans ?_ hnn; omega)
   have hY2:HM h1 kn es1 ky=some (.loop env [57,58] b317_0 .busy):=by rw [HM_ne _ _ (by have:=gl.ln; omega)]; exact hY1
   simp -dsimp -implicitDefEqProofs only [go_sem,seval]
   have hq2 : ∀ q,q≠ky->q≠kn->HM h1 kn es1 q=h q:=fun q h3 h4=>by rw [HM_ne _ _ h4,hq1 q h3]
   generalize HM h1 kn es1=h2 at hF2 hY2 hq2 ⊢
   clear hF hY1 hE hG hC hkc b4 b7 b10 b12 b13 b14 bv bO bof b hen
   obtain ⟨es2,f1',f2',hes2,b,hE⟩:=hF2.kp.grB gl
   have hG:=b.rowM es2
   rw [<- hE] at hG
   obtain ⟨_,b4,b7,b10,⟨v,bv,bO,bof⟩,b12,b13,b14,_⟩:=id hF2
   cases hev:g.begins r goal i (m ||| 1 <<< (g.ac i).th)
   ·simp -dsimp -implicitDefEqProofs only [go_sem,seval]
    refine ⟨rfl, ?_,hY2,hF2.le ?_,hq2⟩
    ·(try simp -dsimp -implicitDefEqProofs only [go_sem,seval]); omega
    ·(try simp -dsimp -implicitDefEqProofs only [go_sem,seval]); omega
   ·have v1:=bO.valOf
    have v3:=bO.r3
    have v4:=bO.r4
    have v2:=bO.r2
    have v5:=bO.r1
    have lt2:=hF2.lt
    simp -dsimp -implicitDefEqProofs only [go_sem,seval,e4,e7,e11,e12,e13,e14,b4,b7,b12,b13,bv,b14,hG,hxa,v1,v2,v3,v4,v5]
    refine putA_app1 (bO.upd (by omega) _) (by omega) (by rw [rowsA_len]; omega) (by decide) rfl (rowsA_all _) ?_
    intro v' hp' hO' hoffs hkeep
    obtain ⟨kv,mv,rfl⟩:=hO'.msE (by simp)
    have hk1 : ∀ j,j<n' -> offK v j->hpC (updC h2 (n' + 8) (some (.rows 4 [[V.t (ti (g.ac i).th),V.t (ti (g.ac i).st),V.t (ti (g.ac i).ce),V.t (tb (g.ac i).wr)]] false))) hp' j=h2 j:=by
     intro j hj ho
     rw [hkeep j (by omega) ho,updC_at,if_neg (by omega)]
    have y4:=hk1 k4 (by omega) (bO.offR b4 (by decide))
    have y7:=hk1 k7 (by omega) (bO.offR b7 (by decide))
    have y10:=hk1 k10 (by omega) (bO.offR b10 (by decide))
    have y11:=hk1 k11 (by omega) (bO.offR bv (by decide))
    have y12:=hk1 k12 (by omega) (bO.offR b12 (by decide))
    have y13:=hk1 k13 (by omega) (bO.offR b13 (by decide))
    have y14:=hk1 k14 (by omega) (bO.offR b14 (by decide))
    rw [b4] at y4
    rw [b7] at y7
    rw [b10] at y10
    rw [bv] at y11
    rw [b12] at y12
    rw [b13] at y13
    rw [b14] at y14
    have q1:(k12=k11)=False:=by simp; omega
    have q2:(k14=k12)=False:=by simp; omega
    have q3:(k14=k11)=False:=by simp; omega
    have q4:(k7=k14)=False:=by simp; omega
    have q5:(k7=k12)=False:=by simp; omega
    have q6:(k7=k11)=False:=by simp; omega
    have p1:(k13=k7)=False:=by simp; omega
    have p2:(k13=k14)=False:=by simp; omega
    have p3:(k13=k12)=False:=by simp; omega
    have p4:(k13=k11)=False:=by simp; omega
    simp -dsimp -implicitDefEqProofs only [go_sem,seval,e4,e7,e11,e12,e13,e14,y4,y7,y11,y12,y13,y14,q1,q2,q3,q4,q5,q6,p1,p2,p3,p4,hr2]
    refine ⟨?_, ?_⟩
    ·simp only [sepAll,List.all_cons,List.all_nil,List.getElem?_cons_succ,List.getElem?_cons_zero,sep,AOp.looks,AOp.opds,AOp.wopd,topsL,evl_eq,List.flatMap_cons,List.flatMap_nil]
     simp -dsimp -implicitDefEqProofs only [go_sem,seval,e7,e11,e12,e13,e14,V.top]
     simp; omega
    ·have hoky:offK v ky:=by
      rcases bO with ⟨rfl,_⟩ | ⟨q,rfl,_,hq⟩
      ·intro i n he; cases he
      ·refine offK_ms ?_ _ _
       rintro rfl; rw [hq] at hY2; cases hY2
     have yky:=hk1 ky (by omega) hoky
     rw [hY2] at yky
     have hkp3:=hF2.kp.keep hln fun j hj=>hk1 j (by omega) (bof j hj)
     rw [rowsA_snoc _ (g.ac i).th (g.ac i).st (g.ac i).ce (g.ac i).wr (by omega)] at hO'
     obtain ⟨h3,hh3⟩ : ∃ h3,h3=hpC (updC h2 (n' + 8) (some (.rows 4 [[V.t (ti (g.ac i).th),V.t (ti (g.ac i).st),V.t (ti (g.ac i).ce),V.t (tb (g.ac i).wr)]] false))) hp' := ⟨_,rfl⟩
     rw [<- hh3] at yky y4 y10 y13 hO' hkp3
     have hoj : ∀ j,j<n' -> offK (.ms kv 0 mv) j:=fun j hj=>hoffs j (by omega)
     refine ⟨rfl, ?_, ?_, ?_⟩
     ·simp -dsimp -implicitDefEqProofs only [go_sem,seval]; omega
     ·simp only [hpC_cons,hpC_nil]
      rw [<- hh3]
      simp only [updC_at]
      rw [if_neg (by omega),if_neg (by omega),if_neg (by omega),if_neg (by omega),if_neg (by omega)]; exact yky
     simp only [hpC_cons,hpC_nil,if_true]
     rw [<- hh3]
     refine ⟨?_, ?_, ?_, ?_,⟨.ms kv 0 mv, ?_, ?_,fun q hq=>hoj q (by omega)⟩, ?_, ?_, ?_, ?_⟩
     ·exact ((((hkp3.upd (by omega) hln _).upd (by omega) hln _).upd (by omega) hln _).upd (by omega) hln _).upd (by omega) hln _
     ·simp only [updC_at]
      rw [if_neg (by omega),if_neg (by omega),if_neg (by omega),if_neg (by omega),if_neg (by omega)]; exact y4
     ·simp only [updC_at]
      rw [if_neg (by omega),if_pos trivial]
     ·simp only [updC_at]
      rw [if_neg (by omega),if_neg (by omega),if_neg (by omega),if_neg (by omega),if_neg (by omega)]; exact y10
     ·simp only [updC_at]
      rw [if_neg (by omega),if_neg (by omega),if_neg (by omega),if_neg (by omega),if_pos trivial]
     ·have:=(((((hO'.updO (hoj k11 (by omega)) (some (.rows 1 [[.ms kv 0 mv]] false))).updO (hoj k12 (by omega)) (some (.rows 1 [[vi i]] false))).updO (hoj k14 (by omega)) (some (.rows 1 [[vb true]] false))).updO (hoj k7 (by omega)) (some (.rows 1 [[vi r]] false))).updO (hoj k13 (by omega)) (some (.rows 1 [[vi ((m ||| 1 <<< (g.ac i).th:Nat):Int)]] false)))
      simp -dsimp -implicitDefEqProofs only [go_sem,seval]
      refine this.le ?_; omega
     ·simp only [updC_at]
      rw [if_neg (by omega),if_neg (by omega),if_neg (by omega),if_pos trivial]
     ·simp only [updC_at]
      rw [if_pos trivial]; rfl
     ·simp only [updC_at]
      rw [if_neg (by omega),if_neg (by omega),if_pos trivial]; rfl
     ·simp -dsimp -implicitDefEqProofs only [go_sem,seval]; omega
  ·have hnx:g.next goal last m op r i=g.ends r goal (g.cl i) m:=by unfold Gr.next; rw [hins,if_pos rfl]
   rw [hnx]
   simp -dsimp -implicitDefEqProofs only [go_sem,seval,e4,e7,e10,e13,b4,b7,b10,b13,hG,hC,hca,hcl,hcc,hia,hr2]
   have hen:=ends_all b r (by omega) goal (g.cl i) m es
   rw [<- hE] at hen
   refine rawK_of (nxt_of (hen _ hgo hcal hm hes)) ?_
   rintro _ h' n' ⟨⟨rfl,es1,hes1,rfl⟩,hnn⟩
   have hF2:=hF.memo gl.ln hes1 (n' := n') (by refine Nat.le_trans ?_ hnn; omega)
   have hY2:HM h1 kn es1 ky=some (.loop env [57,58] b317_0 .busy):=by rw [HM_ne _ _ (by have:=gl.ln; omega)]; exact hY1
   simp -dsimp -implicitDefEqProofs only [go_sem,seval]
   have hq2 : ∀ q,q≠ky->q≠kn->HM h1 kn es1 q=h q:=fun q h3 h4=>by rw [HM_ne _ _ h4,hq1 q h3]
   generalize HM h1 kn es1=h2 at hF2 hY2 hq2 ⊢
   clear hF hY1 hE hG hC hkc b4 b7 b10 b12 b13 b14 bv bO bof b hen
   obtain ⟨es2,f1',f2',hes2,b,hE⟩:=hF2.kp.grB gl
   have hG:=b.rowM es2
   rw [<- hE] at hG
   obtain ⟨_,b4,b7,b10,⟨v,bv,bO,bof⟩,b12,b13,b14,_⟩:=id hF2
   have hth:(g.ac i).th<4:=by have:=b.ok.th_lt i hi; have:=b.nt4; omega
   have hsl:=i_shl (i:=(g.ac i).th) (by omega)
   have hor:=i_or (a:=m) (b:=1 <<< (g.ac i).th) (by omega) (by have:=mask_lt (m:=0) (by omega) hth; rw [Nat.zero_or] at this; omega)
   cases hev:g.ends r goal (g.cl i) m
   ·simp -dsimp -implicitDefEqProofs only [go_sem,seval,e4,e13,b4,b13,hG,hxa,hsl,hor]
    refine ⟨rfl, ?_,hY2,hF2.le ?_,hq2⟩
    ·(try simp -dsimp -implicitDefEqProofs only [go_sem,seval]); omega
    ·(try simp -dsimp -implicitDefEqProofs only [go_sem,seval]); omega
   ·have v1:=bO.valOf
    have v3:=bO.r3
    have v4:=bO.r4
    have v2:=bO.r2
    have v5:=bO.r1
    have lt2:=hF2.lt
    simp -dsimp -implicitDefEqProofs only [go_sem,seval,e4,e7,e11,e12,e14,b4,b7,b12,bv,b14,hG,hxa,v1,v2,v3,v4,v5]
    refine putA_app1 (bO.upd (by omega) _) (by omega) (by rw [rowsA_len]; omega) (by decide) rfl (rowsA_all _) ?_
    intro v' hp' hO' hoffs hkeep
    obtain ⟨kv,mv,rfl⟩:=hO'.msE (by simp)
    have hk1 : ∀ j,j<n' -> offK v j->hpC (updC h2 (n' + 8) (some (.rows 4 [[V.t (ti (g.ac i).th),V.t (ti (g.ac i).st),V.t (ti (g.ac i).ce),V.t (tb (g.ac i).wr)]] false))) hp' j=h2 j:=by
     intro j hj ho
     rw [hkeep j (by omega) ho,updC_at,if_neg (by omega)]
    have y4:=hk1 k4 (by omega) (bO.offR b4 (by decide))
    have y7:=hk1 k7 (by omega) (bO.offR b7 (by decide))
    have y10:=hk1 k10 (by omega) (bO.offR b10 (by decide))
    have y11:=hk1 k11 (by omega) (bO.offR bv (by decide))
    have y12:=hk1 k12 (by omega) (bO.offR b12 (by decide))
    have y13:=hk1 k13 (by omega) (bO.offR b13 (by decide))
    have y14:=hk1 k14 (by omega) (bO.offR b14 (by decide))
    rw [b4] at y4
    rw [b7] at y7
    rw [b10] at y10
    rw [bv] at y11
    rw [b12] at y12
    rw [b13] at y13
    rw [b14] at y14
    have q1:(k12=k11)=False:=by simp; omega
    have q2:(k14=k12)=False:=by simp; omega
    have q3:(k14=k11)=False:=by simp; omega
    have q4:(k7=k14)=False:=by simp; omega
    have q5:(k7=k12)=False:=by simp; omega
    have q6:(k7=k11)=False:=by simp; omega
    simp -dsimp -implicitDefEqProofs only [go_sem,seval,e4,e7,e11,e12,e14,y4,y7,y11,y12,y14,q1,q2,q3,q4,q5,q6,hr2]
    refine ⟨?_, ?_⟩
    ·simp only [sepAll,List.all_cons,List.all_nil,List.getElem?_cons_succ,List.getElem?_cons_zero,sep,AOp.looks,AOp.opds,AOp.wopd,topsL,evl_eq,List.flatMap_cons,List.flatMap_nil]
     simp -dsimp -implicitDefEqProofs only [go_sem,seval,e7,e11,e12,e14,V.top]
     simp; omega
    ·have hoky:offK v ky:=by
      rcases bO with ⟨rfl,_⟩ | ⟨q,rfl,_,hq⟩
      ·intro i n he; cases he
      ·refine offK_ms ?_ _ _
       rintro rfl; rw [hq] at hY2; cases hY2
     have yky:=hk1 ky (by omega) hoky
     rw [hY2] at yky
     have hkp3:=hF2.kp.keep hln fun j hj=>hk1 j (by omega) (bof j hj)
     rw [rowsA_snoc _ (g.ac i).th (g.ac i).st (g.ac i).ce (g.ac i).wr (by omega)] at hO'
     obtain ⟨h3,hh3⟩ : ∃ h3,h3=hpC (updC h2 (n' + 8) (some (.rows 4 [[V.t (ti (g.ac i).th),V.t (ti (g.ac i).st),V.t (ti (g.ac i).ce),V.t (tb (g.ac i).wr)]] false))) hp' := ⟨_,rfl⟩
     rw [<- hh3] at yky y4 y10 y13 hO' hkp3
     have hoj : ∀ j,j<n' -> offK (.ms kv 0 mv) j:=fun j hj=>hoffs j (by omega)
     refine ⟨rfl, ?_, ?_, ?_⟩
     ·simp -dsimp -implicitDefEqProofs only [go_sem,seval]; omega
     ·simp only [hpC_cons,hpC_nil]
      rw [<- hh3]
      simp only [updC_at]
      rw [if_neg (by omega),if_neg (by omega),if_neg (by omega),if_neg (by omega)]; exact yky
     simp only [hpC_cons,hpC_nil,if_true]
     rw [<- hh3]
     refine ⟨?_, ?_, ?_, ?_,⟨.ms kv 0 mv, ?_, ?_,fun q hq=>hoj q (by omega)⟩, ?_, ?_, ?_, ?_⟩
     ·exact (((hkp3.upd (by omega) hln _).upd (by omega) hln _).upd (by omega) hln _).upd (by omega) hln _
     ·simp only [updC_at]
      rw [if_neg (by omega),if_neg (by omega),if_neg (by omega),if_neg (by omega)]; exact y4
     ·simp only [updC_at]
      rw [if_pos trivial]
     ·simp only [updC_at]
      rw [if_neg (by omega),if_neg (by omega),if_neg (by omega),if_neg (by omega)]; exact y10
     ·simp only [updC_at]
      rw [if_neg (by omega),if_neg (by omega),if_neg (by omega),if_pos trivial]
     ·have:=((((hO'.updO (hoj k11 (by omega)) (some (.rows 1 [[.ms kv 0 mv]] false))).updO (hoj k12 (by omega)) (some (.rows 1 [[vi i]] false))).updO (hoj k14 (by omega)) (some (.rows 1 [[vb false]] false))).updO (hoj k7 (by omega)) (some (.rows 1 [[vi r]] false)))
      simp -dsimp -implicitDefEqProofs only [go_sem,seval]
      refine this.le ?_; omega
     ·simp only [updC_at]
      rw [if_neg (by omega),if_neg (by omega),if_pos trivial]
     ·simp only [updC_at]
      rw [if_neg (by omega),if_neg (by omega),if_neg (by omega),if_neg (by omega)]; exact y13
     ·simp only [updC_at]
      rw [if_neg (by omega),if_pos trivial]; rfl
     ·simp -dsimp -implicitDefEqProofs only [go_sem,seval]; omega)
 obtain ⟨e,h',n',⟨he,hn',hb,hf⟩,env',ps',bd',hb',hd⟩:=this
 rw [hb] at hb'
 cases hb'
 refine ⟨updC h' ky (some (.loop env [57,58] b317_0 e.toL)),n', ?_,hn', ?_⟩
 ·rw [hd,he]
  cases g.next goal last m op r i <;> rfl
 ·cases hnx:g.next goal last m op r i
  ·rw [hnx] at hf he
   simp only [Bool.false_eq_true,if_false] at hf he ⊢
   rw [he]
   exact ⟨by rw [updC_at,if_pos rfl]; rfl,hf.1.updY hln hky hb _,fun q h1 h2=>by rw [updC_at,if_neg h1]; exact hf.2 q h1 h2⟩
  ·rw [hnx] at hf he
   simp only [if_true] at hf he ⊢
   rw [he]
   exact ⟨by rw [updC_at,if_pos rfl]; rfl,hf.updY hln hky hb _⟩
end
end Rg
end
section
namespace Rg
open Go
def listV (h:Nat->Option O) (n:Nat) (rr:V):Option (List Acc)->Prop
 | none=>rr = .tup [.t .nils,vb false]
 | some l => ∃ v,rr = .tup [v,vb true]/\OwnB h n v 4 (rowsA l)
theorem rng_from30 {o:Option (V×(Nat->Option O)×Nat)} {k:Nat} {P:Ex->(Nat->Option O)->Nat->Prop} {Q:(Nat->Option O)->Nat->Prop} (h : ∃ r h' n',o=some (r,h',n')/\Q h' n')
 (hQ : ∀ h' n',Q h' n' -> ∃ env ps bd st e,h' k=some (.loop env ps bd st)/\st.ends=some e/\P e h' n') : ∃ r h' n',o=some (r,h',n') /\ ∃ env ps bd st e,h' k=some (.loop env ps bd st)/\st.ends=some e/\P e h' n' := by
 obtain ⟨r,h',n',h1,h2⟩:=h
 exact ⟨r,h',n',h1,hQ h' n' h2⟩
theorem find_none {f:Nat->Bool} {n:Nat} (h : ∀ j,j<n->f j=false):(List.range n).find? f=none:=by
 rw [List.find?_eq_none]
 intro x hx
 rw [h x (List.mem_range.1 hx)]; simp
theorem find_some {f:Nat->Bool} {n j:Nat} (hj:j<n) (h : ∀ i,i<j->f i=false) (hf:f j=true):(List.range n).find? f=some j:=by
 rw [List.find?_range_eq_some]
 exact ⟨by simpa using hf,List.mem_range.2 hj,fun i hi=>by rw [h i hi]; rfl⟩
theorem FV.ext {H:Nat->Option O} {n0 kG kn:Nat} {g:Gr} {h h' : Nat->Option O} {n n' k4 k7 k10 k11 k12 k13 k14 rest goal last m:Nat} {op:Bool} {l:List Acc} (f:FV H n0 kG kn g h n k4 k7 k10 k11 k12 k13 k14 rest goal last m op l) (hn:kn<n0)
 (hk : ∀ k,k<n->h' k=h k) (hnn:n<=n'):FV H n0 kG kn g h' n' k4 k7 k10 k11 k12 k13 k14 rest goal last m op l:=by
 have lt:=f.lt
 obtain ⟨v,v1,v2,v3⟩:=f.b11
 refine ⟨f.kp.keep hn fun j hj=>hk j (by omega),by rw [hk _ (by omega)]; exact f.b4,by rw [hk _ (by omega)]; exact f.b7,by rw [hk _ (by omega)]; exact f.b10,⟨v,by rw [hk _ (by omega)]; exact v1, ?_,v3⟩,
  by rw [hk _ (by omega)]; exact f.b12,by rw [hk _ (by omega)]; exact f.b13,by rw [hk _ (by omega)]; exact f.b14,by omega⟩
 rcases v2 with v2 | ⟨q,h1,h2,h3⟩
 ·exact .inl v2
 ·exact .inr ⟨q,h1,by omega,by rw [hk _ h2]; exact h3⟩
theorem FV.updZ {H:Nat->Option O} {n0 kG kn:Nat} {g:Gr} {h:Nat->Option O} {n k4 k7 k10 k11 k12 k13 k14 rest goal last m q:Nat} {op:Bool} {l:List Acc} (f:FV H n0 kG kn g h n k4 k7 k10 k11 k12 k13 k14 rest goal last m op l) (hn:kn<n0)
 (hq:n<=q) (o:Option O):FV H n0 kG kn g (updC h q o) n k4 k7 k10 k11 k12 k13 k14 rest goal last m op l :=
 f.ext hn (fun k hk=>by rw [updC_at,if_neg (by omega)]) (Nat.le_refl _)
set_option maxHeartbeats 4000000
theorem follow_den {H:Nat->Option O} {n kG kM kn:Nat} {cv:V} {p:Prog} {model:Int} {g:Gr} (gl:GrL H n kG kM kn cv p model g) (hkp:Kp H n kn g H) {a b r:Nat} (ha:a<g.all.length) (hb:b<g.all.length) (hr:r<90) :
 ∃ rr h' n',DenR Γ G 317 [.mp kG 0 0,vi a,vi b,vi r] H n=some (rr,h',n')/\listV h' n' rr ((g.follow (g.cl a) r b (1 <<< (g.ac b).th) false).map fun l=>g.ac a::g.ac b::l):=by
 obtain ⟨es,f1,f2,hes,gb,hE⟩:=hkp.grB gl
 have hG:=gb.rowM es
 obtain ⟨kc,fc,hcv,hkc⟩:=gb.clsK ha
 subst hcv
 have hC:=hkc es
 rw [<- hE] at hG hC
 have hca:=gb.cl_at ha
 have hcl:=rowsC30_len g.cls
 have hcc:=gb.ok.cl_len
 have hia:(a<g.all.length)=True:=by simp [ha]
 have hxa:=GrB.ac_at ha
 have hxb:=GrB.ac_at hb
 have hth:(g.ac b).th<4:=by have:=gb.ok.th_lt b hb; have:=gb.nt4; omega
 have hsl:=i_shl (i:=(g.ac b).th) (by omega)
 have hg1:=gl.lG
 have hg2:kc<n:=by
  rcases Nat.lt_or_ge kc n with h4 | h4
  ·exact h4
  ·exact absurd rfl (gl.lc kc h4 _ _)
 have u1 : ∀ d,kG≠n+d:=fun d=>by omega
 have u2 : ∀ d,kc≠n+d:=fun d=>by omega
 have u3 : ∀ d e,kG≠n+d+e:=fun d e=>by omega
 have u4 : ∀ d e,kc≠n+d+e:=fun d e=>by omega
 have u5 : ∀ d e f,kG≠n+d+e+f:=fun d e f=>by omega
 have u6 : ∀ d e f,kc≠n+d+e+f:=fun d e f=>by omega
 have u0:(kG=n)=False:=by simp; omega
 have u7:(kc=n)=False:=by simp; omega
 have w1 : ∀ d:Nat,(n+(d+1)=n)=False:=fun d=>by simp
 have w2 : ∀ d:Nat,(n=n+(d+1))=False:=fun d=>by simp
 (refine denR_ofY Γ317 rfl ?_; dsimp only [f317])
 simp -dsimp -implicitDefEqProofs only [go_sem,seval,hG,hC,hca,hcl,hcc,hia,hxa,hxb,hsl,u1,u2,u3,u4,u5,u6,u0,u7,w1,w2,Nat.add_left_cancel_iff,Nat.add_zero,Nat.add_assoc]
 refine ⟨?_, ?_⟩
 ·simp only [sepAll,List.all_cons,List.all_nil,List.getElem?_cons_succ,List.getElem?_cons_zero,sep,AOp.looks,AOp.opds,AOp.wopd,topsL,evl_eq,List.flatMap_cons,List.flatMap_nil]
  simp -dsimp -implicitDefEqProofs only [go_sem,seval,V.top]
  simp; omega
 ·obtain ⟨res,hres0⟩ : ∃ res,res=g.follow (g.cl a) r b (1 <<< (g.ac b).th) false:=⟨_,rfl⟩
  rw [<- hres0]
  have hf0:res=(g.follow (g.cl a) (r-0) b (1 <<< (g.ac b).th) false).map ([] ++ ·):=by
   rw [Nat.sub_zero, <- hres0]
   cases res <;> simp
  clear hres0
  have hal:=gl.al
  have hln:=gl.ln
  have hb16:1 <<< (g.ac b).th<16:=by have:=mask_lt (m:=0) (by omega) hth; rw [Nat.zero_or] at this; exact this
  refine loopYH 142989288169014016 r (fun i f h x => ∃ last m op l',FV H n kG kn g h x n (n+1) (n+11) (n+28) (n+40) (n+41) (n+42) (r-i) (g.cl a) last m op ([g.ac a,g.ac b]++l')/\l'.length=i/\last<g.all.length/\m<16/\res=(g.follow (g.cl a) (r-i) last m op).map (l' ++ ·)) rfl ?_ ?_
  ·refine ⟨b,1 <<< (g.ac b).th,false,[],⟨?_, ?_, ?_, ?_,⟨.ms (n+27) 0 2, ?_, .inr ⟨n+27, ?_, ?_, ?_⟩,fun q hq=>offK_ms (by omega) _ _⟩, ?_, ?_, ?_, ?_⟩,rfl,hb,hb16,hf0⟩
   ·simp only [hpC_cons,hpC_nil]
    refine hkp.keep hln fun j hj => ?_
    simp only [updC_at]
    repeat rw [if_neg (by omega)]
   ·simp only [hpC_cons,hpC_nil,updC_at]
    repeat rw [if_neg (by omega)]
    rw [if_pos trivial]
   ·simp only [hpC_cons,hpC_nil,updC_at]
    repeat rw [if_neg (by omega)]
    rw [if_pos trivial]; rfl
   ·simp only [hpC_cons,hpC_nil,updC_at]
    repeat rw [if_neg (by omega)]
    rw [if_pos trivial]
   ·simp only [hpC_cons,hpC_nil,updC_at]
    repeat rw [if_neg (by omega)]
    rw [if_pos trivial]
   ·rfl
   ·simp -dsimp -implicitDefEqProofs only [go_sem,seval]; omega
   ·simp only [hpC_cons,hpC_nil,updC_at]
    repeat rw [if_neg (by omega)]
    rw [if_pos trivial]; rfl
   ·simp only [hpC_cons,hpC_nil,updC_at]
    repeat rw [if_neg (by omega)]
    rw [if_pos trivial]
   ·simp only [hpC_cons,hpC_nil,updC_at]
    repeat rw [if_neg (by omega)]
    rw [if_pos trivial]
   ·simp only [hpC_cons,hpC_nil,updC_at]
    rw [if_pos trivial]
   ·simp -dsimp -implicitDefEqProofs only [go_sem,seval]; omega
  ·clear hf0 hG hC hes hE gb
   rintro i f u h x bs hi ⟨last,m,op,l',hF,hll,hla,hm,hres⟩
   obtain ⟨_,b4,b7,b10,⟨v,bv,bO,bof⟩,b12,b13,b14,lt⟩:=id hF
   simp -dsimp -implicitDefEqProofs only [go_sem,seval,b4,b7]
   by_cases hri:i<r
   ·have hc1:(((r-i:Nat):Int)>0)=True:=by simp; omega
    simp -dsimp -implicitDefEqProofs only [go_sem,seval,hc1,b4,b12,b13,b14]
    refine rawK_of (nxt_of (visits_den kG last m op _ _)) ?_
    rintro _ h1 n1 ⟨⟨kg,ko,kl,km,rfl,hbx,hk1,g1,g2,g3,g4,g5,g6,g7,g8⟩,hn1⟩
    simp -dsimp -implicitDefEqProofs only [go_sem,seval]
    generalize hEnv:envC _=env
    have e4:env 4 = .mp n 0 0:=by rw [<- hEnv]; simp -dsimp -implicitDefEqProofs only [go_sem,seval]
    have e7:env 7 = .mp (n+1) 0 0:=by rw [<- hEnv]; simp -dsimp -implicitDefEqProofs only [go_sem,seval]
    have e10:env 10 = .mp (n+11) 0 0:=by rw [<- hEnv]; simp -dsimp -implicitDefEqProofs only [go_sem,seval]
    have e11:env 11 = .mp (n+28) 0 0:=by rw [<- hEnv]; simp -dsimp -implicitDefEqProofs only [go_sem,seval]
    have e12:env 12 = .mp (n+40) 0 0:=by rw [<- hEnv]; simp -dsimp -implicitDefEqProofs only [go_sem,seval]
    have e13:env 13 = .mp (n+41) 0 0:=by rw [<- hEnv]; simp -dsimp -implicitDefEqProofs only [go_sem,seval]
    have e14:env 14 = .mp (n+42) 0 0:=by rw [<- hEnv]; simp -dsimp -implicitDefEqProofs only [go_sem,seval]
    clear hEnv
    have hx:x<=n1:=by refine Nat.le_trans ?_ hn1; omega
    have hF1:FV H n kG kn g h1 n1 n (n+1) (n+11) (n+28) (n+40) (n+41) (n+42) (r-i) (g.cl a) last m op ([g.ac a,g.ac b]++l'):=hF.ext gl.ln (fun k hk=>hk1 k (by omega)) hx
    refine rngK_of (P:=fun e h' n' => (e = .exit 1 /\ ∃ c,(List.range g.all.length).find? (g.next (g.cl a) last m op (r-i-1))=some c/\FV H n kG kn g (updC h' n1 (some .dead)) n' n (n+1) (n+11) (n+28) (n+40) (n+41) (n+42) (r-i-1) (g.cl a) c (if (g.visit last m op c).1 then m else m ||| 1 <<< (g.ac c).th) (!(g.visit last m op c).1) ([g.ac a,g.ac b]++l' ++ [g.ac c])) \/
     (e = .normal/\(List.range g.all.length).find? (g.next (g.cl a) last m op (r-i-1))=none)) ?_ ?_
    ·refine rng_from30 (visits1_den (kM:=kM) (kn:=kn) (cv:=.ms kc 0 g.cls.length) (p:=p) (model:=model) (kG:=kG) gl.al kg ko kl km n1 op last m hla hm
      (fun j h q=>h n1=some (.loop env [57,58] b317_0 .ready)/\FV H n kG kn g h q n (n+1) (n+11) (n+28) (n+40) (n+41) (n+42) (r-i) (g.cl a) last m op ([g.ac a,g.ac b]++l')/\BoxV h kg ko kl km kG op last m/\n1+1<=q /\ ∀ t,t<j->g.next (g.cl a) last m op (r-i-1) t=false)
      (fun h q=>h n1=some (.loop env [57,58] b317_0 (.done (.exit 1))) /\ ∃ c,(List.range g.all.length).find? (g.next (g.cl a) last m op (r-i-1))=some c/\FV H n kG kn g h q n (n+1) (n+11) (n+28) (n+40) (n+41) (n+42) (r-i-1) (g.cl a) c (if (g.visit last m op c).1 then m else m ||| 1 <<< (g.ac c).th) (!(g.visit last m op c).1) ([g.ac a,g.ac b]++l' ++ [g.ac c]))
      ?_ ?_ ?_ ?_ _ _ ?_) ?_
     ·rintro j h q ⟨p1,p2,p3,p4,p5⟩
      obtain ⟨es,f1,f2,hes,gb,hE⟩:=p2.kp.grB gl
      exact ⟨p3,h,f1,f2,es,gb,hE⟩
     ·rintro j h q q' ⟨p1,p2,p3,p4,p5⟩ hq
      exact ⟨p1,p2.le hq,p3,by omega,p5⟩
     ·rintro h q q' ⟨p1,c,p2,p3⟩ hq
      exact ⟨p1,c,p2,p3.le hq⟩
     ·rintro j h q hj ⟨p1,p2,p3,p4,p5⟩
      split
      ·rename_i hv
       have hgo:g.cl a<g.msk.length:=by obtain ⟨_,_,_,_,gb,_⟩:=p2.kp.grB gl; exact gb.ok.cl_lt a ha
       have hri1:r-i=r-i-1+1:=by omega
       rw [hri1] at p2
       obtain ⟨h',n',d1,d2,d3⟩:=roundF gl (ins:=(g.visit last m op j).1) p1 e4 e7 e10 e11 e12 e13 e14 p2 (by omega) (by omega) hj rfl (fun h0=>by rw [h0] at hv; simpa using hv) hgo hm (by omega) (by
        rw [List.length_append,hll]; simp; omega)
       refine ⟨_,h',n',d1, ?_⟩
       cases hnx:g.next (g.cl a) last m op (r-i-1) j
       ·rw [hnx] at d3
        simp only [Bool.false_eq_true,if_false,Bool.not_false,if_true] at d3 ⊢
        rw [<- hri1] at d3
        refine ⟨d3.1,d3.2.1, ?_,by omega,fun t ht => ?_⟩
        ·have hnk : ∀ q,n<=q->q<n1->h' q=h q:=fun q h1 h2=>d3.2.2 q (by omega) (by have:=gl.ln; omega)
         have lt' := p2.lt
         exact ⟨by rw [hnk _ (by omega) g5]; exact p3.g,by rw [hnk _ (by omega) g6]; exact p3.o,by rw [hnk _ (by omega) g7]; exact p3.l,by rw [hnk _ (by omega) g8]; exact p3.m⟩
        ·rcases Nat.lt_or_ge t j with h1 | h1
         ·exact p5 t h1
         ·obtain rfl:t=j:=by omega
          exact hnx
       ·rw [hnx] at d3
        simp only [if_true,Bool.not_true,Bool.false_eq_true,if_false] at d3 ⊢
        exact ⟨d3.1,j,find_some hj p5 hnx,d3.2⟩
      ·rename_i hv
       refine ⟨p1,p2,p3,p4,fun t ht => ?_⟩
       rcases Nat.lt_or_ge t j with h1 | h1
       ·exact p5 t h1
       ·obtain rfl:t=j:=by omega
        unfold Gr.next
        simp only [Bool.or_eq_true,not_or,Bool.not_eq_true] at hv
        rw [hv.1,hv.2]; rfl
     ·refine ⟨by rw [updC_at,if_pos rfl],(hF1.updZ gl.ln (by omega) _).le (by omega), ?_,by omega,fun t ht=>by omega⟩
      exact ⟨by rw [updC_at,if_neg (by omega)]; exact hbx.g,by rw [updC_at,if_neg (by omega)]; exact hbx.o,by rw [updC_at,if_neg (by omega)]; exact hbx.l,by rw [updC_at,if_neg (by omega)]; exact hbx.m⟩
     ·rintro h' n' (⟨p1,p2,p3,p4,p5⟩ | ⟨p1,c,p2,p3⟩)
      ·exact ⟨env,[57,58],b317_0, .ready, .normal,p1,rfl, .inr ⟨rfl,find_none p5⟩⟩
      ·exact ⟨env,[57,58],b317_0, .done (.exit 1), .exit 1,p1,rfl, .inl ⟨rfl,c,p2,p3.updY gl.ln (by omega) p1 _⟩⟩
    ·rintro e h' n' (⟨rfl,c,p2,p3⟩ | ⟨rfl,p2⟩)
     ·simp -dsimp -implicitDefEqProofs only [go_sem,seval]
      refine ⟨hri,c,if (g.visit last m op c).1 then m else m ||| 1 <<< (g.ac c).th, !(g.visit last m op c).1,l' ++ [g.ac c], ?_, ?_, ?_, ?_, ?_⟩
      ·rw [Nat.sub_add_eq, <- List.append_assoc]
       simp -dsimp -implicitDefEqProofs only [go_sem,seval]
       exact p3
      ·simp [hll]
      ·have:=List.mem_of_find?_eq_some p2
       exact List.mem_range.1 this
      ·split
       ·exact hm
       ·refine mask_lt hm ?_
        obtain ⟨_,_,_,_,gb,_⟩:=p3.kp.grB gl
        have h1:=gb.ok.th_lt c (List.mem_range.1 (List.mem_of_find?_eq_some p2))
        have h2:=gb.nt4
        omega
      ·rw [hres]
       have e:r-i=r-(i+1)+1:=by omega
       rw [e,Gr.follow]
       rw [show r-i-1=r-(i+1) by omega] at p2
       rw [p2]
       simp only
       cases hv:(g.visit last m op c).1
       ·simp only [Bool.false_eq_true,if_false,Bool.not_false,Option.map_map]
        congr 1; funext z; simp
       ·simp only [if_true,Bool.not_true,Option.map_map]
        congr 1; funext z; simp
     ·simp -dsimp -implicitDefEqProofs only [go_sem,seval]
      have e:r-i=r-i-1+1:=by omega
      rw [e,Gr.follow,p2] at hres
      rw [hres]
      rfl
   ·have hie:i=r:=by omega
    subst hie
    have hc1:(((i-i:Nat):Int)>0)=False:=by simp
    rw [Nat.sub_self] at hres
    rw [hres]
    obtain ⟨kv,mv,rfl⟩:=bO.msE (by simp [rowsA])
    simp -dsimp -implicitDefEqProofs only [go_sem,seval,hc1,bv]
    refine ⟨_,rfl, ?_⟩
    have e:g.ac a::g.ac b::(l' ++ [])=[g.ac a,g.ac b]++l' := by simp
    show OwnB _ _ _ 4 (rowsA (g.ac a::g.ac b::(l' ++ [])))
    rw [e]
    refine bO.le ?_
    simp -dsimp -implicitDefEqProofs only [go_sem,seval]
    omega
end Rg
end
section
namespace Rg
open Go
def pairsL (A:Nat):List (Nat×Nat):=(List.range A).flatMap fun a=>(List.range A).map fun b=>(a,b)
theorem pairs_none {A:Nat} {f:Nat->Nat->Bool} (h : ∀ a b,a<A->b<A->f a b=false):(pairsL A).find? (fun x=>f x.1 x.2)=none:=by
 rw [List.find?_eq_none]
 intro x hx
 simp only [pairsL,List.mem_flatMap,List.mem_range,List.mem_map] at hx
 obtain ⟨a,ha,b,hb,rfl⟩:=hx
 simp [h a b ha hb]
theorem pairs_some {A:Nat} {f:Nat->Nat->Bool} {i j:Nat} (hi:i<A) (hj:j<A) (h1 : ∀ a,a<i -> ∀ b,b<A->f a b=false) (h2 : ∀ b,b<j->f i b=false) (h3:f i j=true):(pairsL A).find? (fun x=>f x.1 x.2)=some (i,j):=by
 have e:List.range A=List.range i++i::(List.range A).drop (i+1):=by
  conv=>lhs; rw [<- List.take_append_drop i (List.range A)]
  rw [drop_of (List.getElem?_range hi),List.take_range,Nat.min_eq_left (by omega)]
 unfold pairsL
 generalize hF:(fun a=>(List.range A).map fun b=>(a,b))=F
 have hn:((List.range i).flatMap F).find? (fun x=>f x.1 x.2)=none:=by
  rw [List.find?_eq_none]
  intro x hx
  rw [<- hF] at hx
  simp only [List.mem_flatMap,List.mem_range,List.mem_map] at hx
  obtain ⟨a,ha,b,hb,rfl⟩:=hx
  simp [h1 a ha b hb]
 have hr:(F i).find? (fun x=>f x.1 x.2)=some (i,j):=by
  rw [<- hF,List.find?_map]
  have:(List.range A).find? ((fun x:Nat×Nat=>f x.1 x.2) ∘ fun b=>(i,b))=some j:=find_some hj (fun t ht=>h2 t ht) h3
  rw [this]; rfl
 rw [e,List.flatMap_append,List.flatMap_cons,List.find?_append,hn,Option.none_or,List.find?_append,hr]; rfl
theorem listV_shape {h:Nat->Option O} {n:Nat} {rr:V} {o:Option (List Acc)} (hl:listV h n rr o) (hne : ∀ l,o=some l->l≠[]):(rr = .tup [.t .nils,vb false]/\o=none) \/ ∃ k m l,rr = .tup [.ms k 0 m,vb true]/\o=some l/\OwnB h n (.ms k 0 m) 4 (rowsA l):=by
 cases o with
 | none=>exact .inl ⟨hl,rfl⟩
 | some l =>
   obtain ⟨v,rfl,hv⟩:=hl
   obtain ⟨k,m,rfl⟩:=hv.msE (by have:=hne l rfl; simpa [rowsA] using this)
   exact .inr ⟨k,m,l,rfl,rfl,hv⟩
theorem Gr.first_ne (g:Gr) (r:Nat) : ∀ l,g.first r=some l->l≠[]:=by
 intro l h
 unfold Gr.first at h
 split at h
 ·cases h
 ·rw [Option.map_eq_some_iff] at h
  obtain ⟨x,_,rfl⟩:=h
  simp
theorem GrL.at {H:Nat->Option O} {n n' kG kM kn:Nat} {cv:V} {p:Prog} {model:Int} {g:Gr} (gl:GrL H n kG kM kn cv p model g) {es:List (T×V)} (hes:MemoOk g es) (hn:n<=n'):GrL (HM H kn es) n' kG kM kn cv p model g:=by
 have hk:Kp H n kn g (HM H kn es):=⟨fun k _ hk=>HM_ne _ _ hk,es,hes,HM_at _ _ _⟩
 obtain ⟨_,f1,f2,_,b,_⟩:=hk.grB gl
 exact ⟨⟨f1,f2,b⟩,by have:=gl.lG; omega,by have:=gl.lM; omega,by have:=gl.ln; omega,fun q hq=>gl.lc q (by omega),gl.al⟩
theorem Kp.here {h:Nat->Option O} {n kn:Nat} {g:Gr} {es:List (T×V)} (hes:MemoOk g es) (hh:h kn=some (.map es)):Kp h n kn g h:=⟨fun _ _ _=>rfl,es,hes,hh⟩
set_option maxHeartbeats 4000000
theorem first_den {H:Nat->Option O} {n kG kM kn:Nat} {cv:V} {p:Prog} {model:Int} {g:Gr} (gl:GrL H n kG kM kn cv p model g) (hkp:Kp H n kn g H) {r:Nat} (hr:r<90)
 (hdd : ∀ a b,a<g.all.length->b<g.all.length->Den Γ G 306 [.t (grT (p.cells.map Cell.enc) (p.modules.map Contract.enc) (p.locks.map Lock.enc) (p.threads.map Thread.enc) model g),vi a,vi b]=some (vb (g.delay a b))) :
 ∃ rr h' n',DenR Γ G 302 [.mp kG 0 0,vi r] H n=some (rr,h',n')/\listV h' n' rr (g.first r):=by
 obtain ⟨es0,f1,f2,hes0,gb0,hE0⟩:=hkp.grB gl
 obtain ⟨e1,e2,b⟩:=gl.b
 have hal:=gl.al
 have hG:=gb0.rowM es0
 rw [<- hE0] at hG
 (refine denR_ofY Γ302 rfl ?_; dsimp only [f302])
 simp -dsimp -implicitDefEqProofs only [go_sem,seval,hG]
 refine loopYH 36893488147419095280 g.all.length (fun i f h x=>(f 13).v=vi i/\(∃ es,MemoOk g es/\h=HM H kn es)/\n<=x /\ ∀ a,a<i -> ∀ b,b<g.all.length->g.starts r a b=false) rfl ⟨by simp -dsimp -implicitDefEqProofs only [go_sem,seval],⟨es0,hes0,hE0⟩,by simp -dsimp -implicitDefEqProofs only [go_sem,seval]; omega,fun a ha=>by omega⟩ ?_
 clear hG hE0
 rintro i f u h z bs hi ⟨h13,⟨es1,hes1,rfl⟩,hz,hno⟩
 have hw:=wrapS i (by omega)
 simp -dsimp -implicitDefEqProofs only [go_sem,seval,h13]
 refine csplit (fun h => ?_) (fun h => ?_) <;> (try rw [h]) <;> (try simp only [bools] at h) <;> (try simp -dsimp -implicitDefEqProofs only [go_sem,seval,h13])
 ·have hia:i<g.all.length:=by assumption
  have hG1:=b.rowM es1
  simp -dsimp -implicitDefEqProofs only [go_sem,seval,hG1]
  refine loopYH 18446744073707454640 g.all.length (fun j f h x=>(f 21).v=vi j/\(∃ es,MemoOk g es/\h=HM H kn es)/\n<=x /\ ∀ b,b<j->g.starts r i b=false) rfl ⟨by simp -dsimp -implicitDefEqProofs only [go_sem,seval],⟨es1,hes1,rfl⟩,by simp -dsimp -implicitDefEqProofs only [go_sem,seval]; omega,fun a ha=>by omega⟩ ?_
  clear hG1 hes1
  rintro j f2 u2 h2 z2 bs2 hj ⟨h21,⟨es2,hes2,rfl⟩,hz2,hno2⟩
  have hw2:=wrapS j (by omega)
  have hT:=b.tree es2
  simp -dsimp -implicitDefEqProofs only [go_sem,seval,h21]
  refine csplit (fun h => ?_) (fun h => ?_) <;> (try rw [h]) <;> (try simp only [bools] at h) <;> (try simp -dsimp -implicitDefEqProofs only [go_sem,seval,h21, ↓hT])
  ·have hja:j<g.all.length:=by assumption
   have hd:=hdd i j hia hja
   have hG2:=b.rowM es2
   obtain ⟨kc,fc,hcv,hkc⟩:=b.clsK hia
   subst hcv
   have hC2:=hkc es2
   have hca:=b.cl_at hia
   have hcb:=b.cl_at hja
   have hcl:=rowsC30_len g.cls
   have hcc:=b.ok.cl_len
   have hib:(i<g.all.length)=True:=by simp [hia]
   have hjb:(j<g.all.length)=True:=by simp [hja]
   have hxb:=GrB.ac_at hja
   have hth:(g.ac j).th<4:=by have:=b.ok.th_lt j hja; have:=b.nt4; omega
   have hsl:=i_shl (i:=(g.ac j).th) (by omega)
   have hb16:1 <<< (g.ac j).th<16:=by have:=mask_lt (m:=0) (by omega) hth; rw [Nat.zero_or] at this; exact this
   simp -dsimp -implicitDefEqProofs only [go_sem,seval,hd]
   cases hdl:g.delay i j
   ·simp -dsimp -implicitDefEqProofs only [go_sem,seval,h21]
    refine ⟨by omega,by simp -dsimp -implicitDefEqProofs only [go_sem,seval,h21,hw2],⟨es2,hes2,rfl⟩,by simp -dsimp -implicitDefEqProofs only [go_sem,seval]; omega,fun t ht => ?_⟩
    rcases Nat.lt_or_ge t j with h1 | h1
    ·exact hno2 t h1
    ·obtain rfl:t=j:=by omega
     unfold Gr.starts; rw [hdl]; rfl
   ·simp -dsimp -implicitDefEqProofs only [go_sem,seval,h13,h21,hG2,hC2,hca,hcb,hcl,hcc,hib,hjb,hxb,hsl]
    refine rawK_of (nxt_of (ends_all b r (by omega) (g.cl i) (g.cl j) (1 <<< (g.ac j).th) es2 _ (b.ok.cl_lt i hia) (b.ok.cl_lt j hja) hb16 hes2)) ?_
    rintro _ h' n' ⟨⟨rfl,es3,hes3,rfl⟩,hnn⟩
    have hzn:n<=n' := by refine Nat.le_trans ?_ hnn; omega
    simp -dsimp -implicitDefEqProofs only [go_sem,seval]
    cases hen:g.ends r (g.cl i) (g.cl j) (1 <<< (g.ac j).th)
    ·simp -dsimp -implicitDefEqProofs only [go_sem,seval,h21]
     refine ⟨by omega,by simp -dsimp -implicitDefEqProofs only [go_sem,seval,h21,hw2],⟨es3,hes3,rfl⟩,by simp -dsimp -implicitDefEqProofs only [go_sem,seval]; omega,fun t ht => ?_⟩
     rcases Nat.lt_or_ge t j with h1 | h1
     ·exact hno2 t h1
     ·obtain rfl:t=j:=by omega
      unfold Gr.starts; rw [hen,Bool.and_false]
    ·have hst:g.starts r i j=true:=by unfold Gr.starts; rw [hdl,hen]; rfl
     have hfi:g.first r=(g.follow (g.cl i) r j (1 <<< (g.ac j).th) false).map fun l=>g.ac i::g.ac j::l:=by
      have:=pairs_some hia hja hno hno2 hst
      unfold Gr.first
      unfold pairsL at this
      rw [this]
     rw [hfi]
     simp -dsimp -implicitDefEqProofs only [go_sem,seval,h13,h21]
     refine rawK_of (nxt_of (follow_den (n:=n' + 9) (gl.at hes3 (by omega)) (Kp.here hes3 (HM_at _ _ _)) hia hja hr)) ?_
     rintro rr h4 n4 ⟨hlv,hn4⟩
     rcases listV_shape hlv (by intro l hl; rw [Option.map_eq_some_iff] at hl; obtain ⟨x,_,rfl⟩:=hl; simp) with ⟨rfl,ho⟩ | ⟨k,m,l,rfl,ho,hv⟩
     ·simp -dsimp -implicitDefEqProofs only [go_sem,seval]
      rw [ho]; rfl
     ·simp -dsimp -implicitDefEqProofs only [go_sem,seval]
      rw [ho]
      exact ⟨_,rfl,hv.le (by (try simp -dsimp -implicitDefEqProofs only [go_sem,seval]); omega)⟩
  ·have hjn:j=g.all.length:=by omega
   subst hjn
   simp -dsimp -implicitDefEqProofs only [go_sem,seval,h13]
   refine ⟨by omega,by simp -dsimp -implicitDefEqProofs only [go_sem,seval,hw],⟨es2,hes2,rfl⟩,by simp -dsimp -implicitDefEqProofs only [go_sem,seval]; omega,fun t ht => ?_⟩
   rcases Nat.lt_or_ge t i with h1 | h1
   ·exact hno t h1
   ·obtain rfl:t=i:=by omega
    exact hno2
 ·have hin:i=g.all.length:=by omega
  subst hin
  have hfi:g.first r=none:=by
   have:=pairs_none (f:=g.starts r) fun a b ha hb=>hno a ha b hb
   unfold Gr.first
   unfold pairsL at this
   rw [this]
  rw [hfi]
  rfl
theorem GrObj.grL {H:Nat->Option O} {n kG:Nat} {p:Prog} {model:Int} (hp:p.ok) (h:GrObj H n kG p model (grM p model)) : ∃ kM kn cv,GrL H n kG kM kn cv p model (grM p model)/\GrB H kG kM kn cv p model (grM p model) false false/\H=HM H kn []:=by
 obtain ⟨cv,kM,kn,h1,h2,h3,h4,h5,h6,h7⟩:=h.ex
 obtain ⟨⟨l1,l2,l3,l4⟩,l5⟩:=limits_iff.1 (ok_iff.1 hp).lim
 have hb:GrB H kG kM kn cv p model (grM p model) false false:=by
  refine ⟨h1, ?_,h3, ?_, ?_,h2.offM h4,grM_ok hp model,l4,rfl,l1,rfl⟩
  ·refine OwnB.shw (es:=(grM p model).cls.map fun c:Nat=>[ti c]) (x:=n) ?_
   have e:rowsI ((grM p model).cls.map fun c:Nat=>(c:Int))=((grM p model).cls.map fun c:Nat=>[ti c]).map (·.map V.t):=by simp only [rowsI,List.map_map]; rfl
   rw [<- e]; exact h2
  ·rintro rfl; rw [h1] at h4; cases h4
  ·rintro rfl; rw [h3] at h4; cases h4
 refine ⟨kM,kn,cv,⟨⟨false,false,hb⟩,h5,h6,h7,fun q hq=>h2.off hq,(grM_ask hp model).al⟩,hb, ?_⟩
 funext k
 by_cases hk:k=kn
 ·subst hk; rw [HM_at,h4]
 ·rw [HM_ne _ _ hk]
theorem cycle_den (p:Prog) (hs:p.sane) (hset : ∀ x∈p.threads, ∀ s∈x.steps,s.set.length<2^20) (model:Int):Den Γ G 288 [(.agg [.t (.sl ((p).cells.map (Cell.enc))), .t (.sl ((p).modules.map (Contract.enc))), .t (.sl ((p).locks.map (Lock.enc))), .t (.sl ((p).threads.map (Thread.enc)))]),vi model]=some (.tup [.t (.sl (((cycleM p model).getD []).map Acc.enc)),vb (cycleM p model).isSome]):=by
 have hv:=valid30_den p hs
 (refine den_ofY Γ288 rfl ?_; dsimp only [f288])
 simp -dsimp -implicitDefEqProofs only [go_sem,seval,hv]
 unfold cycleM
 cases h:validB p
 ·simp -dsimp -implicitDefEqProofs only [go_sem,seval]
  exact ⟨rfl,rfl⟩
 ·have hp:p.ok:=by simpa [validB] using h
  simp -dsimp -implicitDefEqProofs only [go_sem,seval]
  refine rawK_of (build_den p hp hset model _ _) ?_
  rintro _ h1 n1 ⟨kG,rfl,hg⟩
  obtain ⟨kM,kn,cv,gl,b,hH⟩:=hg.grL hp
  have hdd : ∀ a b,a<(grM p model).all.length->b<(grM p model).all.length->Den Γ G 306 [.t (grT (p.cells.map Cell.enc) (p.modules.map Contract.enc) (p.locks.map Lock.enc) (p.threads.map Thread.enc) model (grM p model)),vi a,vi b]=some (vb ((grM p model).delay a b)):=fun a b ha hb=>delay_den _ _ _ p hp model a b ha hb
  simp -dsimp -implicitDefEqProofs only [go_sem,seval]
  rw [hH]
  refine rawK_of (nxt_of (shortest_den b (grM_ask hp model) [] (fun e he=>by cases he) _)) ?_
  rintro _ h2 n2 ⟨⟨rfl,H',f1',f2',es',b',hes',rfl⟩,hn2⟩
  have hn12:n1<=n2:=by refine Nat.le_trans ?_ hn2; omega
  have gl2:GrL H' n2 kG kM kn cv p model (grM p model):=⟨⟨f1',f2',b'⟩,by have:=gl.lG; omega,by have:=gl.lM; omega,by have:=gl.ln; omega,fun q hq=>gl.lc q (by omega),gl.al⟩
  rw [if_pos rfl]
  unfold Gr.cycle
  cases hsn:(grM p model).shortest with
  | none =>
    simp -dsimp -implicitDefEqProofs only [go_sem,seval,shortV]
    exact ⟨rfl,rfl⟩
  | some r =>
    have hr:r<90:=by
     have h1:r∈(List.range (2*((grM p model).nt-1))).map (· + 1):=List.mem_of_find?_eq_some hsn
     simp only [List.mem_map,List.mem_range] at h1
     obtain ⟨q,hq,rfl⟩:=h1
     have:=b.nt4
     omega
    simp -dsimp -implicitDefEqProofs only [go_sem,seval,shortV]
    refine rawK_of (nxt_of (first_den (gl2.at hes' (by omega)) (Kp.here hes' (HM_at _ _ _)) hr hdd)) ?_
    rintro rr h4 n4 ⟨hlv,hn4⟩
    simp only [Option.bind_some]
    rcases listV_shape hlv ((grM p model).first_ne r) with ⟨rfl,ho⟩ | ⟨k,m,l,rfl,ho,hv⟩
    ·rw [ho]
     simp -dsimp -implicitDefEqProofs only [go_sem,seval]
     exact ⟨rfl,rfl⟩
    ·rw [ho]
     have ht:toT1 h4 (.ms k 0 m)=some (.t (.sl (l.map Acc.enc))):=hv.reify (acc_norm l)
     simp -dsimp -implicitDefEqProofs only [go_sem,seval, ↓ht]
     rfl
end Rg
end
