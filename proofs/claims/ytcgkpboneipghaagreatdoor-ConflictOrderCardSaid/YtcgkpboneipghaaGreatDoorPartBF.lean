/- Part of the proof of the laws of the package relyguardlaw30: an abstract machine for the program's functions, what they compute, and that the machine is the program's. No condition. (H44a H44b H44c H44d) -/
import Derived.Test.YtcgkpboneipghaaGreatDoorPartBE
set_option linter.unusedSimpArgs false
set_option linter.unusedVariables false
section
namespace Rg
open Go
def rowsC30 (l:List Nat):List (List V):=(l.map fun c:Nat=>[ti c]).map (·.map V.t)
theorem rowsC30_at {l:List Nat} {i c:Nat} (h:l[i]? = some c):(rowsC30 l)[i]? = some [vi c]:=by simp [rowsC30,h]
theorem rowsC30_len (l:List Nat):(rowsC30 l).length=l.length:=by simp [rowsC30]
theorem GrB.clsK {H:Nat->Option O} {kG kM kn:Nat} {cv:V} {p:Prog} {model:Int} {g:Gr} {f1 f2:Bool} (b:GrB H kG kM kn cv p model g f1 f2) {a:Nat} (ha:a<g.all.length) :
 ∃ kc f,cv = .ms kc 0 g.cls.length /\ ∀ es,HM H kn es kc=some (.rows 1 (rowsC30 g.cls) f):=by
 have hl:=b.ok.cl_len
 rcases b.cls with ⟨rfl,h⟩ | ⟨k,f,rfl,hk⟩
 ·have:g.cls=[]:=by simpa using h
  rw [this] at hl; simp at hl; omega
 ·refine ⟨k,f,by simp,fun es => ?_⟩
  have:k≠kn:=by rintro rfl; exact b.off _ _ rfl
  rw [HM_ne _ _ this]; exact hk
theorem GrB.cl_at {H:Nat->Option O} {kG kM kn:Nat} {cv:V} {p:Prog} {model:Int} {g:Gr} {f1 f2:Bool} (b:GrB H kG kM kn cv p model g f1 f2) {a:Nat} (ha:a<g.all.length):(rowsC30 g.cls)[a]? = some [vi (g.cl a)]:=by
 refine rowsC30_at ?_
 have:a<g.cls.length:=by rw [b.ok.cl_len]; exact ha
 simp [Gr.cl,List.getD_eq_getElem?_getD,List.getElem?_eq_getElem this]
theorem GrB.ac_at {g:Gr} {a:Nat} (ha:a<g.all.length):g.all[a]? = some (g.ac a):=by simp [Gr.ac,List.getD_eq_getElem?_getD,List.getElem?_eq_getElem ha]
def PB (H:Nat->Option O) (kG kn:Nat) (g:Gr) (r:Nat):Prop := ∀ (goal a m:Nat) (es:List (T×V)) (n:Nat),goal<g.msk.length->a<g.all.length->m<16->MemoOk g es ->
 ∃ rr h' n',DenR Γ G 324 [.mp kG 0 0,vi goal,vi a,vi m,vi r] (HM H kn es) n=some (rr,h',n')/\rr=vb (g.begins r goal a m) /\ ∃ es',MemoOk g es' /\ h' = HM H kn es'
set_option maxHeartbeats 2000000
theorem begins_den {H:Nat->Option O} {kG kM kn:Nat} {cv:V} {p:Prog} {model:Int} {g:Gr} {f1 f2:Bool} (b:GrB H kG kM kn cv p model g f1 f2) (hal:g.all.length<2^20) {r:Nat} (hr:r<100):PB H kG kn g r:=by
 intro goal a m es n hg ha hm hes
 have h1:=ends_all b r hr
 obtain ⟨kc,fc,rfl,hkc⟩:=b.clsK ha
 have hG:=b.rowM es
 have hC:=hkc es
 have hca:=b.cl_at ha
 have hcal:g.cl a<g.msk.length:=b.ok.cl_lt a ha
 have hcl:=rowsC30_len g.cls
 have hcc:=b.ok.cl_len
 have hac:(a<g.all.length)=True:=by simp [ha]
 (refine denR_ofY Γ324 rfl ?_; dsimp only [f324])
 simp -dsimp -implicitDefEqProofs only [go_sem,seval,hG,hC,hca,hcl,hcc,hac]
 refine rawK_of (h1 goal (g.cl a) m es _ hg hcal hm hes) ?_
 rintro _ h' n' ⟨rfl,es1,hes1,rfl⟩
 simp -dsimp -implicitDefEqProofs only [go_sem,seval]
 cases he:g.ends r goal (g.cl a) m
 ·have hop:g.begins r goal a m=(decide (0<r)&&((List.range g.all.length).drop 0).any fun e=>g.partner a e&&g.ends (r-1) goal (g.cl e) m):=by
   unfold Gr.begins; rw [he,Bool.false_or]; rfl
  have hG1:=b.rowM es1
  simp -dsimp -implicitDefEqProofs only [go_sem,seval,hG1]
  refine loopYH 72057593501060096 g.all.length (fun i f h x=>(f 29).v=vi i/\(∃ es,MemoOk g es/\h=HM H kn es)/\g.begins r goal a m=(decide (0<r)&&(((List.range g.all.length).drop i).any fun e=>g.partner a e&&g.ends (r-1) goal (g.cl e) m))) rfl ⟨by simp -dsimp -implicitDefEqProofs only [go_sem,seval],⟨es1,hes1,rfl⟩,hop⟩ ?_
  clear hG hes hes1 hG1 hC
  rintro i f u h x bs hi ⟨h29,⟨es2,hes2,rfl⟩,hany⟩
  have hw:=wrapS i (by omega)
  have hT:=b.tree es2
  simp -dsimp -implicitDefEqProofs only [go_sem,seval,h29]
  refine csplit (fun h => ?_) (fun h => ?_) <;> (try rw [h]) <;> (try simp only [bools] at h) <;> (try simp -dsimp -implicitDefEqProofs only [go_sem,seval,h29])
  ·have hic:i<g.all.length:=by assumption
   have hpa:=partner_den (p.cells.map Cell.enc) (p.modules.map Contract.enc) (p.locks.map Lock.enc) (p.threads.map Thread.enc) model g b.ok b.nt4 a i ha hic
   have hri:(List.range g.all.length)[i]? = some i:=List.getElem?_range hic
   have hG2:=b.rowM es2
   have hC2:=hkc es2
   have hci:=b.cl_at hic
   have hcil:g.cl i<g.msk.length:=b.ok.cl_lt i hic
   have hil:(i<g.all.length)=True:=by simp [hic]
   by_cases hr0:0<r
   ·have hr1:((r:Int)>0)=True:=by simp; omega
    have hr2:IntKind.i64.wrap ((r:Int)-1)=((r-1:Nat):Int):=by rw [wrap64 (by omega)]; omega
    rw [decide_eq_true hr0,Bool.true_and] at hany ⊢
    simp -dsimp -implicitDefEqProofs only [go_sem,seval,hr1,h29, ↓hT,hpa]
    cases hco:g.partner a i
    ·simp -dsimp -implicitDefEqProofs only [go_sem,seval,h29]
     exact ⟨by omega,by simp -dsimp -implicitDefEqProofs only [go_sem,seval,h29,hw],⟨es2,hes2,rfl⟩,by rw [hany,any_step hri (by rw [hco]; simp)]⟩
    ·simp -dsimp -implicitDefEqProofs only [go_sem,seval,h29,hr2,hG2,hC2,hci,hcl,hcc,hil]
     refine rawK_of (ends_all b (r-1) (by omega) goal (g.cl i) m es2 _ hg hcil hm hes2) ?_
     rintro _ h' n' ⟨rfl,es3,hes3,rfl⟩
     simp -dsimp -implicitDefEqProofs only [go_sem,seval,h29]
     cases hen:g.ends (r-1) goal (g.cl i) m
     ·simp -dsimp -implicitDefEqProofs only [go_sem,seval,h29]
      exact ⟨by omega,by simp -dsimp -implicitDefEqProofs only [go_sem,seval,h29,hw],⟨es3,hes3,rfl⟩,by rw [hany,any_step hri (by rw [hen]; simp)]⟩
     ·simp -dsimp -implicitDefEqProofs only [go_sem,seval,h29]
      exact ⟨by rw [hany,any_stop hri (by rw [hen,hco]; simp)]; rfl,es3,hes3,rfl⟩
   ·have hr1:((r:Int)>0)=False:=by simp; omega
    simp -dsimp -implicitDefEqProofs only [go_sem,seval,hr1,h29]
    rw [decide_eq_false hr0,Bool.false_and] at hany
    exact ⟨by omega,by simp -dsimp -implicitDefEqProofs only [go_sem,seval,h29,hw],⟨es2,hes2,rfl⟩,by rw [hany,decide_eq_false hr0,Bool.false_and]⟩
  ·have hin:i=g.all.length:=by omega
   subst hin
   have hrn:=any_end (fun e=>g.partner a e&&g.ends (r-1) goal (g.cl e) m) (List.range g.all.length)
   rw [List.length_range] at hrn
   rw [hrn,Bool.and_false] at hany
   exact ⟨by rw [hany]; rfl,es2,hes2,rfl⟩
 ·simp -dsimp -implicitDefEqProofs only [go_sem,seval]
  exact ⟨by unfold Gr.begins; rw [he,Bool.true_or]; rfl,es1,hes1,rfl⟩
end Rg
end
section
namespace Rg
open Go
structure BoxV (H:Nat->Option O) (kg ko kl km kG:Nat) (op:Bool) (last m:Nat):Prop where
 g:H kg=some (.rows 1 [[.mp kG 0 0]] false)
 o:H ko=some (.rows 1 [[vb op]] false)
 l:H kl=some (.rows 1 [[vi last]] false)
 m:H km=some (.rows 1 [[vi m]] false)
set_option maxHeartbeats 2000000
theorem visits1_den {kG kM kn:Nat} {cv:V} {p:Prog} {model:Int} {g:Gr} (hal:g.all.length<2^20) (kg ko kl km ky:Nat) (op:Bool) (last m:Nat) (hla:last<g.all.length) (hm:m<16)
 (Inv:Nat->(Nat->Option O)->Nat->Prop) (Stop:(Nat->Option O)->Nat->Prop)
 (hB : ∀ i H n,Inv i H n->BoxV H kg ko kl km kG op last m /\ ∃ H0 f1 f2 es,GrB H0 kG kM kn cv p model g f1 f2/\H=HM H0 kn es)
 (hmono : ∀ i H n q,Inv i H n->n<=q->Inv i H q) (hstop : ∀ H n q,Stop H n->n<=q->Stop H q)
 (hstep : ∀ i H n,i<g.all.length->Inv i H n->if (g.visit last m op i).1||(g.visit last m op i).2 then ∃ cont h' n',DenY Γ G ky [vi i,vb (g.visit last m op i).1] H n=some (vb cont,h',n')/\(if cont then Inv (i+1) h' n' else Stop h' n') else Inv (i+1) H n)
 (H:Nat->Option O) (n:Nat) (h0:Inv 0 H n) :
 ∃ r h' n',DenR Γ G 326 [.yl ky, .mp kg 0 0, .mp ko 0 0, .mp kl 0 0, .mp km 0 0] H n=some (r,h',n')/\(Inv g.all.length h' n' \/ Stop h' n'):=by
 obtain ⟨hb,H0,f1,f2,es,b,rfl⟩:=hB _ _ _ h0
 have hG:=b.rowM es
 (refine denR_ofY Γ326 rfl ?_; dsimp only [f326])
 simp -dsimp -implicitDefEqProofs only [go_sem,seval,hb.g,hG]
 refine loopYH 9223372036854744000 g.all.length (fun i f h z=>(f 15).v=vi i/\Inv i h z) rfl ⟨by simp -dsimp -implicitDefEqProofs only [go_sem,seval],hmono _ _ _ _ h0 (by simp -dsimp -implicitDefEqProofs only [go_sem,seval]; omega)⟩ ?_
 clear hG hb b
 rintro i f u H2 z bs hi ⟨h15,hI⟩
 have hw:=wrapS i (by omega)
 obtain ⟨hb,H1,e1,e2,es1,b,rfl⟩:=hB _ _ _ hI
 obtain ⟨hbg,hbo,hbl,hbm⟩:=hb
 have hT:=b.tree es1
 have hG:=b.rowM es1
 simp -dsimp -implicitDefEqProofs only [go_sem,seval,h15]
 refine csplit (fun h => ?_) (fun h => ?_) <;> (try rw [h]) <;> (try simp only [bools] at h) <;> (try simp -dsimp -implicitDefEqProofs only [go_sem,seval,h15])
 ·have hic:i<g.all.length:=by assumption
  have hst:=hstep i _ z hic hI
  have hyl:((g.visit last m op i).1||(g.visit last m op i).2)=true -> ∀ q,z<=q -> ∃ r h' n',DenY Γ G ky [vi i,vb (g.visit last m op i).1] (HM H1 kn es1) q=some (r,h',n') /\ ∃ cont:Bool,r=vb cont/\(if cont then Inv (i+1) h' n' else Stop h' n'):=fun ho q hq=>by
   have:=hstep i _ q hic (hmono _ _ _ _ hI hq)
   rw [if_pos ho] at this
   obtain ⟨cont,h',n',h1,h2⟩:=this
   exact ⟨_,h',n',h1,cont,rfl,h2⟩
  obtain ⟨kc,fc,hcv,hkc⟩:=b.clsK hic
  subst hcv
  have hC:=hkc es1
  have hca:=b.cl_at hic
  have hcb:=b.cl_at hla
  have hcl:=rowsC30_len g.cls
  have hcc:=b.ok.cl_len
  have hia:(i<g.all.length)=True:=by simp [hic]
  have hib:(last<g.all.length)=True:=by simp [hla]
  have hpa:=partner_den (p.cells.map Cell.enc) (p.modules.map Contract.enc) (p.locks.map Lock.enc) (p.threads.map Thread.enc) model g b.ok b.nt4 last i hla hic
  have hxa:=GrB.ac_at hic
  have hpr:=b.pr_den (b.ok.cl_lt last hla) (b.ok.cl_lt i hic)
  have hth:(g.ac i).th<4:=by have:=b.ok.th_lt i hic; have:=b.nt4; omega
  have hsh:=i_shr m (g.ac i).th (by omega)
  have hms:m >>> (g.ac i).th<2^62:=Nat.lt_of_le_of_lt (Nat.shiftRight_le _ _) (by omega)
  have han:=i_and1 hms
  have hbt:(((m >>> (g.ac i).th &&& 1:Nat):Int)=0)=(m.testBit (g.ac i).th=false):=by
   have h1:=u_bit (a:=m) (i:=(g.ac i).th) (by omega)
   have h2:m >>> (g.ac i).th &&& 1<2:=Nat.lt_of_le_of_lt Nat.and_le_right (by omega)
   cases htb:m.testBit (g.ac i).th
   ·rw [htb] at h1; simp at h1 ⊢; omega
   ·rw [htb] at h1; simp at h1 ⊢; omega
  have hv1:(g.visit last m op i).1=(op&&g.partner last i):=rfl
  have hv2:(g.visit last m op i).2=(!m.testBit (g.ac i).th&&g.prec (g.cl last) (g.cl i)):=rfl
  rw [hv1,hv2] at hst hyl
  have hq : ∀ x:Bool,(decide (x=false)) = !x:=by intro x; cases x <;> rfl
  have hcase:(op=false/\(op&&g.partner last i)=false)\/(op=true/\(op&&g.partner last i)=false/\g.partner last i=false)\/(op=true/\(op&&g.partner last i)=true/\g.partner last i=true):=by
   cases op <;> cases g.partner last i <;> simp
  generalize (op&&g.partner last i)=ib at hst hyl hcase
  rcases hcase with ⟨rfl,rfl⟩ | ⟨rfl,rfl,hpi⟩ | ⟨rfl,rfl,hpi⟩
  all_goals
   first | simp -dsimp -implicitDefEqProofs only [go_sem,seval,h15,hxa,hbg,hbo,hbl,hbm,hG,hC,hca,hcb,hcl,hcc,hia,hib, ↓hT,hpa,hpr,hsh,han,hbt,hq,hpi] | simp -dsimp -implicitDefEqProofs only [go_sem,seval,h15,hxa,hbg,hbo,hbl,hbm,hG,hC,hca,hcb,hcl,hcc,hia,hib, ↓hT,hpa,hpr,hsh,han,hbt,hq]
   cases htb:m.testBit (g.ac i).th
   all_goals rw [htb] at hst hyl
   ·simp -dsimp -implicitDefEqProofs only [go_sem,seval,h15,hxa,hbg,hbo,hbl,hbm,hG,hC,hca,hcb,hcl,hcc,hia,hib, ↓hT,hpa,hpr,hsh,han,hbt]
    cases hpc:g.prec (g.cl last) (g.cl i)
    all_goals
     rw [hpc] at hst hyl
     (try simp -dsimp -implicitDefEqProofs only [go_sem,seval,h15])
     first
     | rw [if_neg (by simp)] at hst
       exact ⟨by omega,by simp -dsimp -implicitDefEqProofs only [go_sem,seval,hw],hmono _ _ _ _ hst (by simp -dsimp -implicitDefEqProofs only [go_sem,seval]; omega)⟩
     | refine rawK_of (hyl (by simp) _ (by omega)) ?_
       rintro r h' n' ⟨cont,rfl,hcont⟩
       cases cont
       ·simp -dsimp -implicitDefEqProofs only [go_sem,seval,h15]
        exact .inr (hstop _ _ _ hcont (by omega))
       ·simp -dsimp -implicitDefEqProofs only [go_sem,seval,h15]
        exact ⟨by omega,by simp -dsimp -implicitDefEqProofs only [go_sem,seval,hw],hmono _ _ _ _ hcont (by simp -dsimp -implicitDefEqProofs only [go_sem,seval]; omega)⟩
   ·simp -dsimp -implicitDefEqProofs only [go_sem,seval,h15]
    first
    | rw [if_neg (by simp)] at hst
      exact ⟨by omega,by simp -dsimp -implicitDefEqProofs only [go_sem,seval,hw],hmono _ _ _ _ hst (by simp -dsimp -implicitDefEqProofs only [go_sem,seval]; omega)⟩
    | refine rawK_of (hyl (by simp) _ (by omega)) ?_
      rintro r h' n' ⟨cont,rfl,hcont⟩
      cases cont
      ·simp -dsimp -implicitDefEqProofs only [go_sem,seval,h15]
       exact .inr (hstop _ _ _ hcont (by omega))
      ·simp -dsimp -implicitDefEqProofs only [go_sem,seval,h15]
       exact ⟨by omega,by simp -dsimp -implicitDefEqProofs only [go_sem,seval,hw],hmono _ _ _ _ hcont (by simp -dsimp -implicitDefEqProofs only [go_sem,seval]; omega)⟩
 ·have hi2:i=g.all.length:=by omega
  subst hi2
  exact .inl (hmono _ _ _ _ hI (by simp -dsimp -implicitDefEqProofs only [go_sem,seval]; omega))
end Rg
end
section
namespace Rg
open Go
theorem visits_den (kG last m:Nat) (op:Bool) (H:Nat->Option O) (n:Nat) :
 ∃ r h' n',DenR Γ G 323 [.mp kG 0 0,vi last,vi m,vb op] H n=some (r,h',n') /\
  ∃ kg ko kl km,r = .fn 326 [] [.mp kg 0 0, .mp ko 0 0, .mp kl 0 0, .mp km 0 0]/\BoxV h' kg ko kl km kG op last m/\(∀ k,k<n->h' k=H k)/\n<=kg/\n<=ko/\n<=kl/\n<=km/\kg<n' /\ ko<n' /\ kl<n' /\ km<n' := by
 (refine denR_ofY Γ323 rfl ?_; dsimp only [f323])
 simp -dsimp -implicitDefEqProofs only [go_sem,seval]
 refine ⟨n+0,n+3,n+1,n+2,rfl,⟨?_, ?_, ?_, ?_⟩,fun k hk => ?_, ?_, ?_, ?_, ?_, ?_, ?_, ?_, ?_⟩
 ·simp only [hpC_cons,hpC_nil,updC_at]; rw [if_neg (by omega),if_neg (by omega),if_neg (by omega),if_pos trivial]
 ·simp only [hpC_cons,hpC_nil,updC_at]; rw [if_pos trivial]
 ·simp only [hpC_cons,hpC_nil,updC_at]; rw [if_neg (by omega),if_neg (by omega),if_pos trivial]
 ·simp only [hpC_cons,hpC_nil,updC_at]; rw [if_neg (by omega),if_pos trivial]
 ·simp only [hpC_cons,hpC_nil,updC_at]; rw [if_neg (by omega),if_neg (by omega),if_neg (by omega),if_neg (by omega)]
 ·omega
 ·omega
 ·omega
 ·omega
 ·simp -dsimp -implicitDefEqProofs only [go_sem,seval]; omega
 ·simp -dsimp -implicitDefEqProofs only [go_sem,seval]; omega
 ·simp -dsimp -implicitDefEqProofs only [go_sem,seval]; omega
 ·simp -dsimp -implicitDefEqProofs only [go_sem,seval]; omega
def Kp (H:Nat->Option O) (n0 kn:Nat) (g:Gr) (h:Nat->Option O):Prop:=(∀ k,k<n0->k≠kn->h k=H k) /\ ∃ es,MemoOk g es/\h kn=some (.map es)
structure GrL (H:Nat->Option O) (n0 kG kM kn:Nat) (cv:V) (p:Prog) (model:Int) (g:Gr):Prop where
 b : ∃ f1 f2,GrB H kG kM kn cv p model g f1 f2
 lG:kG<n0
 lM:kM<n0
 ln:kn<n0
 lc : ∀ q,n0<=q->offK cv q
 al:g.all.length<2^20
section
variable {H:Nat->Option O} {n0 kG kM kn:Nat} {cv:V} {p:Prog} {model:Int} {g:Gr}
theorem Kp.grB {h:Nat->Option O} (k:Kp H n0 kn g h) (l:GrL H n0 kG kM kn cv p model g) : ∃ es f1 f2,MemoOk g es/\GrB h kG kM kn cv p model g f1 f2/\h=HM h kn es:=by
 obtain ⟨k1,es,hes,k2⟩:=k
 obtain ⟨f1,f2,b⟩:=l.b
 refine ⟨es,f1,f2,hes,⟨by rw [k1 _ l.lG b.neG]; exact b.row, ?_,by rw [k1 _ l.lM b.neM]; exact b.msk,b.neG,b.neM,b.off,b.ok,b.nt4,b.nc,b.cl,b.nt⟩, ?_⟩
 ·rcases b.cls with h1 | ⟨q,f,rfl,hq⟩
  ·exact .inl h1
  ·refine .inr ⟨q,f,rfl, ?_⟩
   have h2:q≠kn:=by rintro rfl; exact b.off _ _ rfl
   have h3:q<n0:=by
    rcases Nat.lt_or_ge q n0 with h4 | h4
    ·exact h4
    ·exact absurd rfl (l.lc q h4 _ _)
   rw [k1 _ h3 h2]; exact hq
 ·funext q
  by_cases hq:q=kn
  ·subst hq; rw [HM_at,k2]
  ·rw [HM_ne _ _ hq]
theorem Kp.upd {h:Nat->Option O} (k:Kp H n0 kn g h) {q:Nat} (hq:n0<=q) (hn:kn<n0) (o:Option O):Kp H n0 kn g (updC h q o):=by
 obtain ⟨k1,es,hes,k2⟩:=k
 refine ⟨fun j hj hne => ?_,es,hes, ?_⟩
 ·rw [updC_at,if_neg (by omega)]; exact k1 j hj hne
 ·rw [updC_at,if_neg (by omega)]; exact k2
theorem Kp.memo {h:Nat->Option O} (k:Kp H n0 kn g h) {es:List (T×V)} (hes:MemoOk g es):Kp H n0 kn g (HM h kn es) :=
 ⟨fun j hj hne=>by rw [HM_ne _ _ hne]; exact k.1 j hj hne,es,hes,HM_at _ _ _⟩
theorem Kp.keep {h h' : Nat->Option O} (k:Kp H n0 kn g h) (hn:kn<n0) (hk : ∀ j,j<n0->h' j=h j):Kp H n0 kn g h' := by
 obtain ⟨k1,es,hes,k2⟩:=k
 exact ⟨fun j hj hne=>by rw [hk j hj]; exact k1 j hj hne,es,hes,by rw [hk kn hn]; exact k2⟩
structure FV (H:Nat->Option O) (n0 kG kn:Nat) (g:Gr) (h:Nat->Option O) (n k4 k7 k10 k11 k12 k13 k14 rest goal last m:Nat) (op:Bool) (l:List Acc):Prop where
 kp:Kp H n0 kn g h
 b4:h k4=some (.rows 1 [[.mp kG 0 0]] false)
 b7:h k7=some (.rows 1 [[vi rest]] false)
 b10:h k10=some (.rows 1 [[vi goal]] false)
 b11 : ∃ v,h k11=some (.rows 1 [[v]] false)/\OwnB h n v 4 (rowsA l) /\ ∀ q,q<n0->offK v q
 b12:h k12=some (.rows 1 [[vi last]] false)
 b13:h k13=some (.rows 1 [[vi m]] false)
 b14:h k14=some (.rows 1 [[vb op]] false)
 lt:n0<=k4/\k4<k7/\k7<k10/\k10<k11/\k11<k12/\k12<k13/\k13<k14/\k14<n
theorem FV.updY {h:Nat->Option O} {n k4 k7 k10 k11 k12 k13 k14 rest goal last m ky:Nat} {op:Bool} {l:List Acc} (f:FV H n0 kG kn g h n k4 k7 k10 k11 k12 k13 k14 rest goal last m op l) (hn:kn<n0) (hy:k14<ky)
 {env:Nat->V} {ps:List Nat} {bd:C} {st:LSt} (hl:h ky=some (.loop env ps bd st)) (o:Option O):FV H n0 kG kn g (updC h ky o) n k4 k7 k10 k11 k12 k13 k14 rest goal last m op l:=by
 have lt:=f.lt
 obtain ⟨v,v1,v2,v3⟩:=f.b11
 have hof:offK v ky:=by
  rcases v2 with ⟨rfl,_⟩ | ⟨q,rfl,_,hq⟩
  ·intro i n he; cases he
  ·refine offK_ms ?_ _ _
   rintro rfl; rw [hq] at hl; cases hl
 refine ⟨f.kp.upd (by omega) hn o, ?_, ?_, ?_,⟨v, ?_,v2.updO hof o,v3⟩, ?_, ?_, ?_,lt⟩
 ·rw [updC_at,if_neg (by omega)]; exact f.b4
 ·rw [updC_at,if_neg (by omega)]; exact f.b7
 ·rw [updC_at,if_neg (by omega)]; exact f.b10
 ·rw [updC_at,if_neg (by omega)]; exact v1
 ·rw [updC_at,if_neg (by omega)]; exact f.b12
 ·rw [updC_at,if_neg (by omega)]; exact f.b13
 ·rw [updC_at,if_neg (by omega)]; exact f.b14
theorem FV.memo {h:Nat->Option O} {n n' k4 k7 k10 k11 k12 k13 k14 rest goal last m:Nat} {op:Bool} {l:List Acc} (f:FV H n0 kG kn g h n k4 k7 k10 k11 k12 k13 k14 rest goal last m op l) (hn:kn<n0) {es:List (T×V)} (hes:MemoOk g es) (hnn:n<=n'):FV H n0 kG kn g (HM h kn es) n' k4 k7 k10 k11 k12 k13 k14 rest goal last m op l:=by
 have lt:=f.lt
 obtain ⟨v,v1,v2,v3⟩:=f.b11
 have hne : ∀ q,n0<=q->HM h kn es q=h q:=fun q hq=>HM_ne _ _ (by omega)
 refine ⟨f.kp.memo hes, ?_, ?_, ?_,⟨v, ?_, ?_,v3⟩, ?_, ?_, ?_,by omega⟩
 ·rw [hne _ (by omega)]; exact f.b4
 ·rw [hne _ (by omega)]; exact f.b7
 ·rw [hne _ (by omega)]; exact f.b10
 ·rw [hne _ (by omega)]; exact v1
 ·exact (v2.updO (v3 kn hn) _).le hnn
 ·rw [hne _ (by omega)]; exact f.b12
 ·rw [hne _ (by omega)]; exact f.b13
 ·rw [hne _ (by omega)]; exact f.b14
theorem FV.le {h:Nat->Option O} {n n' k4 k7 k10 k11 k12 k13 k14 rest goal last m:Nat} {op:Bool} {l:List Acc} (f:FV H n0 kG kn g h n k4 k7 k10 k11 k12 k13 k14 rest goal last m op l) (hnn:n<=n'):FV H n0 kG kn g h n' k4 k7 k10 k11 k12 k13 k14 rest goal last m op l:=by
 obtain ⟨v,v1,v2,v3⟩:=f.b11
 exact ⟨f.kp,f.b4,f.b7,f.b10,⟨v,v1,v2.le hnn,v3⟩,f.b12,f.b13,f.b14,by have:=f.lt; omega⟩
set_option maxHeartbeats 4000000
theorem roundF (gl:GrL H n0 kG kM kn cv p model g) {h:Nat->Option O} {env:Nat->V} {n k4 k7 k10 k11 k12 k13 k14 r goal last m ky i:Nat} {op ins:Bool} {l:List Acc}
 (hk:h ky=some (.loop env [57,58] b317_0 .ready)) (e4:env 4 = .mp k4 0 0) (e7:env 7 = .mp k7 0 0) (e10:env 10 = .mp k10 0 0) (e11:env 11 = .mp k11 0 0) (e12:env 12 = .mp k12 0 0) (e13:env 13 = .mp k13 0 0) (e14:env 14 = .mp k14 0 0)
 (hF:FV H n0 kG kn g h n k4 k7 k10 k11 k12 k13 k14 (r+1) goal last m op l) (hky:k14<ky) (hkn:ky<n) (hi:i<g.all.length) (hins:(g.visit last m op i).1=ins) (hout:ins=false->(g.visit last m op i).2=true)
 (hgo:goal<g.msk.length) (hm:m<16) (hr:r<90) (hll:l.length<2^20) :
 ∃ h' n',DenY Γ G ky [vi i,vb ins] h n=some (vb (!g.next goal last m op r i),h',n')/\n<=n' /\
  (if g.next goal last m op r i then h' ky=some (.loop env [57,58] b317_0 (.done (.exit 1)))/\FV H n0 kG kn g h' n' k4 k7 k10 k11 k12 k13 k14 r goal i (if ins then m else m ||| 1 <<< (g.ac i).th) (!ins) (l++[g.ac i])
   else h' ky=some (.loop env [57,58] b317_0 .ready)/\FV H n0 kG kn g h' n' k4 k7 k10 k11 k12 k13 k14 (r+1) goal last m op l /\ ∀ q,q≠ky->q≠kn->h' q=h q):=by
 have hln:=gl.ln
 have:=denY_of (Γ:=Γ) (G:=G) (vs:=[vi i,vb ins]) (n:=n) (P:=fun ex h' n' => ex=(if g.next goal last m op r i then .exit 1 else .normal)/\n<=n' /\ h' ky=some (.loop env [57,58] b317_0 .busy) /\
  (if g.next goal last m op r i then FV H n0 kG kn g h' n' k4 k7 k10 k11 k12 k13 k14 r goal i (if ins then m else m ||| 1 <<< (g.ac i).th) (!ins) (l++[g.ac i])
   else FV H n0 kG kn g h' n' k4 k7 k10 k11 k12 k13 k14 (r+1) goal last m op l /\ ∀ q,q≠ky->q≠kn->h' q=h q)) hk rfl (fun ex h' n' hP=>⟨_,_,_,hP.2.2.1⟩) (by
  have lt:=hF.lt
  have hF1:=hF.updY hln hky hk (some (.loop env [57,58] b317_0 .busy))
  have hY1:updC h ky (some (.loop env [57,58] b317_0 .busy)) ky=some (.loop env [57,58] b317_0 .busy):=by rw [updC_at,if_pos rfl]
  simp -dsimp -implicitDefEqProofs only [go_sem,seval]
  rw [updC_same]
  obtain ⟨h1,hh1⟩ : ∃ h1,h1=updC h ky (some (.loop env [57,58] b317_0 .busy)):=⟨_,rfl⟩
  rw [<- hh1] at hF1 hY1
  have hq1 : ∀ q,q≠ky->h1 q=h q:=fun q hq=>by rw [hh1,updC_at,if_neg hq]
  unfold b317_0 at hh1
  rw [<- hh1]
  clear hh1
  clear hF
  obtain ⟨es,f1,f2,hes,b,hE⟩:=hF1.kp.grB gl
  have hG:=b.rowM es
  obtain ⟨kc,fc,hcv,hkc⟩:=b.clsK hi
  subst hcv
  have hC:=hkc es
  rw [<- hE] at hG hC
  have hcal:g.cl i<g.msk.length:=b.ok.cl_lt i hi
  have hca:=b.cl_at hi
  have hcl:=rowsC30_len g.cls
  have hcc:=b.ok.cl_len
  have hia:(i<g.all.length)=True:=by simp [hi]
  have hr2:IntKind.i64.wrap (((r+1:Nat):Int)-1)=((r:Nat):Int):=by rw [wrap64 (by omega)]; omega
  have hF:=hF1
  obtain ⟨_,b4,b7,b10,⟨v,bv,bO,bof⟩,b12,b13,b14,_⟩:=hF1
  have hxa:=GrB.ac_at hi
  cases ins
  ·have hnx:g.next goal last m op r i=g.begins r goal i (m ||| 1 <<< (g.ac i).th):=by unfold Gr.next; rw [hins,hout rfl]; rfl
   rw [hnx]
   have hth:(g.ac i).th<4:=by have:=b.ok.th_lt i hi; have:=b.nt4; omega
   have hsl:=i_shl (i:=(g.ac i).th) (by omega)
   have hor:=i_or (a:=m) (b:=1 <<< (g.ac i).th) (by omega) (by have:=mask_lt (m:=0) (by omega) hth; rw [Nat.zero_or] at this; omega)
   simp -dsimp -implicitDefEqProofs only [go_sem,seval,e4,e7,e10,e13,b4,b7,b10,b13,hG,hxa,hsl,hor,hr2]
   have hen:=begins_den b gl.al (r:=r) (by omega) goal i (m ||| 1 <<< (g.ac i).th) es
   rw [<- hE] at hen
   refine rawK_of (nxt_of (hen _ hgo hi (mask_lt hm hth) hes)) ?_
   rintro _ h' n' ⟨⟨rfl,es1,hes1,rfl⟩,hnn⟩
   have hF2:=hF.memo gl.ln hes1 (n' := n') (by refine Nat.le_trans ?_ hnn; omega)
   have hY2:HM h1 kn es1 ky=some (.loop env [57,58] b317_0 .busy):=by rw [HM_ne _ _ (by have:=gl.ln; omega)]; exact hY1
   simp -dsimp -implicitDefEqProofs only [go_sem,seval]
   have hq2 : ∀ q,q≠ky->q≠kn->HM h1 kn es1 q=h q:=fun q h3 h4=>by rw [HM_ne _ _ h4,hq1 q h3]
   generalize HM h1 kn es1=h2 at hF2 hY2 hq2 ⊢
   clear hF hY1 hE hG hC hkc b4 b7 b10 b12 b13 b14 bv bO bof b hen
   obtain ⟨es2,f1',f2',hes2,b,hE⟩:=hF2.kp.grB gl
   have hG:=b.rowM es2
   rw [<- hE] at hG
   obtain ⟨_,b4,b7,b10,⟨v,bv,bO,bof⟩,b12,b13,b14,_⟩:=id hF2
   cases hev:g.begins r goal i (m ||| 1 <<< (g.ac i).th)
   ·simp -dsimp -implicitDefEqProofs only [go_sem,seval]
    refine ⟨rfl, ?_,hY2,hF2.le ?_,hq2⟩
    ·(try simp -dsimp -implicitDefEqProofs only [go_sem,seval]); omega
    ·(try simp -dsimp -implicitDefEqProofs only [go_sem,seval]); omega
   ·have v1:=bO.valOf
    have v3:=bO.r3
    have v4:=bO.r4
    have v2:=bO.r2
    have v5:=bO.r1
    have lt2:=hF2.lt
    simp -dsimp -implicitDefEqProofs only [go_sem,seval,e4,e7,e11,e12,e13,e14,b4,b7,b12,b13,bv,b14,hG,hxa,v1,v2,v3,v4,v5]
    refine putA_app1 (bO.upd (by omega) _) (by omega) (by rw [rowsA_len]; omega) (by decide) rfl (rowsA_all _) ?_
    intro v' hp' hO' hoffs hkeep
    obtain ⟨kv,mv,rfl⟩:=hO'.msE (by simp)
    have hk1 : ∀ j,j<n' -> offK v j->hpC (updC h2 (n' + 8) (some (.rows 4 [[V.t (ti (g.ac i).th),V.t (ti (g.ac i).st),V.t (ti (g.ac i).ce),V.t (tb (g.ac i).wr)]] false))) hp' j=h2 j:=by
     intro j hj ho
     rw [hkeep j (by omega) ho,updC_at,if_neg (by omega)]
    have y4:=hk1 k4 (by omega) (bO.offR b4 (by decide))
    have y7:=hk1 k7 (by omega) (bO.offR b7 (by decide))
    have y10:=hk1 k10 (by omega) (bO.offR b10 (by decide))
    have y11:=hk1 k11 (by omega) (bO.offR bv (by decide))
    have y12:=hk1 k12 (by omega) (bO.offR b12 (by decide))
    have y13:=hk1 k13 (by omega) (bO.offR b13 (by decide))
    have y14:=hk1 k14 (by omega) (bO.offR b14 (by decide))
    rw [b4] at y4
    rw [b7] at y7
    rw [b10] at y10
    rw [bv] at y11
    rw [b12] at y12
    rw [b13] at y13
    rw [b14] at y14
    have q1:(k12=k11)=False:=by simp; omega
    have q2:(k14=k12)=False:=by simp; omega
    have q3:(k14=k11)=False:=by simp; omega
    have q4:(k7=k14)=False:=by simp; omega
    have q5:(k7=k12)=False:=by simp; omega
    have q6:(k7=k11)=False:=by simp; omega
    have p1:(k13=k7)=False:=by simp; omega
    have p2:(k13=k14)=False:=by simp; omega
    have p3:(k13=k12)=False:=by simp; omega
    have p4:(k13=k11)=False:=by simp; omega
    simp -dsimp -implicitDefEqProofs only [go_sem,seval,e4,e7,e11,e12,e13,e14,y4,y7,y11,y12,y13,y14,q1,q2,q3,q4,q5,q6,p1,p2,p3,p4,hr2]
    refine ⟨?_, ?_⟩
    ·simp only [sepAll,List.all_cons,List.all_nil,List.getElem?_cons_succ,List.getElem?_cons_zero,sep,AOp.looks,AOp.opds,AOp.wopd,topsL,evl_eq,List.flatMap_cons,List.flatMap_nil]
     simp -dsimp -implicitDefEqProofs only [go_sem,seval,e7,e11,e12,e13,e14,V.top]
     simp; omega
    ·have hoky:offK v ky:=by
      rcases bO with ⟨rfl,_⟩ | ⟨q,rfl,_,hq⟩
      ·intro i n he; cases he
      ·refine offK_ms ?_ _ _
       rintro rfl; rw [hq] at hY2; cases hY2
     have yky:=hk1 ky (by omega) hoky
     rw [hY2] at yky
     have hkp3:=hF2.kp.keep hln fun j hj=>hk1 j (by omega) (bof j hj)
     rw [rowsA_snoc _ (g.ac i).th (g.ac i).st (g.ac i).ce (g.ac i).wr (by omega)] at hO'
     obtain ⟨h3,hh3⟩ : ∃ h3,h3=hpC (updC h2 (n' + 8) (some (.rows 4 [[V.t (ti (g.ac i).th),V.t (ti (g.ac i).st),V.t (ti (g.ac i).ce),V.t (tb (g.ac i).wr)]] false))) hp' := ⟨_,rfl⟩
     rw [<- hh3] at yky y4 y10 y13 hO' hkp3
     have hoj : ∀ j,j<n' -> offK (.ms kv 0 mv) j:=fun j hj=>hoffs j (by omega)
     refine ⟨rfl, ?_, ?_, ?_⟩
     ·simp -dsimp -implicitDefEqProofs only [go_sem,seval]; omega
     ·simp only [hpC_cons,hpC_nil]
      rw [<- hh3]
      simp only [updC_at]
      rw [if_neg (by omega),if_neg (by omega),if_neg (by omega),if_neg (by omega),if_neg (by omega)]; exact yky
     simp only [hpC_cons,hpC_nil,if_true]
     rw [<- hh3]
     refine ⟨?_, ?_, ?_, ?_,⟨.ms kv 0 mv, ?_, ?_,fun q hq=>hoj q (by omega)⟩, ?_, ?_, ?_, ?_⟩
     ·exact ((((hkp3.upd (by omega) hln _).upd (by omega) hln _).upd (by omega) hln _).upd (by omega) hln _).upd (by omega) hln _
     ·simp only [updC_at]
      rw [if_neg (by omega),if_neg (by omega),if_neg (by omega),if_neg (by omega),if_neg (by omega)]; exact y4
     ·simp only [updC_at]
      rw [if_neg (by omega),if_pos trivial]
     ·simp only [updC_at]
      rw [if_neg (by omega),if_neg (by omega),if_neg (by omega),if_neg (by omega),if_neg (by omega)]; exact y10
     ·simp only [updC_at]
      rw [if_neg (by omega),if_neg (by omega),if_neg (by omega),if_neg (by omega),if_pos trivial]
     ·have:=(((((hO'.updO (hoj k11 (by omega)) (some (.rows 1 [[.ms kv 0 mv]] false))).updO (hoj k12 (by omega)) (some (.rows 1 [[vi i]] false))).updO (hoj k14 (by omega)) (some (.rows 1 [[vb true]] false))).updO (hoj k7 (by omega)) (some (.rows 1 [[vi r]] false))).updO (hoj k13 (by omega)) (some (.rows 1 [[vi ((m ||| 1 <<< (g.ac i).th:Nat):Int)]] false)))
      simp -dsimp -implicitDefEqProofs only [go_sem,seval]
      refine this.le ?_; omega
     ·simp only [updC_at]
      rw [if_neg (by omega),if_neg (by omega),if_neg (by omega),if_pos trivial]
     ·simp only [updC_at]
      rw [if_pos trivial]; rfl
     ·simp only [updC_at]
      rw [if_neg (by omega),if_neg (by omega),if_pos trivial]; rfl
     ·simp -dsimp -implicitDefEqProofs only [go_sem,seval]; omega
  ·have hnx:g.next goal last m op r i=g.ends r goal (g.cl i) m:=by unfold Gr.next; rw [hins,if_pos rfl]
   rw [hnx]
   simp -dsimp -implicitDefEqProofs only [go_sem,seval,e4,e7,e10,e13,b4,b7,b10,b13,hG,hC,hca,hcl,hcc,hia,hr2]
   have hen:=ends_all b r (by omega) goal (g.cl i) m es
   rw [<- hE] at hen
   refine rawK_of (nxt_of (hen _ hgo hcal hm hes)) ?_
   rintro _ h' n' ⟨⟨rfl,es1,hes1,rfl⟩,hnn⟩
   have hF2:=hF.memo gl.ln hes1 (n' := n') (by refine Nat.le_trans ?_ hnn; omega)
   have hY2:HM h1 kn es1 ky=some (.loop env [57,58] b317_0 .busy):=by rw [HM_ne _ _ (by have:=gl.ln; omega)]; exact hY1
   simp -dsimp -implicitDefEqProofs only [go_sem,seval]
   have hq2 : ∀ q,q≠ky->q≠kn->HM h1 kn es1 q=h q:=fun q h3 h4=>by rw [HM_ne _ _ h4,hq1 q h3]
   generalize HM h1 kn es1=h2 at hF2 hY2 hq2 ⊢
   clear hF hY1 hE hG hC hkc b4 b7 b10 b12 b13 b14 bv bO bof b hen
   obtain ⟨es2,f1',f2',hes2,b,hE⟩:=hF2.kp.grB gl
   have hG:=b.rowM es2
   rw [<- hE] at hG
   obtain ⟨_,b4,b7,b10,⟨v,bv,bO,bof⟩,b12,b13,b14,_⟩:=id hF2
   have hth:(g.ac i).th<4:=by have:=b.ok.th_lt i hi; have:=b.nt4; omega
   have hsl:=i_shl (i:=(g.ac i).th) (by omega)
   have hor:=i_or (a:=m) (b:=1 <<< (g.ac i).th) (by omega) (by have:=mask_lt (m:=0) (by omega) hth; rw [Nat.zero_or] at this; omega)
   cases hev:g.ends r goal (g.cl i) m
   ·simp -dsimp -implicitDefEqProofs only [go_sem,seval,e4,e13,b4,b13,hG,hxa,hsl,hor]
    refine ⟨rfl, ?_,hY2,hF2.le ?_,hq2⟩
    ·(try simp -dsimp -implicitDefEqProofs only [go_sem,seval]); omega
    ·(try simp -dsimp -implicitDefEqProofs only [go_sem,seval]); omega
   ·have v1:=bO.valOf
    have v3:=bO.r3
    have v4:=bO.r4
    have v2:=bO.r2
    have v5:=bO.r1
    have lt2:=hF2.lt
    simp -dsimp -implicitDefEqProofs only [go_sem,seval,e4,e7,e11,e12,e14,b4,b7,b12,bv,b14,hG,hxa,v1,v2,v3,v4,v5]
    refine putA_app1 (bO.upd (by omega) _) (by omega) (by rw [rowsA_len]; omega) (by decide) rfl (rowsA_all _) ?_
    intro v' hp' hO' hoffs hkeep
    obtain ⟨kv,mv,rfl⟩:=hO'.msE (by simp)
    have hk1 : ∀ j,j<n' -> offK v j->hpC (updC h2 (n' + 8) (some (.rows 4 [[V.t (ti (g.ac i).th),V.t (ti (g.ac i).st),V.t (ti (g.ac i).ce),V.t (tb (g.ac i).wr)]] false))) hp' j=h2 j:=by
     intro j hj ho
     rw [hkeep j (by omega) ho,updC_at,if_neg (by omega)]
    have y4:=hk1 k4 (by omega) (bO.offR b4 (by decide))
    have y7:=hk1 k7 (by omega) (bO.offR b7 (by decide))
    have y10:=hk1 k10 (by omega) (bO.offR b10 (by decide))
    have y11:=hk1 k11 (by omega) (bO.offR bv (by decide))
    have y12:=hk1 k12 (by omega) (bO.offR b12 (by decide))
    have y13:=hk1 k13 (by omega) (bO.offR b13 (by decide))
    have y14:=hk1 k14 (by omega) (bO.offR b14 (by decide))
    rw [b4] at y4
    rw [b7] at y7
    rw [b10] at y10
    rw [bv] at y11
    rw [b12] at y12
    rw [b13] at y13
    rw [b14] at y14
    have q1:(k12=k11)=False:=by simp; omega
    have q2:(k14=k12)=False:=by simp; omega
    have q3:(k14=k11)=False:=by simp; omega
    have q4:(k7=k14)=False:=by simp; omega
    have q5:(k7=k12)=False:=by simp; omega
    have q6:(k7=k11)=False:=by simp; omega
    simp -dsimp -implicitDefEqProofs only [go_sem,seval,e4,e7,e11,e12,e14,y4,y7,y11,y12,y14,q1,q2,q3,q4,q5,q6,hr2]
    refine ⟨?_, ?_⟩
    ·simp only [sepAll,List.all_cons,List.all_nil,List.getElem?_cons_succ,List.getElem?_cons_zero,sep,AOp.looks,AOp.opds,AOp.wopd,topsL,evl_eq,List.flatMap_cons,List.flatMap_nil]
     simp -dsimp -implicitDefEqProofs only [go_sem,seval,e7,e11,e12,e14,V.top]
     simp; omega
    ·have hoky:offK v ky:=by
      rcases bO with ⟨rfl,_⟩ | ⟨q,rfl,_,hq⟩
      ·intro i n he; cases he
      ·refine offK_ms ?_ _ _
       rintro rfl; rw [hq] at hY2; cases hY2
     have yky:=hk1 ky (by omega) hoky
     rw [hY2] at yky
     have hkp3:=hF2.kp.keep hln fun j hj=>hk1 j (by omega) (bof j hj)
     rw [rowsA_snoc _ (g.ac i).th (g.ac i).st (g.ac i).ce (g.ac i).wr (by omega)] at hO'
     obtain ⟨h3,hh3⟩ : ∃ h3,h3=hpC (updC h2 (n' + 8) (some (.rows 4 [[V.t (ti (g.ac i).th),V.t (ti (g.ac i).st),V.t (ti (g.ac i).ce),V.t (tb (g.ac i).wr)]] false))) hp' := ⟨_,rfl⟩
     rw [<- hh3] at yky y4 y10 y13 hO' hkp3
     have hoj : ∀ j,j<n' -> offK (.ms kv 0 mv) j:=fun j hj=>hoffs j (by omega)
     refine ⟨rfl, ?_, ?_, ?_⟩
     ·simp -dsimp -implicitDefEqProofs only [go_sem,seval]; omega
     ·simp only [hpC_cons,hpC_nil]
      rw [<- hh3]
      simp only [updC_at]
      rw [if_neg (by omega),if_neg (by omega),if_neg (by omega),if_neg (by omega)]; exact yky
     simp only [hpC_cons,hpC_nil,if_true]
     rw [<- hh3]
     refine ⟨?_, ?_, ?_, ?_,⟨.ms kv 0 mv, ?_, ?_,fun q hq=>hoj q (by omega)⟩, ?_, ?_, ?_, ?_⟩
     ·exact (((hkp3.upd (by omega) hln _).upd (by omega) hln _).upd (by omega) hln _).upd (by omega) hln _
     ·simp only [updC_at]
      rw [if_neg (by omega),if_neg (by omega),if_neg (by omega),if_neg (by omega)]; exact y4
     ·simp only [updC_at]
      rw [if_pos trivial]
     ·simp only [updC_at]
      rw [if_neg (by omega),if_neg (by omega),if_neg (by omega),if_neg (by omega)]; exact y10
     ·simp only [updC_at]
      rw [if_neg (by omega),if_neg (by omega),if_neg (by omega),if_pos trivial]
     ·have:=((((hO'.updO (hoj k11 (by omega)) (some (.rows 1 [[.ms kv 0 mv]] false))).updO (hoj k12 (by omega)) (some (.rows 1 [[vi i]] false))).updO (hoj k14 (by omega)) (some (.rows 1 [[vb false]] false))).updO (hoj k7 (by omega)) (some (.rows 1 [[vi r]] false)))
      simp -dsimp -implicitDefEqProofs only [go_sem,seval]
      refine this.le ?_; omega
     ·simp only [updC_at]
      rw [if_neg (by omega),if_neg (by omega),if_pos trivial]
     ·simp only [updC_at]
      rw [if_neg (by omega),if_neg (by omega),if_neg (by omega),if_neg (by omega)]; exact y13
     ·simp only [updC_at]
      rw [if_neg (by omega),if_pos trivial]; rfl
     ·simp -dsimp -implicitDefEqProofs only [go_sem,seval]; omega)
 obtain ⟨e,h',n',⟨he,hn',hb,hf⟩,env',ps',bd',hb',hd⟩:=this
 rw [hb] at hb'
 cases hb'
 refine ⟨updC h' ky (some (.loop env [57,58] b317_0 e.toL)),n', ?_,hn', ?_⟩
 ·rw [hd,he]
  cases g.next goal last m op r i <;> rfl
 ·cases hnx:g.next goal last m op r i
  ·rw [hnx] at hf he
   simp only [Bool.false_eq_true,if_false] at hf he ⊢
   rw [he]
   exact ⟨by rw [updC_at,if_pos rfl]; rfl,hf.1.updY hln hky hb _,fun q h1 h2=>by rw [updC_at,if_neg h1]; exact hf.2 q h1 h2⟩
  ·rw [hnx] at hf he
   simp only [if_true] at hf he ⊢
   rw [he]
   exact ⟨by rw [updC_at,if_pos rfl]; rfl,hf.updY hln hky hb _⟩
end
end Rg
end
section
namespace Rg
open Go
def listV (h:Nat->Option O) (n:Nat) (rr:V):Option (List Acc)->Prop
 | none=>rr = .tup [.t .nils,vb false]
 | some l => ∃ v,rr = .tup [v,vb true]/\OwnB h n v 4 (rowsA l)
theorem rng_from30 {o:Option (V×(Nat->Option O)×Nat)} {k:Nat} {P:Ex->(Nat->Option O)->Nat->Prop} {Q:(Nat->Option O)->Nat->Prop} (h : ∃ r h' n',o=some (r,h',n')/\Q h' n')
 (hQ : ∀ h' n',Q h' n' -> ∃ env ps bd st e,h' k=some (.loop env ps bd st)/\st.ends=some e/\P e h' n') : ∃ r h' n',o=some (r,h',n') /\ ∃ env ps bd st e,h' k=some (.loop env ps bd st)/\st.ends=some e/\P e h' n' := by
 obtain ⟨r,h',n',h1,h2⟩:=h
 exact ⟨r,h',n',h1,hQ h' n' h2⟩
theorem find_none {f:Nat->Bool} {n:Nat} (h : ∀ j,j<n->f j=false):(List.range n).find? f=none:=by
 rw [List.find?_eq_none]
 intro x hx
 rw [h x (List.mem_range.1 hx)]; simp
theorem find_some {f:Nat->Bool} {n j:Nat} (hj:j<n) (h : ∀ i,i<j->f i=false) (hf:f j=true):(List.range n).find? f=some j:=by
 rw [List.find?_range_eq_some]
 exact ⟨by simpa using hf,List.mem_range.2 hj,fun i hi=>by rw [h i hi]; rfl⟩
theorem FV.ext {H:Nat->Option O} {n0 kG kn:Nat} {g:Gr} {h h' : Nat->Option O} {n n' k4 k7 k10 k11 k12 k13 k14 rest goal last m:Nat} {op:Bool} {l:List Acc} (f:FV H n0 kG kn g h n k4 k7 k10 k11 k12 k13 k14 rest goal last m op l) (hn:kn<n0)
 (hk : ∀ k,k<n->h' k=h k) (hnn:n<=n'):FV H n0 kG kn g h' n' k4 k7 k10 k11 k12 k13 k14 rest goal last m op l:=by
 have lt:=f.lt
 obtain ⟨v,v1,v2,v3⟩:=f.b11
 refine ⟨f.kp.keep hn fun j hj=>hk j (by omega),by rw [hk _ (by omega)]; exact f.b4,by rw [hk _ (by omega)]; exact f.b7,by rw [hk _ (by omega)]; exact f.b10,⟨v,by rw [hk _ (by omega)]; exact v1, ?_,v3⟩,
  by rw [hk _ (by omega)]; exact f.b12,by rw [hk _ (by omega)]; exact f.b13,by rw [hk _ (by omega)]; exact f.b14,by omega⟩
 rcases v2 with v2 | ⟨q,h1,h2,h3⟩
 ·exact .inl v2
 ·exact .inr ⟨q,h1,by omega,by rw [hk _ h2]; exact h3⟩
theorem FV.updZ {H:Nat->Option O} {n0 kG kn:Nat} {g:Gr} {h:Nat->Option O} {n k4 k7 k10 k11 k12 k13 k14 rest goal last m q:Nat} {op:Bool} {l:List Acc} (f:FV H n0 kG kn g h n k4 k7 k10 k11 k12 k13 k14 rest goal last m op l) (hn:kn<n0)
 (hq:n<=q) (o:Option O):FV H n0 kG kn g (updC h q o) n k4 k7 k10 k11 k12 k13 k14 rest goal last m op l :=
 f.ext hn (fun k hk=>by rw [updC_at,if_neg (by omega)]) (Nat.le_refl _)
set_option maxHeartbeats 4000000
theorem follow_den {H:Nat->Option O} {n kG kM kn:Nat} {cv:V} {p:Prog} {model:Int} {g:Gr} (gl:GrL H n kG kM kn cv p model g) (hkp:Kp H n kn g H) {a b r:Nat} (ha:a<g.all.length) (hb:b<g.all.length) (hr:r<90) :
 ∃ rr h' n',DenR Γ G 317 [.mp kG 0 0,vi a,vi b,vi r] H n=some (rr,h',n')/\listV h' n' rr ((g.follow (g.cl a) r b (1 <<< (g.ac b).th) false).map fun l=>g.ac a::g.ac b::l):=by
 obtain ⟨es,f1,f2,hes,gb,hE⟩:=hkp.grB gl
 have hG:=gb.rowM es
 obtain ⟨kc,fc,hcv,hkc⟩:=gb.clsK ha
 subst hcv
 have hC:=hkc es
 rw [<- hE] at hG hC
 have hca:=gb.cl_at ha
 have hcl:=rowsC30_len g.cls
 have hcc:=gb.ok.cl_len
 have hia:(a<g.all.length)=True:=by simp [ha]
 have hxa:=GrB.ac_at ha
 have hxb:=GrB.ac_at hb
 have hth:(g.ac b).th<4:=by have:=gb.ok.th_lt b hb; have:=gb.nt4; omega
 have hsl:=i_shl (i:=(g.ac b).th) (by omega)
 have hg1:=gl.lG
 have hg2:kc<n:=by
  rcases Nat.lt_or_ge kc n with h4 | h4
  ·exact h4
  ·exact absurd rfl (gl.lc kc h4 _ _)
 have u1 : ∀ d,kG≠n+d:=fun d=>by omega
 have u2 : ∀ d,kc≠n+d:=fun d=>by omega
 have u3 : ∀ d e,kG≠n+d+e:=fun d e=>by omega
 have u4 : ∀ d e,kc≠n+d+e:=fun d e=>by omega
 have u5 : ∀ d e f,kG≠n+d+e+f:=fun d e f=>by omega
 have u6 : ∀ d e f,kc≠n+d+e+f:=fun d e f=>by omega
 have u0:(kG=n)=False:=by simp; omega
 have u7:(kc=n)=False:=by simp; omega
 have w1 : ∀ d:Nat,(n+(d+1)=n)=False:=fun d=>by simp
 have w2 : ∀ d:Nat,(n=n+(d+1))=False:=fun d=>by simp
 (refine denR_ofY Γ317 rfl ?_; dsimp only [f317])
 simp -dsimp -implicitDefEqProofs only [go_sem,seval,hG,hC,hca,hcl,hcc,hia,hxa,hxb,hsl,u1,u2,u3,u4,u5,u6,u0,u7,w1,w2,Nat.add_left_cancel_iff,Nat.add_zero,Nat.add_assoc]
 refine ⟨?_, ?_⟩
 ·simp only [sepAll,List.all_cons,List.all_nil,List.getElem?_cons_succ,List.getElem?_cons_zero,sep,AOp.looks,AOp.opds,AOp.wopd,topsL,evl_eq,List.flatMap_cons,List.flatMap_nil]
  simp -dsimp -implicitDefEqProofs only [go_sem,seval,V.top]
  simp; omega
 ·obtain ⟨res,hres0⟩ : ∃ res,res=g.follow (g.cl a) r b (1 <<< (g.ac b).th) false:=⟨_,rfl⟩
  rw [<- hres0]
  have hf0:res=(g.follow (g.cl a) (r-0) b (1 <<< (g.ac b).th) false).map ([] ++ ·):=by
   rw [Nat.sub_zero, <- hres0]
   cases res <;> simp
  clear hres0
  have hal:=gl.al
  have hln:=gl.ln
  have hb16:1 <<< (g.ac b).th<16:=by have:=mask_lt (m:=0) (by omega) hth; rw [Nat.zero_or] at this; exact this
  refine loopYH 142989288169014016 r (fun i f h x => ∃ last m op l',FV H n kG kn g h x n (n+1) (n+11) (n+28) (n+40) (n+41) (n+42) (r-i) (g.cl a) last m op ([g.ac a,g.ac b]++l')/\l'.length=i/\last<g.all.length/\m<16/\res=(g.follow (g.cl a) (r-i) last m op).map (l' ++ ·)) rfl ?_ ?_
  ·refine ⟨b,1 <<< (g.ac b).th,false,[],⟨?_, ?_, ?_, ?_,⟨.ms (n+27) 0 2, ?_, .inr ⟨n+27, ?_, ?_, ?_⟩,fun q hq=>offK_ms (by omega) _ _⟩, ?_, ?_, ?_, ?_⟩,rfl,hb,hb16,hf0⟩
   ·simp only [hpC_cons,hpC_nil]
    refine hkp.keep hln fun j hj => ?_
    simp only [updC_at]
    repeat rw [if_neg (by omega)]
   ·simp only [hpC_cons,hpC_nil,updC_at]
    repeat rw [if_neg (by omega)]
    rw [if_pos trivial]
   ·simp only [hpC_cons,hpC_nil,updC_at]
    repeat rw [if_neg (by omega)]
    rw [if_pos trivial]; rfl
   ·simp only [hpC_cons,hpC_nil,updC_at]
    repeat rw [if_neg (by omega)]
    rw [if_pos trivial]
   ·simp only [hpC_cons,hpC_nil,updC_at]
    repeat rw [if_neg (by omega)]
    rw [if_pos trivial]
   ·rfl
   ·simp -dsimp -implicitDefEqProofs only [go_sem,seval]; omega
   ·simp only [hpC_cons,hpC_nil,updC_at]
    repeat rw [if_neg (by omega)]
    rw [if_pos trivial]; rfl
   ·simp only [hpC_cons,hpC_nil,updC_at]
    repeat rw [if_neg (by omega)]
    rw [if_pos trivial]
   ·simp only [hpC_cons,hpC_nil,updC_at]
    repeat rw [if_neg (by omega)]
    rw [if_pos trivial]
   ·simp only [hpC_cons,hpC_nil,updC_at]
    rw [if_pos trivial]
   ·simp -dsimp -implicitDefEqProofs only [go_sem,seval]; omega
  ·clear hf0 hG hC hes hE gb
   rintro i f u h x bs hi ⟨last,m,op,l',hF,hll,hla,hm,hres⟩
   obtain ⟨_,b4,b7,b10,⟨v,bv,bO,bof⟩,b12,b13,b14,lt⟩:=id hF
   simp -dsimp -implicitDefEqProofs only [go_sem,seval,b4,b7]
   by_cases hri:i<r
   ·have hc1:(((r-i:Nat):Int)>0)=True:=by simp; omega
    simp -dsimp -implicitDefEqProofs only [go_sem,seval,hc1,b4,b12,b13,b14]
    refine rawK_of (nxt_of (visits_den kG last m op _ _)) ?_
    rintro _ h1 n1 ⟨⟨kg,ko,kl,km,rfl,hbx,hk1,g1,g2,g3,g4,g5,g6,g7,g8⟩,hn1⟩
    simp -dsimp -implicitDefEqProofs only [go_sem,seval]
    generalize hEnv:envC _=env
    have e4:env 4 = .mp n 0 0:=by rw [<- hEnv]; simp -dsimp -implicitDefEqProofs only [go_sem,seval]
    have e7:env 7 = .mp (n+1) 0 0:=by rw [<- hEnv]; simp -dsimp -implicitDefEqProofs only [go_sem,seval]
    have e10:env 10 = .mp (n+11) 0 0:=by rw [<- hEnv]; simp -dsimp -implicitDefEqProofs only [go_sem,seval]
    have e11:env 11 = .mp (n+28) 0 0:=by rw [<- hEnv]; simp -dsimp -implicitDefEqProofs only [go_sem,seval]
    have e12:env 12 = .mp (n+40) 0 0:=by rw [<- hEnv]; simp -dsimp -implicitDefEqProofs only [go_sem,seval]
    have e13:env 13 = .mp (n+41) 0 0:=by rw [<- hEnv]; simp -dsimp -implicitDefEqProofs only [go_sem,seval]
    have e14:env 14 = .mp (n+42) 0 0:=by rw [<- hEnv]; simp -dsimp -implicitDefEqProofs only [go_sem,seval]
    clear hEnv
    have hx:x<=n1:=by refine Nat.le_trans ?_ hn1; omega
    have hF1:FV H n kG kn g h1 n1 n (n+1) (n+11) (n+28) (n+40) (n+41) (n+42) (r-i) (g.cl a) last m op ([g.ac a,g.ac b]++l'):=hF.ext gl.ln (fun k hk=>hk1 k (by omega)) hx
    refine rngK_of (P:=fun e h' n' => (e = .exit 1 /\ ∃ c,(List.range g.all.length).find? (g.next (g.cl a) last m op (r-i-1))=some c/\FV H n kG kn g (updC h' n1 (some .dead)) n' n (n+1) (n+11) (n+28) (n+40) (n+41) (n+42) (r-i-1) (g.cl a) c (if (g.visit last m op c).1 then m else m ||| 1 <<< (g.ac c).th) (!(g.visit last m op c).1) ([g.ac a,g.ac b]++l' ++ [g.ac c])) \/
     (e = .normal/\(List.range g.all.length).find? (g.next (g.cl a) last m op (r-i-1))=none)) ?_ ?_
    ·refine rng_from30 (visits1_den (kM:=kM) (kn:=kn) (cv:=.ms kc 0 g.cls.length) (p:=p) (model:=model) (kG:=kG) gl.al kg ko kl km n1 op last m hla hm
      (fun j h q=>h n1=some (.loop env [57,58] b317_0 .ready)/\FV H n kG kn g h q n (n+1) (n+11) (n+28) (n+40) (n+41) (n+42) (r-i) (g.cl a) last m op ([g.ac a,g.ac b]++l')/\BoxV h kg ko kl km kG op last m/\n1+1<=q /\ ∀ t,t<j->g.next (g.cl a) last m op (r-i-1) t=false)
      (fun h q=>h n1=some (.loop env [57,58] b317_0 (.done (.exit 1))) /\ ∃ c,(List.range g.all.length).find? (g.next (g.cl a) last m op (r-i-1))=some c/\FV H n kG kn g h q n (n+1) (n+11) (n+28) (n+40) (n+41) (n+42) (r-i-1) (g.cl a) c (if (g.visit last m op c).1 then m else m ||| 1 <<< (g.ac c).th) (!(g.visit last m op c).1) ([g.ac a,g.ac b]++l' ++ [g.ac c]))
      ?_ ?_ ?_ ?_ _ _ ?_) ?_
     ·rintro j h q ⟨p1,p2,p3,p4,p5⟩
      obtain ⟨es,f1,f2,hes,gb,hE⟩:=p2.kp.grB gl
      exact ⟨p3,h,f1,f2,es,gb,hE⟩
     ·rintro j h q q' ⟨p1,p2,p3,p4,p5⟩ hq
      exact ⟨p1,p2.le hq,p3,by omega,p5⟩
     ·rintro h q q' ⟨p1,c,p2,p3⟩ hq
      exact ⟨p1,c,p2,p3.le hq⟩
     ·rintro j h q hj ⟨p1,p2,p3,p4,p5⟩
      split
      ·rename_i hv
       have hgo:g.cl a<g.msk.length:=by obtain ⟨_,_,_,_,gb,_⟩:=p2.kp.grB gl; exact gb.ok.cl_lt a ha
       have hri1:r-i=r-i-1+1:=by omega
       rw [hri1] at p2
       obtain ⟨h',n',d1,d2,d3⟩:=roundF gl (ins:=(g.visit last m op j).1) p1 e4 e7 e10 e11 e12 e13 e14 p2 (by omega) (by omega) hj rfl (fun h0=>by rw [h0] at hv; simpa using hv) hgo hm (by omega) (by
        rw [List.length_append,hll]; simp; omega)
       refine ⟨_,h',n',d1, ?_⟩
       cases hnx:g.next (g.cl a) last m op (r-i-1) j
       ·rw [hnx] at d3
        simp only [Bool.false_eq_true,if_false,Bool.not_false,if_true] at d3 ⊢
        rw [<- hri1] at d3
        refine ⟨d3.1,d3.2.1, ?_,by omega,fun t ht => ?_⟩
        ·have hnk : ∀ q,n<=q->q<n1->h' q=h q:=fun q h1 h2=>d3.2.2 q (by omega) (by have:=gl.ln; omega)
         have lt' := p2.lt
         exact ⟨by rw [hnk _ (by omega) g5]; exact p3.g,by rw [hnk _ (by omega) g6]; exact p3.o,by rw [hnk _ (by omega) g7]; exact p3.l,by rw [hnk _ (by omega) g8]; exact p3.m⟩
        ·rcases Nat.lt_or_ge t j with h1 | h1
         ·exact p5 t h1
         ·obtain rfl:t=j:=by omega
          exact hnx
       ·rw [hnx] at d3
        simp only [if_true,Bool.not_true,Bool.false_eq_true,if_false] at d3 ⊢
        exact ⟨d3.1,j,find_some hj p5 hnx,d3.2⟩
      ·rename_i hv
       refine ⟨p1,p2,p3,p4,fun t ht => ?_⟩
       rcases Nat.lt_or_ge t j with h1 | h1
       ·exact p5 t h1
       ·obtain rfl:t=j:=by omega
        unfold Gr.next
        simp only [Bool.or_eq_true,not_or,Bool.not_eq_true] at hv
        rw [hv.1,hv.2]; rfl
     ·refine ⟨by rw [updC_at,if_pos rfl],(hF1.updZ gl.ln (by omega) _).le (by omega), ?_,by omega,fun t ht=>by omega⟩
      exact ⟨by rw [updC_at,if_neg (by omega)]; exact hbx.g,by rw [updC_at,if_neg (by omega)]; exact hbx.o,by rw [updC_at,if_neg (by omega)]; exact hbx.l,by rw [updC_at,if_neg (by omega)]; exact hbx.m⟩
     ·rintro h' n' (⟨p1,p2,p3,p4,p5⟩ | ⟨p1,c,p2,p3⟩)
      ·exact ⟨env,[57,58],b317_0, .ready, .normal,p1,rfl, .inr ⟨rfl,find_none p5⟩⟩
      ·exact ⟨env,[57,58],b317_0, .done (.exit 1), .exit 1,p1,rfl, .inl ⟨rfl,c,p2,p3.updY gl.ln (by omega) p1 _⟩⟩
    ·rintro e h' n' (⟨rfl,c,p2,p3⟩ | ⟨rfl,p2⟩)
     ·simp -dsimp -implicitDefEqProofs only [go_sem,seval]
      refine ⟨hri,c,if (g.visit last m op c).1 then m else m ||| 1 <<< (g.ac c).th, !(g.visit last m op c).1,l' ++ [g.ac c], ?_, ?_, ?_, ?_, ?_⟩
      ·rw [Nat.sub_add_eq, <- List.append_assoc]
       simp -dsimp -implicitDefEqProofs only [go_sem,seval]
       exact p3
      ·simp [hll]
      ·have:=List.mem_of_find?_eq_some p2
       exact List.mem_range.1 this
      ·split
       ·exact hm
       ·refine mask_lt hm ?_
        obtain ⟨_,_,_,_,gb,_⟩:=p3.kp.grB gl
        have h1:=gb.ok.th_lt c (List.mem_range.1 (List.mem_of_find?_eq_some p2))
        have h2:=gb.nt4
        omega
      ·rw [hres]
       have e:r-i=r-(i+1)+1:=by omega
       rw [e,Gr.follow]
       rw [show r-i-1=r-(i+1) by omega] at p2
       rw [p2]
       simp only
       cases hv:(g.visit last m op c).1
       ·simp only [Bool.false_eq_true,if_false,Bool.not_false,Option.map_map]
        congr 1; funext z; simp
       ·simp only [if_true,Bool.not_true,Option.map_map]
        congr 1; funext z; simp
     ·simp -dsimp -implicitDefEqProofs only [go_sem,seval]
      have e:r-i=r-i-1+1:=by omega
      rw [e,Gr.follow,p2] at hres
      rw [hres]
      rfl
   ·have hie:i=r:=by omega
    subst hie
    have hc1:(((i-i:Nat):Int)>0)=False:=by simp
    rw [Nat.sub_self] at hres
    rw [hres]
    obtain ⟨kv,mv,rfl⟩:=bO.msE (by simp [rowsA])
    simp -dsimp -implicitDefEqProofs only [go_sem,seval,hc1,bv]
    refine ⟨_,rfl, ?_⟩
    have e:g.ac a::g.ac b::(l' ++ [])=[g.ac a,g.ac b]++l' := by simp
    show OwnB _ _ _ 4 (rowsA (g.ac a::g.ac b::(l' ++ [])))
    rw [e]
    refine bO.le ?_
    simp -dsimp -implicitDefEqProofs only [go_sem,seval]
    omega
end Rg
end
