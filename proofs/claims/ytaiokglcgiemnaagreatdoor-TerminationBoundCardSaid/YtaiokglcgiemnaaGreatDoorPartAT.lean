/- Part of the proof of the laws of the package relyguardlaw36: an abstract machine for the program's functions, what they compute, and that the machine is the program's. No condition. (RgZ) -/
import Derived.Test.YtaiokglcgiemnaaGreatDoorPartAN
set_option linter.unusedSimpArgs false
section
namespace Rg
open Go
section
variable {Γ:Nat->Option F} {G:Nat->List T}
theorem Big.det {t:Task} {o:Out} (h:Big Γ G t o): ∀{o':Out},Big Γ G t o'->o=o':=by
 induction h with
 | skip=>intro o' h';cases h';rfl
 | ret=>intro o' h';cases h';rfl
 | exit=>intro o' h';cases h';rfl
 | region _ ih=>intro o' h';cases h' with | region h=>have:=ih h;cases this;rfl
 | regionD _ _ ih=>intro o' h';cases h' with | regionD h _=>have:=ih h;cases this;rfl
 | seqN _ _ ih1 ih2=>
   intro o' h'
   cases h' with
   | seqN h1 h2=>have:=ih1 h1;cases this;exact ih2 h2
   | seqX h1 he=>have:=ih1 h1;cases this;exact absurd rfl he
 | seqX _ he ih=>
   intro o' h'
   cases h' with
   | seqN h1 h2=>have:=ih h1;cases this;exact absurd rfl he
   | seqX h1 he=>exact ih h1
 | cond hc _ ih=>
   intro o' h'
   cases h' with
   | cond hc' h=>rw[hc]at hc';cases hc';exact ih h
 | block _ ih=>
   intro o' h'
   cases h' with
   | block h=>have:=ih h;cases this;rfl
 | loop _ ih=>
   intro o' h'
   cases h' with
   | loop h=>exact ih h
 | loopN _ _ ih1 ih2=>
   intro o' h'
   cases h' with
   | loopN h1 h2=>have:=ih1 h1;cases this;exact ih2 h2
   | loopX h1 he=>have:=ih1 h1;cases this;exact absurd rfl he
 | loopX _ he ih=>
   intro o' h'
   cases h' with
   | loopN h1 h2=>have:=ih h1;cases this;exact absurd rfl he
   | loopX h1 he=>exact ih h1
 | opsNil=>intro o' h';cases h';rfl
 | opsSkip hw hf _ ih=>
   intro o' h'
   cases h' with
   | opsSkip hw' hf' h=>exact ih h
   | opsEff hw' _ _ _=>rw[hw]at hw';cases hw'
   | opsPure hw' _ _ _ _ _ _ _ _ _ _ _=>rw[hw]at hw';cases hw'
   | opsRaw hw' _ _ _ _ _ _ _ _ _=>rw[hw]at hw';cases hw'
   | opsFresh hw' _ _ _ _ _ _ _ _ _ _ _ _=>rw[hw]at hw';cases hw'
   | opsYield hw' _ _ _ _ _ _ _ _ _ _ _=>rw[hw]at hw';cases hw'
 | rangeF hfv hfn hg hr hc hl he ihc=>
   intro o' h'
   cases h' with
   | rangeF hfv' hfn' hg' hr' hc' hl' he'=>
     rw[hfv]at hfv';cases hfv'
     rw[hfn]at hfn';cases hfn'
     have:=ihc hc';cases this
     rw[hl]at hl';cases hl'
     rw[he]at he';cases he'
     rfl
 | opsYield hw hf ho hfv hk hvs hlen hca hk1 hcb hk2 _ iha ihb ih=>
   intro o' h'
   cases h' with
   | opsSkip hw' hf' h=>rw[hw]at hw';cases hw'
   | opsEff hw' _ he' h=>rw[ho]at he';simp[aeval]at he'
   | opsPure hw' _ ho' hfv' hfn' hg' hr' hvs' hrs' hc' hd' h=>rw[ho]at ho';cases ho'
   | opsFresh hw' _ ho' _ _ _ _ _ _ _ _ _ _=>rw[ho]at ho';cases ho'
   | opsRaw hw' _ ho' hfv' hfn' hg' hr' hvs' hc' h=>
     rw[ho]at ho';cases ho'
     rw[hfv]at hfv';cases hfv'
     simp[fnOf]at hfn'
   | opsYield hw' _ ho' hfv' hk' hvs' hlen' hca' hk1' hcb' hk2' h=>
     rw[ho]at ho';cases ho'
     rw[hfv]at hfv';cases hfv'
     rw[hk]at hk';cases hk'
     rw[hvs]at hvs';cases hvs'
     have:=iha hca';cases this
     rw[hk1]at hk1';cases hk1'
     have:=ihb hcb';cases this
     rw[hk2]at hk2';cases hk2'
     exact ih h
 | opsEff hw hf he _ ih=>
   intro o' h'
   cases h' with
   | opsSkip hw' hf' h=>rw[hw]at hw';cases hw'
   | opsEff hw' _ he' h=>rw[he]at he';cases he';exact ih h
   | opsPure hw' _ ho _ _ _ _ _ _ _ _ _=>rw[ho]at he;simp[aeval]at he
   | opsRaw hw' _ ho _ _ _ _ _ _ _=>rw[ho]at he;simp[aeval]at he
   | opsFresh hw' _ ho _ _ _ _ _ _ _ _ _ _=>rw[ho]at he;simp[aeval]at he
   | opsYield hw' _ ho _ _ _ _ _ _ _ _ _=>rw[ho]at he;simp[aeval]at he
 | opsPure hw hf ho hfv hfn hg hr hvs hrs hc hd _ ihc ih=>
   intro o' h'
   cases h' with
   | opsSkip hw' hf' h=>rw[hw]at hw';cases hw'
   | opsEff hw' _ he' h=>rw[ho]at he';simp[aeval]at he'
   | opsPure hw' _ ho' hfv' hfn' hg' hr' hvs' hrs' hc' hd' h=>
     rw[ho]at ho';cases ho'
     rw[hfv]at hfv';cases hfv'
     rw[hfn]at hfn';cases hfn'
     rw[hvs]at hvs';cases hvs'
     rw[hrs]at hrs';cases hrs'
     have:=ihc hc';cases this
     exact ih h
   | opsRaw hw' _ ho' _ _ _ _ _ _ _=>rw[ho]at ho';cases ho'
   | opsFresh hw' _ ho' _ _ _ _ _ _ _ _ _ _=>rw[ho]at ho';cases ho'
   | opsYield hw' _ ho' _ _ _ _ _ _ _ _ _=>rw[ho]at ho';cases ho'
 | opsRaw hw hf ho hfv hfn hg hr hvs hc _ ihc ih=>
   intro o' h'
   cases h' with
   | opsSkip hw' hf' h=>rw[hw]at hw';cases hw'
   | opsEff hw' _ he' h=>rw[ho]at he';simp[aeval]at he'
   | opsPure hw' _ ho' hfv' hfn' hg' hr' hvs' hrs' hc' hd' h=>rw[ho]at ho';cases ho'
   | opsFresh hw' _ ho' _ _ _ _ _ _ _ _ _ _=>rw[ho]at ho';cases ho'
   | opsYield hw' _ ho' hfv' _ _ _ _ _ _ _ _=>
     rw[ho]at ho';cases ho'
     rw[hfv]at hfv';cases hfv'
     simp[fnOf]at hfn
   | opsRaw hw' _ ho' hfv' hfn' hg' hr' hvs' hc' h=>
     rw[ho]at ho';cases ho'
     rw[hfv]at hfv';cases hfv'
     rw[hfn]at hfn';cases hfn'
     rw[hvs]at hvs';cases hvs'
     have:=ihc hc';cases this
     exact ih h
 | opsFresh hw hf ho hfv hfn hg hr hvs hrs hd hc he _ ihc ih=>
   intro o' h'
   cases h' with
   | opsSkip hw' hf' h=>rw[hw]at hw';cases hw'
   | opsEff hw' _ he' h=>rw[ho]at he';simp[aeval]at he'
   | opsPure hw' _ ho' hfv' hfn' hg' hr' hvs' hrs' hc' hd' h=>rw[ho]at ho';cases ho'
   | opsRaw hw' _ ho' hfv' hfn' hg' hr' hvs' hc' h=>rw[ho]at ho';cases ho'
   | opsYield hw' _ ho' _ _ _ _ _ _ _ _ _=>rw[ho]at ho';cases ho'
   | opsFresh hw' _ ho' hfv' hfn' hg' hr' hvs' hrs' hd' hc' he' h=>
     rw[ho]at ho';cases ho'
     rw[hfv]at hfv';cases hfv'
     rw[hfn]at hfn';cases hfn'
     rw[hvs]at hvs';cases hvs'
     rw[hrs]at hrs';cases hrs'
     have:=ihc hc';cases this
     rw[he]at he';cases he'
     exact ih h
 | pcall hg hr hcode he hv hre ih=>
   intro o' h'
   cases h' with
   | pcall hg' hr' h he' hv' hre'=>
     rw[hg]at hg';cases hg'
     have:=ih h;cases this
     rw[hv]at hv';cases hv'
     rw[hre]at hre';cases hre'
     rfl
   | pext hg' hr' hx h2=>
     rw[hg]at hg';cases hg'
     rw[hx]at hcode
     cases hcode
 | rcall hg hr hb he hv ih=>
   intro o' h'
   cases h' with
   | rcall hg' hr' h he' hv'=>
     rw[hg]at hg';cases hg'
     have:=ih h;cases this
     rw[hv]at hv';cases hv'
     rfl
   | rext hg' hr' hx h=>
     rw[hg]at hg';cases hg'
     rw[hx]at hb;cases hb
 | pext hg hr hx h=>
   intro o' h'
   cases h' with
   | pcall hg' hr' hb he' hv' hre'=>
     rw[hg]at hg';cases hg'
     rw[hx]at hb;cases hb
   | pext hg' hr' hx' h2=>
     rw[hg]at hg';cases hg'
     rw[hx]at hx';cases hx'
     rw[h]at h2;cases h2
     rfl
 | rext hg hr hx h=>
   intro o' h'
   cases h' with
   | rcall hg' hr' hb he' hv'=>
     rw[hg]at hg';cases hg'
     rw[hx]at hb;cases hb
   | rext hg' hr' hx' h2=>
     rw[hg]at hg';cases hg'
     rw[hx]at hx';cases hx'
     rw[h]at h2;cases h2
     rfl
variable (Γ G)
open Classical in
noncomputable def Den (g:Nat) (args:List V):Option V:=if h: ∃r,PC Γ G g args r then some h.choose else none
open Classical in
noncomputable def DenR (g:Nat) (args:List V) (h:Nat->Option O) (n:Nat):Option (V×(Nat->Option O)×Nat):=
 if h: ∃r:V×(Nat->Option O)×Nat,RC Γ G g args h n r.1 r.2.1 r.2.2 then some h.choose else none
open Classical in
noncomputable def DenY (k:Nat) (args:List V) (h:Nat->Option O) (n:Nat):Option (V×(Nat->Option O)×Nat):=
 if h: ∃r:V×(Nat->Option O)×Nat,YC Γ G k args h n r.1 r.2.1 r.2.2 then some h.choose else none
variable {Γ G}
theorem YC_det {k:Nat} {args:List V} {h:Nat->Option O} {n:Nat} {r r':V} {h1 h2:Nat->Option O} {n1 n2:Nat} (a:YC Γ G k args h n r h1 n1) (b:YC Γ G k args h n r' h2 n2):r=r'/\h1=h2/\n1=n2:=by
 obtain⟨env,ps,ca,cb,s1,enva,psa,bda,env',ps',bd',e,s2,g1,g2,g3,g3',g3'',g4,rfl,rfl,rfl⟩:=a
 obtain⟨env0,ps0,ca0,cb0,s10,envb,psb,bdb,env1,ps1,bd1,e0,s0,q1,q2,q3,q3',q3'',q4,rfl,rfl,rfl⟩:=b
 rw[g1]at q1;cases q1
 have:=g3.det q3;cases this
 rw[g3']at q3';cases q3'
 have:=g3''.det q3'';cases this
 rw[g4]at q4;cases q4
 exact⟨rfl,rfl,rfl⟩
theorem denY_iff {k:Nat} {args:List V} {h:Nat->Option O} {n:Nat} {r:V} {h':Nat->Option O} {n':Nat}:DenY Γ G k args h n=some (r,h',n')<->YC Γ G k args h n r h' n':=by
 unfold DenY
 split
 ·rename_i h
  have hc:=h.choose_spec
  constructor
  ·intro e;simp only[Option.some.injEq]at e;rw[e]at hc;exact hc
  ·intro e
   obtain⟨h1,h2,h3⟩:=YC_det hc e
   simp only[Option.some.injEq]
   exact Prod.ext h1 (Prod.ext h2 h3)
 ·rename_i h
  constructor
  ·intro e;cases e
  ·intro e;exact absurd ⟨(r,h',n'),e⟩ h
theorem den_iff {g:Nat} {args:List V} {r:V}:Den Γ G g args=some r<->PC Γ G g args r:=by
 unfold Den
 split
 ·rename_i h
  have hc:=h.choose_spec
  constructor
  ·intro e;cases e;exact hc
  ·intro e;have:=Big.det hc e;cases this;congr 1
 ·rename_i h
  constructor
  ·intro e;cases e
  ·intro e;exact absurd ⟨r,e⟩ h
theorem denR_iff {g:Nat} {args:List V} {h:Nat->Option O} {n:Nat} {r:V} {h':Nat->Option O} {n':Nat}:DenR Γ G g args h n=some (r,h',n')<->RC Γ G g args h n r h' n':=by
 unfold DenR
 split
 ·rename_i h
  have hc:=h.choose_spec
  constructor
  ·intro e;simp only[Option.some.injEq]at e;rw[e]at hc;exact hc
  ·intro e
   have:=Big.det hc e
   simp only[Out.vals.injEq]at this
   obtain⟨h1,h2,h3⟩:=this
   simp only[Option.some.injEq]
   exact Prod.ext h1 (Prod.ext h2 h3)
 ·rename_i h
  constructor
  ·intro e;cases e
  ·intro e;exact absurd ⟨(r,h',n'),e⟩ h
theorem denR_ext {g:Nat} {fn:F} {e:Ext} {args:List V} {hp h':Nat->Option O} {n n':Nat} {r:V} (hg:Γ g=some fn) (hr:fn.raw=true) (hb:fn.body= .ext e)
 (h:extSem e args hp n=some (r,h',n')):DenR Γ G g args hp n=some (r,h',n'):=denR_iff.2 (.rext hg hr hb h)
theorem PC_fn {g:Nat} {args:List V} {r:V} (h:PC Γ G g args r): ∃fn,Γ g=some fn/\fn.raw=false:=by
 cases h with
 | pcall hg hr _ _ _ _=>exact⟨_,hg,hr⟩
 | pext hg hr _ _=>exact⟨_,hg,hr⟩
theorem RC_fn {g:Nat} {args:List V} {h:Nat->Option O} {n:Nat} {r:V} {h':Nat->Option O} {n':Nat} (h:RC Γ G g args h n r h' n'): ∃fn,Γ g=some fn/\fn.raw=true:=by
 cases h with
 | rcall hg hr _ _ _=>exact⟨_,hg,hr⟩
 | rext hg hr _ _=>exact⟨_,hg,hr⟩
@[go_sem]theorem r_callP (d:Bool) (m:M) (dst:Option Nat) (g:Nat) (l:List V) (K:M->Prop):
 callP Γ G d m dst g l K=(m.free dst {}=true/\match l.mapM (toT1 m.heap)with
  | none=>False
  | some rs=>match Den Γ G g rs with
    | none=>False
    | some r=>putP d m dst l r K):=by
 apply propext
 unfold callP
 constructor
 ·rintro⟨hf,rs,hrs,r,hc,hg,hk⟩
  refine⟨hf,?_⟩
  rw[hrs]
  simp only
  rw[den_iff.2 hc]
  exact hk
 ·rintro⟨hf,h⟩
  refine⟨hf,?_⟩
  split at h
  ·exact h.elim
  ·rename_i rs hrs
   split at h
   ·exact h.elim
   ·rename_i r hr
    exact⟨rs,hrs,r,den_iff.1 hr,PC_fn (den_iff.1 hr),h⟩
@[go_sem]theorem r_callR (m:M) (dst:Option Nat) (g:Nat) (l:List V) (K:M->Prop):
 callR Γ G m dst g l K=(m.free dst {}=true/\match DenR Γ G g l m.heap m.nxt with
  | none=>False
  | some (r,h',n')=>K ({ m with heap:=h',nxt:=n' }.apply dst { val:=r })):=by
 apply propext
 unfold callR
 constructor
 ·rintro⟨hf,r,h',n',hc,hg,hk⟩
  refine⟨hf,?_⟩
  rw[denR_iff.2 hc]
  exact hk
 ·rintro⟨hf,h⟩
  refine⟨hf,?_⟩
  split at h
  ·exact h.elim
  ·rename_i r h' n' hr
   exact⟨r,h',n',denR_iff.1 hr,RC_fn (denR_iff.1 hr),h⟩
theorem r_callY (m:M) (dst:Option Nat) (k:Nat) (l:List V) (K:M->Prop):
 callY Γ G m dst k l K=(m.free dst {}=true/\match DenY Γ G k l m.heap m.nxt with
  | none=>False
  | some (r,h',n')=>K ({ m with heap:=h',nxt:=n' }.apply dst { val:=r })):=by
 apply propext
 unfold callY
 constructor
 ·rintro⟨hf,r,h',n',hc,hk⟩
  refine⟨hf,?_⟩
  rw[denY_iff.2 hc]
  exact hk
 ·rintro⟨hf,h⟩
  refine⟨hf,?_⟩
  split at h
  ·exact h.elim
  ·rename_i r h' n' hr
   exact⟨r,h',n',denY_iff.1 hr,h⟩
def V.tree:V->Bool
 | .t _=>true
 | .agg cs=>cs.all fun c=>match c with | .t _=>true | _=>false
 | _=>false
theorem reach_tree {h:Nat->Option O} {v:V} (hv:v.tree=true):reach1 h v=[]:=by
 cases v with
 | agg cs=>
   simp only[V.tree,List.all_eq_true]at hv
   simp only[reach1,List.flatMap_eq_nil_iff]
   intro c hc
   have:=hv c hc
   cases c<;>simp at this
   rfl
 | t x=>rfl
 | _=>simp[V.tree]at hv
attribute [go_sem] V.tree List.all_cons List.all_nil Bool.and_self
theorem den_of {g:Nat} {args:List V} {fn:F} {r:V} (hg:Γ g=some fn) (hr:fn.raw=false)
 (h:wpC Γ G fn.body ⟨slots args 0,fun _=>false,fun _=>none,0,0⟩ (Fin fn.results r)):Den Γ G g args=some r:=den_iff.2 (PC_fin hg hr h)
def FinR (rs:List Res) (P:V->(Nat->Option O)->Nat->Prop) (e:Ex) (m:M):Prop:=(∀id,e≠ .exit id)/\ ∃v,resAll m.st rs=some v/\P v m.heap m.nxt
theorem denR_of {g:Nat} {args:List V} {fn:F} {hp:Nat->Option O} {n:Nat} {P:V->(Nat->Option O)->Nat->Prop} (hg:Γ g=some fn) (hr:fn.raw=true)
 (h:wpC Γ G fn.body ⟨slots args 0,fun _=>false,hp,n,n⟩ (FinR fn.results P)): ∃r h' n',DenR Γ G g args hp n=some (r,h',n')/\P r h' n':=by
 obtain⟨e,m',hB,he,v,hv,hP⟩:=W_of h
 refine⟨v,m'.heap,m'.nxt,denR_iff.2 ?_,hP⟩
 have:M.st ⟨slots args 0,fun _=>false,hp,n,n⟩=St.init args hp n:=by rw[st_init,init_eq]
 rw[this]at hB
 exact .rcall hg hr hB he hv
@[go_sem]theorem r_finRR (rs:List Res) (P:V->(Nat->Option O)->Nat->Prop) (sl:Nat->Slot) (u:Nat->Bool) (h:Nat->Option O) (n b:Nat):
 FinR rs P .ret ⟨sl,u,h,n,b⟩= ∃v,resAll (M.st ⟨sl,u,h,n,b⟩) rs=some v/\P v h n:=by simp[FinR]
@[go_sem]theorem r_finRN (rs:List Res) (P:V->(Nat->Option O)->Nat->Prop) (sl:Nat->Slot) (u:Nat->Bool) (h:Nat->Option O) (n b:Nat):
 FinR rs P .normal ⟨sl,u,h,n,b⟩= ∃v,resAll (M.st ⟨sl,u,h,n,b⟩) rs=some v/\P v h n:=by simp[FinR]
theorem loopI {b:C} {sl:Nat->Slot} {us:Nat->Bool} {nx ba:Nat} {Q:Ex->M->Prop} (W:List Nat) (n:Nat) (Inv:Nat->(Nat->Slot)->Prop) (hW:b.wrIn W=true) (hH:b.noH=true)
 (h0:Inv 0 sl)
 (h: ∀i f u k bs,i<=n->Inv i f->wpC Γ G b ⟨ovr W f sl,u,fun _=>none,k,bs⟩ (thenQ (fun m'=>SpN (i<n/\Inv (i+1) m'.sl) ⟨0⟩) Q)):WL Γ G b ⟨sl,us,fun _=>none,nx,ba⟩ Q:=by
 refine WL_inv0 W hW hH (fun k f=> ∃i,k=n-i/\i<=n/\Inv i f) n ⟨0,by omega,by omega,h0⟩ ?_
 rintro k f u kk bs ⟨i,rfl,hi,hI⟩
 refine W_mono (W_of (h i f u kk bs hi hI)) ?_
 apply thenQ_mono
 rintro m ⟨h1,h2⟩
 exact⟨n-(i+1),by omega,i+1,rfl,by omega,h2⟩
theorem loopIH {b:C} {sl:Nat->Slot} {us:Nat->Bool} {hp:Nat->Option O} {nx ba:Nat} {Q:Ex->M->Prop} (W:List Nat) (n:Nat) (Inv:Nat->(Nat->Slot)->(Nat->Option O)->Nat->Prop) (hW:b.wrIn W=true)
 (h0:Inv 0 sl hp nx)
 (h: ∀i f u h k bs,i<=n->Inv i f h k->wpC Γ G b ⟨ovr W f sl,u,h,k,bs⟩ (thenQ (fun m'=>SpN (i<n/\Inv (i+1) m'.sl m'.heap m'.nxt) ⟨0⟩) Q)):WL Γ G b ⟨sl,us,hp,nx,ba⟩ Q:=by
 refine WL_inv W hW (fun k f h x=> ∃i,k=n-i/\i<=n/\Inv i f h x) n ⟨0,by omega,by omega,h0⟩ ?_
 rintro k f u h' kk bs ⟨i,rfl,hi,hI⟩
 refine W_mono (W_of (h i f u h' kk bs hi hI)) ?_
 apply thenQ_mono
 rintro m ⟨h1,h2⟩
 exact⟨n-(i+1),by omega,i+1,rfl,by omega,h2⟩
end
end Rg
end
