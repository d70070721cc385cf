/- Part of the proof of laws of relyguardlaw04. No condition. -/
import Derived.Test.YtmgalfhaeddfbaaDoorOartAH
import Derived.Test.YtmgalfhaeddfbaaDoorOartAI
set_option linter.unusedSimpArgs false
set_option linter.unusedVariables false
section
namespace Rg
open Go
section
variable {Γ:Nat->Option F} {G:Nat->List T}
theorem Big.det {t:Task} {o:Out} (h:Big Γ G t o): ∀{o':Out},Big Γ G t o'->o=o':=by
 induction h with
 | skip=>intro o' h';cases h';rfl
 | ret=>intro o' h';cases h';rfl
 | exit=>intro o' h';cases h';rfl
 | region _ ih=>intro o' h';cases h' with | region h=>have:=ih h;cases this;rfl
 | regionD _ _ ih=>intro o' h';cases h' with | regionD h _=>have:=ih h;cases this;rfl
 | seqN _ _ ih1 ih2=>
   intro o' h'
   cases h' with
   | seqN h1 h2=>have:=ih1 h1;cases this;exact ih2 h2
   | seqX h1 he=>have:=ih1 h1;cases this;exact absurd rfl he
 | seqX _ he ih=>
   intro o' h'
   cases h' with
   | seqN h1 h2=>have:=ih h1;cases this;exact absurd rfl he
   | seqX h1 he=>exact ih h1
 | cond hc _ ih=>
   intro o' h'
   cases h' with
   | cond Bz h=>rw[hc]at Bz;cases Bz;exact ih h
 | block _ ih=>
   intro o' h'
   cases h' with
   | block h=>have:=ih h;cases this;rfl
 | loop _ ih=>
   intro o' h'
   cases h' with
   | loop h=>exact ih h
 | loopN _ _ ih1 ih2=>
   intro o' h'
   cases h' with
   | loopN h1 h2=>have:=ih1 h1;cases this;exact ih2 h2
   | loopX h1 he=>have:=ih1 h1;cases this;exact absurd rfl he
 | loopX _ he ih=>
   intro o' h'
   cases h' with
   | loopN h1 h2=>have:=ih h1;cases this;exact absurd rfl he
   | loopX h1 he=>exact ih h1
 | opsNil=>intro o' h';cases h';rfl
 | opsSkip hw hf _ ih=>
   intro o' h'
   cases h' with
   | opsSkip Aw JO h=>exact ih h
   | opsEff Aw _ _ _=>rw[hw]at Aw;cases Aw
   | opsPure Aw _ _ _ _ _ _ _ _ _ _ _=>rw[hw]at Aw;cases Aw
   | opsRaw Aw _ _ _ _ _ _ _ _ _=>rw[hw]at Aw;cases Aw
   | opsFresh Aw _ _ _ _ _ _ _ _ _ _ _ _=>rw[hw]at Aw;cases Aw
   | opsYield Aw _ _ _ _ _ _ _ _ _ _ _=>rw[hw]at Aw;cases Aw
 | rangeF As Ax hg hr hc hl he ihc=>
   intro o' h'
   cases h' with
   | rangeF AY BT B9 Dz Bz CE BZ=>
     rw[As]at AY;cases AY;rw[Ax]at BT;cases BT;have:=ihc Bz;cases this;rw[hl]at CE;cases CE;rw[he]at BZ;cases BZ
     rfl
 | opsYield hw hf ho As hk Au Ac Bi AT CL AF _ iha ihb ih=>
   intro o' h'
   cases h' with
   | opsSkip Aw JO h=>rw[hw]at Aw;cases Aw
   | opsEff Aw _ BZ h=>rw[ho]at BZ;simp[zaj]at BZ
   | opsPure Aw _ AR AY BT B9 Dz Cb DZ Bz JS h=>rw[ho]at AR;cases AR
   | opsFresh Aw _ AR _ _ _ _ _ _ _ _ _ _=>rw[ho]at AR;cases AR
   | opsRaw Aw _ AR AY BT SI B9 Dz Cb Bz h=>
     rw[ho]at AR;cases AR;rw[As]at AY;cases AY
     simp[zfC]at BT
   | opsYield Aw _ AR AY Ah Cb BS Og EM Of HX h=>
     rw[ho]at AR;cases AR;rw[As]at AY;cases AY;rw[hk]at Ah;cases Ah;rw[Au]at Cb;cases Cb;have:=iha Og;cases this;rw[AT]at EM;cases EM;have:=ihb Of;cases this;rw[AF]at HX;cases HX
     exact ih h
 | opsEff hw hf he _ ih=>
   intro o' h'
   cases h' with
   | opsSkip Aw JO h=>rw[hw]at Aw;cases Aw
   | opsEff Aw _ BZ h=>rw[he]at BZ;cases BZ;exact ih h
   | opsPure Aw _ ho _ _ _ _ _ _ _ _ _=>rw[ho]at he;simp[zaj]at he
   | opsRaw Aw _ ho _ _ _ _ _ _ _ _=>rw[ho]at he;simp[zaj]at he
   | opsFresh Aw _ ho _ _ _ _ _ _ _ _ _ _=>rw[ho]at he;simp[zaj]at he
   | opsYield Aw _ ho _ _ _ _ _ _ _ _ _=>rw[ho]at he;simp[zaj]at he
 | opsPure hw hf ho As Ax hg hr Au AD hc hd _ ihc ih=>
   intro o' h'
   cases h' with
   | opsSkip Aw JO h=>rw[hw]at Aw;cases Aw
   | opsEff Aw _ BZ h=>rw[ho]at BZ;simp[zaj]at BZ
   | opsPure Aw _ AR AY BT B9 Dz Cb DZ Bz JS h=>
     rw[ho]at AR;cases AR;rw[As]at AY;cases AY;rw[Ax]at BT;cases BT;rw[Au]at Cb;cases Cb;rw[AD]at DZ;cases DZ;have:=ihc Bz;cases this
     exact ih h
   | opsRaw Aw _ AR _ _ _ _ _ _ _ _=>rw[ho]at AR;cases AR
   | opsFresh Aw _ AR _ _ _ _ _ _ _ _ _ _=>rw[ho]at AR;cases AR
   | opsYield Aw _ AR _ _ _ _ _ _ _ _ _=>rw[ho]at AR;cases AR
 | opsRaw hw hf ho As Ax Bu hg hr Au hc _ ihc ih=>
   intro o' h'
   cases h' with
   | opsSkip Aw JO h=>rw[hw]at Aw;cases Aw
   | opsEff Aw _ BZ h=>rw[ho]at BZ;simp[zaj]at BZ
   | opsPure Aw _ AR AY BT B9 Dz Cb DZ Bz JS h=>rw[ho]at AR;cases AR
   | opsFresh Aw _ AR _ _ _ _ _ _ _ _ _ _=>rw[ho]at AR;cases AR
   | opsYield Aw _ AR AY _ _ _ _ _ _ _ _=>
     rw[ho]at AR;cases AR;rw[As]at AY;cases AY
     simp[zfC]at Ax
   | opsRaw Aw _ AR AY BT SI B9 Dz Cb Bz h=>
     rw[ho]at AR;cases AR;rw[As]at AY;cases AY;rw[Ax]at BT;cases BT;rw[Bu]at SI;cases SI;rw[Au]at Cb;cases Cb;have:=ihc Bz;cases this
     exact ih h
 | opsFresh hw hf ho As Ax hg hr Au AD hd hc he _ ihc ih=>
   intro o' h'
   cases h' with
   | opsSkip Aw JO h=>rw[hw]at Aw;cases Aw
   | opsEff Aw _ BZ h=>rw[ho]at BZ;simp[zaj]at BZ
   | opsPure Aw _ AR AY BT B9 Dz Cb DZ Bz JS h=>rw[ho]at AR;cases AR
   | opsRaw Aw _ AR AY BT SI B9 Dz Cb Bz h=>rw[ho]at AR;cases AR
   | opsYield Aw _ AR _ _ _ _ _ _ _ _ _=>rw[ho]at AR;cases AR
   | opsFresh Aw _ AR AY BT B9 Dz Cb DZ JS Bz BZ h=>
     rw[ho]at AR;cases AR;rw[As]at AY;cases AY;rw[Ax]at BT;cases BT;rw[Au]at Cb;cases Cb;rw[AD]at DZ;cases DZ;have:=ihc Bz;cases this;rw[he]at BZ;cases BZ
     exact ih h
 | pcall hg hr IC he hv Bh ih=>
   intro o' h'
   cases h' with
   | pcall B9 Dz h BZ BQ Jf=>
     rw[hg]at B9;cases B9;have:=ih h;cases this;rw[hv]at BQ;cases BQ;rw[Bh]at Jf;cases Jf
     rfl
   | pext B9 Dz hx h2=>
     rw[hg]at B9;cases B9;rw[hx]at IC
     cases IC
 | rcall hg hr hb he hv ih=>
   intro o' h'
   cases h' with
   | rcall B9 Dz h BZ BQ=>
     rw[hg]at B9;cases B9;have:=ih h;cases this;rw[hv]at BQ;cases BQ
     rfl
   | rext B9 Dz hx h=>
     rw[hg]at B9;cases B9
     rw[hx]at hb;cases hb
   | rpure B9 Dz _ _=>rw[hg]at B9;cases B9;rw[hr]at Dz;cases Dz
 | rpure hg hr AD hc ih=>
   intro o' h'
   cases h' with
   | rcall B9 Dz _ _ _=>rw[hg]at B9;cases B9;rw[hr]at Dz;cases Dz
   | rext B9 Dz _ _=>rw[hg]at B9;cases B9;rw[hr]at Dz;cases Dz
   | rpure B9 Dz DZ Bz=>
     rw[AD]at DZ;cases DZ;have:=ih Bz;cases this
     rfl
 | pext hg hr hx h=>
   intro o' h'
   cases h' with
   | pcall B9 Dz hb BZ BQ Jf=>
     rw[hg]at B9;cases B9
     rw[hx]at hb;cases hb
   | pext B9 Dz Dc h2=>
     rw[hg]at B9;cases B9;rw[hx]at Dc;cases Dc;rw[h]at h2;cases h2
     rfl
 | rext hg hr hx h=>
   intro o' h'
   cases h' with
   | rcall B9 Dz hb BZ BQ=>
     rw[hg]at B9;cases B9
     rw[hx]at hb;cases hb
   | rext B9 Dz Dc h2=>
     rw[hg]at B9;cases B9;rw[hx]at Dc;cases Dc;rw[h]at h2;cases h2
     rfl
   | rpure B9 Dz _ _=>rw[hg]at B9;cases B9;rw[hr]at Dz;cases Dz
variable (Γ G)
open Classical in
noncomputable def Den (g:Nat) (args:List V):Option V:=if h: ∃r,PC Γ G g args r then some h.choose else none
open Classical in
noncomputable def DenR (g:Nat) (args:List V) (h:Nat->Option O) (n:Nat):Option (V×(Nat->Option O)×Nat):=
 if h: ∃r:V×(Nat->Option O)×Nat,RC Γ G g args h n r.1 r.2.1 r.2.2 then some h.choose else none
open Classical in
noncomputable def DenY (k:Nat) (args:List V) (h:Nat->Option O) (n:Nat):Option (V×(Nat->Option O)×Nat):=
 if h: ∃r:V×(Nat->Option O)×Nat,YC Γ G k args h n r.1 r.2.1 r.2.2 then some h.choose else none
variable {Γ G}
theorem zy7 {k:Nat} {args:List V} {h:Nat->Option O} {n:Nat} {r r':V} {h1 h2:Nat->Option O} {n1 n2:Nat} (a:YC Γ G k args h n r h1 n1) (b:YC Γ G k args h n r' h2 n2):r=r'/\h1=h2/\n1=n2:=by
 obtain⟨env,ps,ca,cb,s1,enva,psa,bda,env',ps',bd',e,s2,g1,g2,g3,g3',g3'',g4,rfl,rfl,rfl⟩:=a;obtain⟨env0,ps0,ca0,cb0,s10,envb,psb,bdb,env1,ps1,bd1,e0,s0,q1,q2,q3,q3',q3'',q4,rfl,rfl,rfl⟩:=b;rw[g1]at q1;cases q1;have:=g3.det q3;cases this;rw[g3']at q3';cases q3';have:=g3''.det q3'';cases this;rw[g4]at q4;cases q4;exact⟨rfl,rfl,rfl⟩
theorem zlM {k:Nat} {args:List V} {h:Nat->Option O} {n:Nat} {r:V} {h':Nat->Option O} {n':Nat}:DenY Γ G k args h n=some (r,h',n')<->YC Γ G k args h n r h' n':=by
 unfold DenY;split
 ·rename_i h;have hc:=h.choose_spec;constructor
  ·intro e;simp only[zA]at e;rw[e]at hc;exact hc
  ·intro e;obtain⟨h1,h2,h3⟩:=zy7 hc e;simp only[zA];exact Prod.ext h1 (Prod.ext h2 h3)
 ·rename_i h;constructor
  ·intro e;cases e
  ·intro e;exact absurd ⟨(r,h',n'),e⟩ h
theorem zhC {g:Nat} {args:List V} {r:V}:Den Γ G g args=some r<->PC Γ G g args r:=by
 unfold Den;split
 ·rename_i h;have hc:=h.choose_spec;constructor
  ·intro e;cases e;exact hc
  ·intro e;have:=Big.det hc e;cases this;congr 1
 ·rename_i h;constructor
  ·intro e;cases e
  ·intro e;exact absurd ⟨r,e⟩ h
theorem zcI {g:Nat} {args:List V} {h:Nat->Option O} {n:Nat} {r:V} {h':Nat->Option O} {n':Nat}:DenR Γ G g args h n=some (r,h',n')<->RC Γ G g args h n r h' n':=by
 unfold DenR;split
 ·rename_i h;have hc:=h.choose_spec;constructor
  ·intro e;simp only[zA]at e;rw[e]at hc;exact hc
  ·intro e;have:=Big.det hc e;simp only[Out.vals.injEq]at this;obtain⟨h1,h2,h3⟩:=this;simp only[zA];exact Prod.ext h1 (Prod.ext h2 h3)
 ·rename_i h;constructor
  ·intro e;cases e
  ·intro e;exact absurd ⟨(r,h',n'),e⟩ h
theorem zf6 {g:Nat} {fn:F} {e:Ext} {args:List V} {hp h':Nat->Option O} {n n':Nat} {r:V} (hg:Γ g=some fn) (hr:fn.raw=true) (hb:fn.body= .ext e)
 (h:zd3 e args hp n=some (r,h',n')):DenR Γ G g args hp n=some (r,h',n'):=zcI.2 (.rext hg hr hb h)
theorem zs3 {g:Nat} {fn:F} {e:Ext} {args:List V} {r:V} (hg:Γ g=some fn) (hr:fn.raw=false) (hb:fn.body= .ext e)
 (h:zev e args=some r):Den Γ G g args=some r:=zhC.2 (.pext hg hr hb h)
theorem zB0 {g:Nat} {args:List V} {r:V} (h:PC Γ G g args r): ∃fn,Γ g=some fn/\fn.raw=false:=by
 cases h with
 | pcall hg hr _ _ _ _=>exact⟨_,hg,hr⟩
 | pext hg hr _ _=>exact⟨_,hg,hr⟩
theorem zxp {g:Nat} {args:List V} {h:Nat->Option O} {n:Nat} {r:V} {h':Nat->Option O} {n':Nat} (h:RC Γ G g args h n r h' n'): ∃fn,Γ g=some fn/\True:=by
 cases h with
 | rcall hg hr _ _ _=>exact⟨_,hg,trivial⟩
 | rext hg hr _ _=>exact⟨_,hg,trivial⟩
 | rpure hg hr _ _=>exact⟨_,hg,trivial⟩
theorem zSc {g:Nat} {args rs:List V} {hp:Nat->Option O} {n:Nat} {r:V} (hd:Den Γ G g rs=some r) (AD:args.mapM (toT1 hp)=some rs):
 DenR Γ G g args hp n=some (r,zbf hp (if r.scalar then []else freezes hp (args.flatMap (zba hp))),n):=by
 have h:=zhC.1 hd;obtain⟨fn,hg,hr⟩:=zB0 h;exact zcI.2 (.rpure hg hr AD h)
@[go_sem]theorem zwB (d:Bool) (m:M) (dst:Option Nat) (g:Nat) (l:List V) (K:M->Prop):
 zvr Γ G d m dst g l K=(m.free dst {}=true/\match l.mapM (toT1 m.heap)with
  | none=>False
  | some rs=>match Den Γ G g rs with
    | none=>False
    | some r=>zzH d m dst l r K):=by
 apply propext;unfold zvr;constructor
 ·rintro⟨hf,rs,AD,r,hc,hg,hk⟩;refine⟨hf,?_⟩;rw[AD];simp only;rw[zhC.2 hc];exact hk
 ·rintro⟨hf,h⟩;refine⟨hf,?_⟩;split at h
  ·exact h.elim
  ·rename_i rs AD;split at h
   ·exact h.elim
   ·rename_i r hr;exact⟨rs,AD,r,zhC.1 hr,zB0 (zhC.1 hr),h⟩
@[go_sem]theorem zMx (m:M) (dst:Option Nat) (g:Nat) (ks:List Nat) (l:List V) (K:M->Prop):
 zMj Γ G m dst g ks l K=(m.free dst {}=true/\match DenR Γ G g l m.heap m.nxt with
  | none=>False
  | some (r,h',n')=>(∀k∈ks,h' k=m.heap k)/\K ({ m with heap:=h',nxt:=n' }.apply dst { val:=r })):=by
 apply propext;unfold zMj;constructor
 ·rintro⟨hf,r,h',n',hc,hg,Dn,hk⟩;refine⟨hf,?_⟩;rw[zcI.2 hc];exact⟨Dn,hk⟩
 ·rintro⟨hf,h⟩;refine⟨hf,?_⟩;split at h
  ·exact h.elim
  ·rename_i r h' n' hr;have hb:=zcI.1 hr;exact⟨r,h',n',hb,(by cases hb<;>exact⟨_,‹_›,trivial⟩),h.1,h.2⟩
@[go_sem]theorem zwA (m:M) (dst:Option Nat) (g:Nat) (l:List V) (K:M->Prop):
 zvq Γ G m dst g l K=(m.free dst {}=true/\match DenR Γ G g l m.heap m.nxt with
  | none=>False
  | some (r,h',n')=>K ({ m with heap:=h',nxt:=n' }.apply dst { val:=r })):=by
 apply propext;unfold zvq;constructor
 ·rintro⟨hf,r,h',n',hc,hg,hk⟩;refine⟨hf,?_⟩;rw[zcI.2 hc];exact hk
 ·rintro⟨hf,h⟩;refine⟨hf,?_⟩;split at h
  ·exact h.elim
  ·rename_i r h' n' hr;exact⟨r,h',n',zcI.1 hr,zxp (zcI.1 hr),h⟩
theorem zwz (m:M) (dst:Option Nat) (k:Nat) (l:List V) (K:M->Prop):
 zvp Γ G m dst k l K=(m.free dst {}=true/\match DenY Γ G k l m.heap m.nxt with
  | none=>False
  | some (r,h',n')=>K ({ m with heap:=h',nxt:=n' }.apply dst { val:=r })):=by
 apply propext;unfold zvp;constructor
 ·rintro⟨hf,r,h',n',hc,hk⟩;refine⟨hf,?_⟩;rw[zlM.2 hc];exact hk
 ·rintro⟨hf,h⟩;refine⟨hf,?_⟩;split at h
  ·exact h.elim
  ·rename_i r h' n' hr;exact⟨r,h',n',zlM.1 hr,h⟩
def V.tree:V->Bool
 | .t _=>true
 | .agg cs=>cs.all fun c=>match c with | .t _=>true | _=>false
 | _=>false
theorem zkt {h:Nat->Option O} {v:V} (hv:v.tree=true):zba h v=[]:=by
 cases v with
 | agg cs=>
   simp only[V.tree,List.all_eq_true]at hv;simp only[zba,List.flatMap_eq_nil_iff];intro c hc;have:=hv c hc;cases c<;>simp at this
   rfl
 | t x=>rfl
 | _=>simp[V.tree]at hv
attribute [go_sem] V.tree List.all_cons List.all_nil Bool.and_self
theorem zyV {g:Nat} {args:List V} {fn:F} {r:V} (hg:Γ g=some fn) (hr:fn.raw=false)
 (h:wpC Γ G fn.body ⟨slots args 0,fun _=>false,fun _=>none,0,0⟩ (Fin fn.results r)):Den Γ G g args=some r:=zhC.2 (zzc hg hr h)
def zxA (rs:List Res) (P:V->(Nat->Option O)->Nat->Prop) (e:Ex) (m:M):Prop:=(∀id,e≠ .exit id)/\ ∃v,zeM m.st rs=some v/\P v m.heap m.nxt
theorem zw9 {g:Nat} {args:List V} {fn:F} {hp:Nat->Option O} {n:Nat} {P:V->(Nat->Option O)->Nat->Prop} (hg:Γ g=some fn) (hr:fn.raw=true)
 (h:wpC Γ G fn.body ⟨slots args 0,fun _=>false,hp,n,n⟩ (zxA fn.results P)): ∃r h' n',DenR Γ G g args hp n=some (r,h',n')/\P r h' n':=by
 obtain⟨e,m',hB,he,v,hv,hP⟩:=zq7 h;refine⟨v,m'.heap,m'.nxt,zcI.2 ?_,hP⟩;have:M.st ⟨slots args 0,fun _=>false,hp,n,n⟩=St.init args hp n:=by rw[zwd,zsv]
 rw[this]at hB;exact .rcall hg hr hB he hv
@[go_sem]theorem zwx (rs:List Res) (P:V->(Nat->Option O)->Nat->Prop) (sl:Nat->Slot) (u:Nat->Bool) (h:Nat->Option O) (n b:Nat):
 zxA rs P .ret ⟨sl,u,h,n,b⟩= ∃v,zeM (M.st ⟨sl,u,h,n,b⟩) rs=some v/\P v h n:=by simp[zxA]
@[go_sem]theorem zwy (rs:List Res) (P:V->(Nat->Option O)->Nat->Prop) (sl:Nat->Slot) (u:Nat->Bool) (h:Nat->Option O) (n b:Nat):
 zxA rs P .normal ⟨sl,u,h,n,b⟩= ∃v,zeM (M.st ⟨sl,u,h,n,b⟩) rs=some v/\P v h n:=by simp[zxA]
theorem zBA {b:C} {sl:Nat->Slot} {us:Nat->Bool} {nx ba:Nat} {Q:Ex->M->Prop} (W:List Nat) (n:Nat) (Inv:Nat->(Nat->Slot)->Prop) (hW:b.wrIn W=true) (hH:b.noH=true)
 (h0:Inv 0 sl)
 (h: ∀i f u k bs,i<=n->Inv i f->wpC Γ G b ⟨ovr W f sl,u,fun _=>none,k,bs⟩ (zf8 (fun m'=>SpN (i<n/\Inv (i+1) m'.sl) ⟨0⟩) Q)):WL Γ G b ⟨sl,us,fun _=>none,nx,ba⟩ Q:=by
 refine zxo W hW hH (fun k f=> ∃i,k=n-i/\i<=n/\Inv i f) n ⟨0,by omega,by omega,h0⟩ ?_;rintro k f u kk bs ⟨i,rfl,hi,hI⟩;refine zts (zq7 (h i f u kk bs hi hI)) ?_;apply zhm;rintro m ⟨h1,h2⟩;exact⟨n-(i+1),by omega,i+1,rfl,by omega,h2⟩
theorem zyB {b:C} {sl:Nat->Slot} {us:Nat->Bool} {hp:Nat->Option O} {nx ba:Nat} {Q:Ex->M->Prop} (W:List Nat) (n:Nat) (Inv:Nat->(Nat->Slot)->(Nat->Option O)->Nat->Prop) (hW:b.wrIn W=true)
 (h0:Inv 0 sl hp nx)
 (h: ∀i f u h k bs,i<=n->Inv i f h k->wpC Γ G b ⟨ovr W f sl,u,h,k,bs⟩ (zf8 (fun m'=>SpN (i<n/\Inv (i+1) m'.sl m'.heap m'.nxt) ⟨0⟩) Q)):WL Γ G b ⟨sl,us,hp,nx,ba⟩ Q:=by
 refine zv8 W hW (fun k f h x=> ∃i,k=n-i/\i<=n/\Inv i f h x) n ⟨0,by omega,by omega,h0⟩ ?_;rintro k f u h' kk bs ⟨i,rfl,hi,hI⟩;refine zts (zq7 (h i f u h' kk bs hi hI)) ?_;apply zhm;rintro m ⟨h1,h2⟩;exact⟨n-(i+1),by omega,i+1,rfl,by omega,h2⟩
end
end Rg
end
section
namespace Rg
open Go
structure W3 (c:C) (Q:Ex->M->Prop) (m:M)where
 n:Nat
structure W4 (p:Nat) (l:List ROp) (Q:M->Prop) (m:M)where
 n:Nat
structure WK {α:Type} {β:Sort _} (K:α->β)where
 n:Nat
structure WV {α:Type} (x y:α)where
 n:Nat
def pk {α:Type} (b:Bool) (x y:α) (_:WV x y):α:=match b with
 | true=>x
 | false=>y
@[go_sem]theorem zFr {α:Type} (x y:α) (w:WV x y):pk true x y w=x:=rfl
@[go_sem]theorem zFs {α:Type} (x y:α) (w:WV x y):pk false x y w=y:=rfl
theorem zql {α:Type} (i j:Nat) (x y:α) (w:WV x y):pk (j==i) x y w=if j=i then x else y:=by
 by_cases h:j=i
 ·simp[h,pk]
 ·have:(j==i)=false:=by simpa using h
  rw[this,if_neg h];rfl
noncomputable def updC {α:Type}:(Nat->α)->Nat->α->Nat->α:=(Classical.choice (⟨⟨@upd α,rfl⟩⟩:Nonempty {g:(Nat->α)->Nat->α->Nat->α// g= @upd α})).1
theorem zaL {α:Type}: @updC α= @upd α:=(Classical.choice (⟨⟨@upd α,rfl⟩⟩:Nonempty {g:(Nat->α)->Nat->α->Nat->α// g= @upd α})).2
noncomputable def begC:(Nat->Slot)->Nat->Slot:=(Classical.choice (⟨⟨beg,rfl⟩⟩:Nonempty {g:(Nat->Slot)->Nat->Slot// g=beg})).1
theorem zjL:begC=beg:=(Classical.choice (⟨⟨beg,rfl⟩⟩:Nonempty {g:(Nat->Slot)->Nat->Slot// g=beg})).2
noncomputable def ovrC:List Nat->(Nat->Slot)->(Nat->Slot)->Nat->Slot:=(Classical.choice (⟨⟨ovr,rfl⟩⟩:Nonempty {g:List Nat->(Nat->Slot)->(Nat->Slot)->Nat->Slot// g=ovr})).1
theorem zlr:ovrC=ovr:=(Classical.choice (⟨⟨ovr,rfl⟩⟩:Nonempty {g:List Nat->(Nat->Slot)->(Nat->Slot)->Nat->Slot// g=ovr})).2
def zjJ (k:Nat):List Nat:=(List.range (k.log2+1)).filter fun t=>(k>>> t) % 2==1
theorem zfO (k t:Nat):(zjJ k).contains t=((k>>> t) % 2==1):=by
 by_cases ht:t<k.log2+1
 ·cases h:((k>>> t) % 2==1)with
  | true=>simp only[List.contains_eq_mem,zjJ,List.mem_filter,List.mem_range,ht,h,and_self,decide_true]
  | false=>simp only[List.contains_eq_mem,zjJ,List.mem_filter,List.mem_range,ht,h,zG,and_false,decide_false]
 ·have h0:k>>> t=0:=by
   rw[Nat.shiftRight_eq_div_pow];exact Nat.div_eq_of_lt (Nat.lt_of_lt_of_le Nat.lt_log2_self (Nat.pow_le_pow_right (by omega) (by omega)))
  rw[h0];simp only[List.contains_eq_mem,zjJ,List.mem_filter,List.mem_range,ht,false_and,decide_false];rfl
noncomputable def slotsC:List V->Nat->Nat->Slot:=(Classical.choice (⟨⟨slots,rfl⟩⟩:Nonempty {g:List V->Nat->Nat->Slot// g=slots})).1
theorem ziG:slotsC=slots:=(Classical.choice (⟨⟨slots,rfl⟩⟩:Nonempty {g:List V->Nat->Nat->Slot// g=slots})).2
noncomputable def VI:(Nat->Option O)->List (Nat×O)->Nat->Option O:=(Classical.choice (⟨⟨zbf,rfl⟩⟩:Nonempty {g:(Nat->Option O)->List (Nat×O)->Nat->Option O// g=zbf})).1
theorem zek:VI=zbf:=(Classical.choice (⟨⟨zbf,rfl⟩⟩:Nonempty {g:(Nat->Option O)->List (Nat×O)->Nat->Option O// g=zbf})).2
noncomputable def addC:Nat->List ROp->Nat:=(Classical.choice (⟨⟨fun n l=>n+l.length,rfl⟩⟩:Nonempty {g:Nat->List ROp->Nat// g=fun n l=>n+l.length})).1
theorem zfQ:addC=fun n l=>n+l.length:=(Classical.choice (⟨⟨fun n l=>n+l.length,rfl⟩⟩:Nonempty {g:Nat->List ROp->Nat// g=fun n l=>n+l.length})).2
theorem zhI (n:Nat) (l:List ROp):n<=addC n l:=by rw[zfQ];exact Nat.le_add_right n _
@[go_sem]theorem zAR (n:Nat) (l:List ROp):addC n l=n+l.length:=by rw[zfQ]
@[go_sem ↓]theorem zCq (f:Nat->Bool) (i j:Nat):updC f i true j=pk (j==i) true (f j) ⟨0⟩:=by rw[zaL,zql];rfl
@[go_sem]theorem zaa {α:Type} (f:Nat->α) (i j:Nat) (v:α):updC f i v j=if j=i then v else f j:=by rw[zaL];rfl
@[go_sem ↓]theorem zaA (h:Nat->Option O):VI h []=h:=by rw[zek];rfl
@[go_sem ↓]theorem zaC (h:Nat->Option O) (k:Nat) (o:O) (r:List (Nat×O)):VI h ((k,o)::r)=VI (updC h k (some o)) r:=by rw[zek,zaL];rfl
def ob {α β:Type} (o:Option α) (K:α->Option β) (_:WK K):Option β:=o.bind K
@[go_sem]theorem zBv {α β:Type} (a:α) (K:α->Option β) (w:WK K):ob (some a) K w=K a:=rfl
def zdr {α:Type} (us:Bool) (o:Option α) (K:α->Prop) (_:WK K):Prop:=match o with
 | none=>False
 | some v=>us=false/\K v
@[go_sem]theorem zym {α:Type} (v:α) (K:α->Prop) (w:WK K):zdr false (some v) K w=K v:=by simp[zdr]
def ziX {α β:Type} (us:Bool) (o:Option (α×β)) (K:α->β->Prop) (_:WK K):Prop:=match o with
 | none=>False
 | some (a,b)=>us=false/\K a b
@[go_sem]theorem zcb {α β:Type} (a:α) (b:β) (K:α->β->Prop) (w:WK K):ziX false (some (a,b)) K w=K a b:=by simp[ziX]
theorem zln {α β:Type} (us:Bool) (o:Option (α×β)) (K:α->β->Prop) (w:WK K) (w':WK fun y:α×β=>K y.1 y.2):ziX us o K w=zdr us o (fun y=>K y.1 y.2) w':=by
 cases o<;>rfl
def zyq {α β γ δ:Type} (o:Option (α×β×γ×δ)) (K:α->β->γ->δ->Prop) (_:WK K):Prop:=match o with
 | none=>False
 | some (a,b,c,d)=>K a b c d
@[go_sem]theorem zyp {α β γ δ:Type} (a:α) (b:β) (c:γ) (d:δ) (K:α->β->γ->δ->Prop) (w:WK K):zyq (some (a,b,c,d)) K w=K a b c d:=rfl
def valOf:V->Option V
 | .undef=>none
 | .lb=>none
 | v=>some v
@[go_sem]theorem zBd (x:T):valOf (.t x)=some (.t x):=rfl
@[go_sem]theorem zzw (k i l:Nat):valOf (.ms k i l)=some (.ms k i l):=rfl
@[go_sem]theorem zzx (k i l:Nat):valOf (.mp k i l)=some (.mp k i l):=rfl
@[go_sem]theorem zzy (k:Nat):valOf (.mm k)=some (.mm k):=rfl
@[go_sem]theorem zzv (k:Nat):valOf (.yl k)=some (.yl k):=rfl
@[go_sem]theorem zzz (f:Nat) (a b:List V):valOf (.fn f a b)=some (.fn f a b):=rfl
@[go_sem]theorem zxK (c:List V):valOf (.agg c)=some (.agg c):=rfl
@[go_sem]theorem zxJ (c:List V):valOf (.tup c)=some (.tup c):=rfl
abbrev tyC:=(Nat->Option F)->(Nat->List T)->C->M->(Ex->M->Prop)->Prop
abbrev tyO:=(Nat->Option F)->(Nat->List T)->Bool->Nat->List ROp->M->(M->Prop)->Prop
noncomputable def wpCo:tyC:=(Classical.choice (⟨⟨@wpC,rfl⟩⟩:Nonempty {g:tyC// g= @wpC})).1
theorem zbS:wpCo= @wpC:=(Classical.choice (⟨⟨@wpC,rfl⟩⟩:Nonempty {g:tyC// g= @wpC})).2
noncomputable def WLo:tyC:=(Classical.choice (⟨⟨@WL,rfl⟩⟩:Nonempty {g:tyC// g= @WL})).1
theorem zfi:WLo= @WL:=(Classical.choice (⟨⟨@WL,rfl⟩⟩:Nonempty {g:tyC// g= @WL})).2
noncomputable def wpOo:tyO:=(Classical.choice (⟨⟨@wpO,rfl⟩⟩:Nonempty {g:tyO// g= @wpO})).1
theorem zaX:wpOo= @wpO:=(Classical.choice (⟨⟨@wpO,rfl⟩⟩:Nonempty {g:tyO// g= @wpO})).2
section
variable (Γ:Nat->Option F) (G:Nat->List T)
noncomputable def wC (c:C) (Q:Ex->M->Prop) (m:M) (_:W3 c Q m):Prop:=wpCo Γ G c m Q
noncomputable def wL (c:C) (Q:Ex->M->Prop) (m:M) (_:W3 c Q m):Prop:=WLo Γ G c m Q
noncomputable def wO (d:Bool) (p:Nat) (l:List ROp) (Q:M->Prop) (m:M) (_:W4 p l Q m):Prop:=wpOo Γ G d p l m Q
def zOF (mt:List (Nat×Nat)):V->Option V
 | .ifc k x=>(mt.lookup k).map fun g=> .fn (zLb g) (zLT g x) []
 | _=>none
def zaW (sl:Nat->Slot):Opd->Option V
 | .s t=>valOf (sl t).v
 | .c v=>some v
 | .g k=>some (.t (.ip (G k)))
 | .m mt t=>zOF mt (sl t).v
end
section
variable {Γ:Nat->Option F} {G:Nat->List T}
@[go_sem ↓]theorem zCJ (sl:Nat->Slot) (t:Nat):zaW G sl (.s t)=valOf (sl t).v:=rfl
@[go_sem ↓]theorem zCL (sl:Nat->Slot) (v:V):zaW G sl (.c v)=some v:=rfl
attribute [go_sem] zLb zLT
theorem za2 (sl:Nat->Slot) (u:Nat->Bool) (h:Nat->Option O) (n b:Nat) (x:Opd):evl G (M.st ⟨sl,u,h,n,b⟩) x=zaW G sl x:=by
 cases x with
 | s t=>simp only[evl,M.st,zaW];cases(sl t).v<;>rfl
 | c v=>rfl
 | g k=>rfl
 | m mt t=>simp only[evl,M.st,zaW];cases(sl t).v<;>rfl
@[go_sem ↓]theorem zAS (f:Nat->Slot) (i j:Nat) (v:V) (bx:Option (List V)) (ad:Option (Nat×Nat)):(updC f i ⟨v,bx,ad⟩ j).v=pk (j==i) v (f j).v ⟨0⟩:=by rw[zaL,zql];unfold upd;split<;>rfl
@[go_sem ↓]theorem zxB (f:Nat->Slot) (i j:Nat) (v:V) (bx:Option (List V)) (ad:Option (Nat×Nat)):(updC f i ⟨v,bx,ad⟩ j).box=pk (j==i) bx (f j).box ⟨0⟩:=by rw[zaL,zql];unfold upd;split<;>rfl
@[go_sem ↓]theorem zze (f:Nat->Slot) (i j:Nat) (v:V) (bx:Option (List V)) (ad:Option (Nat×Nat)):(updC f i ⟨v,bx,ad⟩ j).ad=pk (j==i) ad (f j).ad ⟨0⟩:=by rw[zaL,zql];unfold upd;split<;>rfl
@[go_sem ↓]theorem zBc (f:Nat->Slot) (t:Nat):(begC f t).v=(f t).v:=by rw[zjL];rfl
@[go_sem ↓]theorem zxH (f:Nat->Slot) (t:Nat):(begC f t).box=(f t).box:=by rw[zjL];rfl
@[go_sem ↓]theorem zzr (f:Nat->Slot) (t:Nat):(begC f t).ad=none:=by rw[zjL];rfl
noncomputable def ovrM (k:Nat) (f g:Nat->Slot):Nat->Slot:=ovrC (zjJ k) f g
theorem zr0 {α:Type} (b:Bool) (x y:α) (w:WV x y):pk b x y w=if b=true then x else y:=by cases b<;>rfl
@[go_sem ↓]theorem zA0 (k:Nat) (f g:Nat->Slot) (t:Nat):(ovrM k f g t).v=pk ((k>>> t) % 2==1) (f t).v (g t).v ⟨0⟩:=by
 rw[ovrM,zlr,zBu,zfO,zr0]
@[go_sem ↓]theorem zxE (k:Nat) (f g:Nat->Slot) (t:Nat):(ovrM k f g t).box=pk ((k>>> t) % 2==1) (f t).box (g t).box ⟨0⟩:=by
 rw[ovrM,zlr,zwH,zfO,zr0]
@[go_sem ↓]theorem zxC (v:V) (l:List V) (i t:Nat):(slotsC (v::l) i t).v=pk (t==i) v (slotsC l (i+1) t).v ⟨0⟩:=by rw[ziG,zql];simp only[slots,upd];split<;>rfl
inductive Kf where
 | seq (y:C)
 | blk (id:Nat)
variable (Γ G) in
def zqi:List Kf->(Ex->M->Prop)->Ex->M->Prop
 | [],Q=>Q
 | .seq y::ks,Q=>zf8 (fun m'=>wpC Γ G y m' (zqi ks Q)) (zqi ks Q)
 | .blk id::ks,Q=>zjI id (zqi ks Q)
abbrev tyQ:=(Nat->Option F)->(Nat->List T)->List Kf->(Ex->M->Prop)->Ex->M->Prop
noncomputable def qOf:tyQ:=(Classical.choice (⟨⟨@zqi,rfl⟩⟩:Nonempty {g:tyQ// g= @zqi})).1
theorem zcz:qOf= @zqi:=(Classical.choice (⟨⟨@zqi,rfl⟩⟩:Nonempty {g:tyQ// g= @zqi})).2
@[go_sem ↓]theorem zC4 (Q:Ex->M->Prop) (e:Ex) (m:M):qOf Γ G [] Q e m=Q e m:=by(try unfold wC);(try rw[zbS]);rw[zcz];rfl
@[go_sem ↓]theorem zCA (y:C) (ks:List Kf) (Q:Ex->M->Prop) (m:M):qOf Γ G (.seq y::ks) Q .normal m=wC Γ G y (qOf Γ G ks Q) m ⟨0⟩:=by(try unfold wC);(try rw[zbS]);rw[zcz];rfl
@[go_sem ↓]theorem zCz (y:C) (ks:List Kf) (Q:Ex->M->Prop) (m:M):qOf Γ G (.seq y::ks) Q .ret m=qOf Γ G ks Q .ret m:=by(try unfold wC);(try rw[zbS]);rw[zcz];rfl
@[go_sem ↓]theorem zCy (y:C) (ks:List Kf) (Q:Ex->M->Prop) (m:M) (id:Nat):qOf Γ G (.seq y::ks) Q (.exit id) m=qOf Γ G ks Q (.exit id) m:=by(try unfold wC);(try rw[zbS]);rw[zcz];rfl
@[go_sem ↓]theorem zCD (i:Nat) (ks:List Kf) (Q:Ex->M->Prop) (m:M):qOf Γ G (.blk i::ks) Q .normal m=qOf Γ G ks Q .normal m:=by rw[zcz];simp[zqi,zjI]
@[go_sem ↓]theorem zCC (i:Nat) (ks:List Kf) (Q:Ex->M->Prop) (m:M):qOf Γ G (.blk i::ks) Q .ret m=qOf Γ G ks Q .ret m:=by rw[zcz];simp[zqi,zjI]
structure W6 (P R:Prop)where
 n:Nat
def ifX (b:Bool) (P R:Prop) (_:W6 P R):Prop:=match b with
 | true=>P
 | false=>R
@[go_sem]theorem zC7 (P R:Prop) (w:W6 P R):ifX true P R w=P:=rfl
@[go_sem]theorem zC8 (P R:Prop) (w:W6 P R):ifX false P R w=R:=rfl
@[go_sem ↓]theorem zCB (i id:Nat) (ks:List Kf) (Q:Ex->M->Prop) (m:M):qOf Γ G (.blk i::ks) Q (.exit id) m=ifX (id==i) (qOf Γ G ks Q .normal m) (qOf Γ G ks Q (.exit id) m) ⟨0⟩:=by
 rw[zcz]
 by_cases h:id=i
 ·simp[zqi,zjI,h,ifX]
 ·have:(id==i)=false:=by simpa using h
  simp[zqi,zjI,h,this,ifX]
@[go_sem ↓]theorem zB7 (Q:Ex->M->Prop) (m:M) (w:W3 .skip Q m):wC Γ G .skip Q m w=Q .normal m:=by(try unfold wC wO);(try unfold wC);(try unfold wL);(try rw[zbS]);(try rw[zaX]);(try rw[zfi]);(try rw[zcz]);rfl
@[go_sem ↓]theorem zCS (Q:Ex->M->Prop) (m:M) (w:W3 .ret Q m):wC Γ G .ret Q m w=Q .ret m:=by(try unfold wC wO);(try unfold wC);(try unfold wL);(try rw[zbS]);(try rw[zaX]);(try rw[zfi]);(try rw[zcz]);rfl
@[go_sem ↓]theorem zCg (id:Nat) (Q:Ex->M->Prop) (m:M) (w:W3 (.exit id) Q m):wC Γ G (.exit id) Q m w=Q (.exit id) m:=by(try unfold wC wO);(try unfold wC);(try unfold wL);(try rw[zbS]);(try rw[zaX]);(try rw[zfi]);(try rw[zcz]);rfl
@[go_sem ↓]theorem zzh (d:Bool) (l:List ROp) (Q:Ex->M->Prop) (sl:Nat->Slot) (u:Nat->Bool) (h:Nat->Option O) (n b:Nat) (w:W3 (.region d l) Q ⟨sl,u,h,n,b⟩):
 wC Γ G (.region d l) Q ⟨sl,u,h,n,b⟩ w=wO Γ G d 0 l (Q .normal) ⟨begC sl,fun _=>false,h,addC n l,n⟩ ⟨0⟩:=by(try unfold wC wO);(try unfold wC);(try unfold wL);(try rw[zbS]);(try rw[zaX]);(try rw[zfi]);(try rw[zcz]);rw[zjL,zfQ];rfl
@[go_sem ↓]theorem zxD (ck:List (Nat×Nat)) (l:List ROp) (Q:Ex->M->Prop) (sl:Nat->Slot) (u:Nat->Bool) (h:Nat->Option O) (n b:Nat) (w:W3 (.regionD ck l) Q ⟨sl,u,h,n,b⟩):
 wC Γ G (.regionD ck l) Q ⟨sl,u,h,n,b⟩ w=wO Γ G true 0 l (fun m'=>zgO G m'.st l ck=true/\Q .normal m') ⟨begC sl,fun _=>false,h,addC n l,n⟩ ⟨0⟩:=by(try unfold wC wO);(try unfold wC);(try unfold wL);(try rw[zbS]);(try rw[zaX]);(try rw[zfi]);(try rw[zcz]);rw[zjL,zfQ];rfl
@[go_sem ↓]theorem zCR (x y:C) (ks:List Kf) (Q:Ex->M->Prop) (m:M) (w:W3 (.seq x y) (qOf Γ G ks Q) m):wC Γ G (.seq x y) (qOf Γ G ks Q) m w=wC Γ G x (qOf Γ G (.seq y::ks) Q) m ⟨0⟩:=by(try unfold wC wO);(try unfold wC);(try unfold wL);(try rw[zbS]);(try rw[zaX]);(try rw[zfi]);(try rw[zcz]);rfl
@[go_sem ↓]theorem zCj (t:Nat) (x y:C) (Q:Ex->M->Prop) (sl:Nat->Slot) (u:Nat->Bool) (h:Nat->Option O) (n b:Nat) (w:W3 (.cond (.s t) x y) Q ⟨sl,u,h,n,b⟩):
 wC Γ G (.cond (.s t) x y) Q ⟨sl,u,h,n,b⟩ w=zqN (sl t).v (wC Γ G x Q ⟨sl,u,h,n,b⟩ ⟨0⟩) (wC Γ G y Q ⟨sl,u,h,n,b⟩ ⟨0⟩) ⟨0⟩:=by(try unfold wC wO);(try unfold wC);(try unfold wL);(try rw[zbS]);(try rw[zaX]);(try rw[zfi]);(try rw[zcz]);exact zyl sl u h n b t x y Q
@[go_sem ↓]theorem zBb (id:Nat) (x:C) (ks:List Kf) (Q:Ex->M->Prop) (m:M) (w:W3 (.block id x) (qOf Γ G ks Q) m):wC Γ G (.block id x) (qOf Γ G ks Q) m w=wC Γ G x (qOf Γ G (.blk id::ks) Q) m ⟨0⟩:=by(try unfold wC wO);(try unfold wC);(try unfold wL);(try rw[zbS]);(try rw[zaX]);(try rw[zfi]);(try rw[zcz]);rfl
@[go_sem ↓]theorem zCa (x:C) (Q:Ex->M->Prop) (m:M) (w:W3 (.loop x) Q m):wC Γ G (.loop x) Q m w=wL Γ G x Q m ⟨0⟩:=by(try unfold wC wO);(try unfold wC);(try unfold wL);(try rw[zbS]);(try rw[zaX]);(try rw[zfi]);(try rw[zcz]);rfl
@[go_sem ↓]theorem zAV (K:M->Prop) (Q:Ex->M->Prop) (m:M):zf8 K Q .normal m=K m:=rfl
@[go_sem ↓]theorem zAU (K:M->Prop) (Q:Ex->M->Prop) (m:M):zf8 K Q .ret m=Q .ret m:=rfl
@[go_sem ↓]theorem zAT (K:M->Prop) (Q:Ex->M->Prop) (m:M) (id:Nat):zf8 K Q (.exit id) m=Q (.exit id) m:=rfl
theorem zuV {v:V} {g:Bool} {A B B':Prop} {w:Wit A B} {w':Wit A B'} (h:B=B'):zgj v g A B w=zgj v g A B' w':=by
 subst h;rfl
@[go_sem ↓]theorem zCT (d:Bool) (p:Nat) (Q:M->Prop) (m:M) (w:W4 p [] Q m):wO Γ G d p [] Q m w=Q m:=by unfold wO;rw[zaX];rfl
@[go_sem ↓]theorem zA3 (d:Bool) (p g:Nat) (want:Bool) (t:Nat) (op:AOp) (l:List ROp) (Q:M->Prop) (sl:Nat->Slot) (u:Nat->Bool) (h:Nat->Option O) (n b:Nat)
 (w:W4 p (⟨some (g,want),some t,op⟩::l) Q ⟨sl,u,h,n,b⟩):
 wO Γ G d p (⟨some (g,want),some t,op⟩::l) Q ⟨sl,u,h,n,b⟩ w=zgj (sl g).v want (wO Γ G d p (⟨none,some t,op⟩::l) Q ⟨sl,u,h,n,b⟩ ⟨0⟩)
  (zdr (u t) (some V.undef) (fun v=>wO Γ G d (p+1) l Q ⟨updC sl t ⟨v,none,none⟩,u,h,n,b⟩ ⟨0⟩) ⟨0⟩) ⟨0⟩:=by
 (try rw[zaL (α:=Slot)])
 (try rw[zaL (α:=Bool)])
 (try rw[zek])
 unfold wO;rw[zaX];rw[znU,zbs];refine zuV ?_;simp[M.free,M.apply,zcy,zdr,zbf]
def AOp.isCall:AOp->Bool
 | .call _ _ _=>true
 | .fcall _ _=>true
 | _=>false
theorem zec {d:Bool} {p:Nat} {m:M} {dst:Option Nat} {op:AOp} {K:M->Prop} (hc:op.isCall=false):
 ziE Γ G d p m dst op K=match zaj G p m.st op with | none=>False | some e=>m.free dst e=true/\K (m.apply dst e):=by
 cases op<;>first | rfl | simp[AOp.isCall]at hc
theorem zbW {d:Bool} {p t:Nat} {op:AOp} {l:List ROp} {Q:M->Prop} {sl:Nat->Slot} {u:Nat->Bool} {h:Nat->Option O} {n b:Nat} {w:W4 p (⟨none,some t,op⟩::l) Q ⟨sl,u,h,n,b⟩} {ov:Option V}
 (hc:op.isCall=false) (ha:zaj G p (M.st ⟨sl,u,h,n,b⟩) op=ov.map fun v=>({ val:=v }:Eff)):
 wO Γ G d p (⟨none,some t,op⟩::l) Q ⟨sl,u,h,n,b⟩ w=zdr (u t) ov (fun v=>wO Γ G d (p+1) l Q ⟨updC sl t ⟨v,none,none⟩,u,h,n,b⟩ ⟨0⟩) ⟨0⟩:=by
 (try rw[zaL (α:=Slot)])
 (try rw[zaL (α:=Bool)])
 (try rw[zek])
 unfold wO;rw[zaX];rw[zbs,zec hc,ha]
 cases ov with
 | none=>rfl
 | some v=>simp[M.free,M.apply,zcy,zdr,zbf]
theorem zma {d:Bool} {p t:Nat} {op:AOp} {l:List ROp} {Q:M->Prop} {sl:Nat->Slot} {u:Nat->Bool} {h:Nat->Option O} {n b:Nat} {w:W4 p (⟨none,some t,op⟩::l) Q ⟨sl,u,h,n,b⟩} {ov:Option (V×List (Nat×O))}
 (hc:op.isCall=false) (ha:zaj G p (M.st ⟨sl,u,h,n,b⟩) op=ov.map fun v=>({ val:=v.1,hp:=v.2 }:Eff)):
 wO Γ G d p (⟨none,some t,op⟩::l) Q ⟨sl,u,h,n,b⟩ w=ziX (u t) ov (fun v hp=>wO Γ G d (p+1) l Q ⟨updC sl t ⟨v,none,none⟩,u,VI h hp,n,b⟩ ⟨0⟩) ⟨0⟩:=by
 rw[zln (w':=⟨0⟩)]
 (try rw[zaL (α:=Slot)])
 (try rw[zaL (α:=Bool)])
 (try rw[zek])
 unfold wO;rw[zaX];rw[zbs,zec hc,ha]
 cases ov with
 | none=>rfl
 | some v=>simp[M.free,M.apply,zcy,zdr]
theorem zrd {d:Bool} {p:Nat} {op:AOp} {l:List ROp} {Q:M->Prop} {sl:Nat->Slot} {u:Nat->Bool} {h:Nat->Option O} {n b:Nat} {w:W4 p (⟨none,none,op⟩::l) Q ⟨sl,u,h,n,b⟩} {ov:Option (V×List (Nat×O))}
 (hc:op.isCall=false) (ha:zaj G p (M.st ⟨sl,u,h,n,b⟩) op=ov.map fun v=>({ val:=v.1,hp:=v.2 }:Eff)):
 wO Γ G d p (⟨none,none,op⟩::l) Q ⟨sl,u,h,n,b⟩ w=ziX false ov (fun _ hp=>wO Γ G d (p+1) l Q ⟨sl,u,VI h hp,n,b⟩ ⟨0⟩) ⟨0⟩:=by
 rw[zln (w':=⟨0⟩)]
 (try rw[zaL (α:=Slot)])
 (try rw[zaL (α:=Bool)])
 (try rw[zek])
 unfold wO;rw[zaX];rw[zbs,zec hc,ha]
 cases ov with
 | none=>rfl
 | some v=>simp[M.free,M.apply,zcy,zdr]
def zBU (op:BinOp):V->V->Option V
 | .t a,.t b=>(zvs op a b).map V.t
 | _,_=>none
def unS (op:UnOp):V->Option V
 | .t a=>(unT op a).map V.t
 | _=>none
def zlT:V->Option Bool
 | .t (.bool b)=>some b
 | _=>none
def zji:V->Option Int
 | .t (.int _ n)=>some n
 | _=>none
def zuA (h:Nat->Option O) (ag:Bool) (n:Nat):V->Option V
 | .mp k i off=>match h k with
   | some (.rows _ rs _)=>(rs[i]?).bind fun row=>(rd row off n).bind (zb9 ag)
   | _=>none
 | .t (.ip cs)=>(rd cs 0 n).bind fun r=>zb9 ag (r.map V.t)
 | _=>none
def zBw (h:Nat->Option O):V->Option V
 | .mp k i off=>match h k with
   | some (.rows _ _ _)=>some (.mp k i off)
   | _=>none
 | .t (.ip cs)=>some (.t (.ip cs))
 | .fn f a b=>some (.fn f a b)
 | .t (.fn f a b)=>some (.t (.fn f a b))
 | .t (.fa f c)=>some (.t (.fa f c))
 | _=>none
def zsM (h:Nat->Option O) (off:Nat):V->Option V
 | .mp k i o=>match h k with
   | some (.rows _ _ _)=>some (.mp k i (o+off))
   | _=>none
 | .t (.ip cs)=>some (.t (.ip (cs.drop off)))
 | _=>none
def zlx (h:Nat->Option O) (sz:Nat) (n:Int):V->Option V
 | .t (.sl es)=>if 0<=n then(es[n.toNat]?).bind fun row=>if row.length=sz then some (.t (.ip row))else none else none
 | .t (.slc es)=>if 0<=n then(es[n.toNat]?).bind fun row=>if row.length=sz then some (.t (.ip row))else none else none
 | .ms k j len=>match h k with
   | some (.rows sz' _ _)=>if 0<=n/\n<len/\sz'=sz then some (.mp k (j+n.toNat) 0)else none
   | _=>none
 | _=>none
def zwV (n:Int):V->Option V
 | .t (.str b)=>if 0<=n then(b[n.toNat]?).map fun c=> .t (.int .u8 c.toNat)else none
 | _=>none
def zw3 (i:Nat):V->Option V
 | .tup cs=>cs[i]?
 | _=>none
def lenS (h:Nat->Option O):V->Option Nat
 | .t .nils=>some 0
 | .t (.sl es)=>some es.length
 | .t (.slc es)=>some es.length
 | .ms k _ len=>match h k with
   | some (.rows _ _ _)=>some len
   | _=>none
 | _=>none
def zxT:V->Option V
 | .t (.str b)=>some (.t (.int .i64 b.size))
 | _=>none
def rowsS (h:Nat->Option O):V->Option (List (List V))
 | .t .nils=>some []
 | .t (.sl es)=>some (es.map (·.map V.t))
 | .t (.slc es)=>some (es.map (·.map V.t))
 | .ms k i len=>match h k with
   | some (.rows _ rs _)=>rd rs i len
   | _=>none
 | _=>none
attribute [go_sem] zBU unS zlT zji zuA zBw zsM zlx zwV zw3 zxT
@[go_sem]theorem zBC (h:Nat->Option O) (es:List (List T)):lenS h (.t (.sl es))=some es.length:=rfl
@[go_sem]theorem zBD (h:Nat->Option O) (k i len:Nat):lenS h (.ms k i len)=match h k with
 | some (.rows _ _ _)=>some len
 | _=>none:=rfl
@[go_sem]theorem zxs (h:Nat->Option O):rowsS h (.t .nils)=some []:=rfl
@[go_sem]theorem zzC (h:Nat->Option O) (es:List (List T)):rowsS h (.t (.sl es))=some (es.map (·.map V.t)):=rfl
@[go_sem]theorem zzD (h:Nat->Option O) (k i len:Nat):rowsS h (.ms k i len)=match h k with
 | some (.rows _ rs _)=>rd rs i len
 | _=>none:=rfl
variable (G) in
def zdE (sl:Nat->Slot):List Opd->Option (List V)
 | []=>some []
 | x::xs=>ob (zaW G sl x) (fun v=>ob (zdE sl xs) (fun vs=>some (v::vs)) ⟨0⟩) ⟨0⟩
@[go_sem ↓]theorem zyS (sl:Nat->Slot):zdE G sl []=some []:=rfl
@[go_sem ↓]theorem zqJ (sl:Nat->Slot) (x:Opd) (xs:List Opd):zdE G sl (x::xs)=ob (zaW G sl x) (fun v=>ob (zdE G sl xs) (fun vs=>some (v::vs)) ⟨0⟩) ⟨0⟩:=rfl
theorem zgD (sl:Nat->Slot) (u:Nat->Bool) (h:Nat->Option O) (n b:Nat): ∀xs:List Opd,zgE G (M.st ⟨sl,u,h,n,b⟩) xs=zdE G sl xs
 | []=>rfl
 | x::xs=>by
   rw[zgE,zqJ,za2,zgD sl u h n b xs];rfl
theorem zds (sl:Nat->Slot) (u:Nat->Bool) (h:Nat->Option O) (n b:Nat) (x:Opd):zex G (M.st ⟨sl,u,h,n,b⟩) x=(zaW G sl x).bind zji:=by
 rw[zex,za2]
 cases zaW G sl x with
 | none=>rfl
 | some v=>cases v with
   | t x=>cases x<;>rfl
   | _=>rfl
theorem zm9 (sl:Nat->Slot) (u:Nat->Bool) (h:Nat->Option O) (n b:Nat) (x:Opd):zd5 G (M.st ⟨sl,u,h,n,b⟩) x=(zaW G sl x).bind zlT:=by
 rw[zd5,za2]
 cases zaW G sl x with
 | none=>rfl
 | some v=>cases v with
   | t x=>cases x<;>rfl
   | _=>rfl
variable (d:Bool) (p:Nat) (l:List ROp) (Q:M->Prop) (sl:Nat->Slot) (u:Nat->Bool) (h:Nat->Option O) (n b:Nat)
@[go_sem ↓]theorem zFm (t:Nat) (x:Opd) (w:W4 _ _ _ _):
 wO Γ G d p (⟨none,some t,.mv x⟩::l) Q ⟨sl,u,h,n,b⟩ w=zdr (u t) (zaW G sl x) (fun v=>wO Γ G d (p+1) l Q ⟨updC sl t ⟨v,none,none⟩,u,h,n,b⟩ ⟨0⟩) ⟨0⟩:=by
 refine zbW rfl ?_;simp only[zaj,za2];cases zaW G sl x<;>rfl
@[go_sem ↓]theorem zzj (t:Nat) (x:Opd) (w:W4 _ _ _ _):
 wO Γ G d p (⟨none,some t,.nilchk x⟩::l) Q ⟨sl,u,h,n,b⟩ w=zdr (u t) (ob (zaW G sl x) (zBw h) ⟨0⟩) (fun v=>wO Γ G d (p+1) l Q ⟨updC sl t ⟨v,none,none⟩,u,h,n,b⟩ ⟨0⟩) ⟨0⟩:=by
 refine zbW rfl ?_;simp only[zaj,za2,ob]
 cases zaW G sl x with
 | none=>rfl
 | some v=>cases v with
   | mp k i off=>simp only[zC,zD,zBw,M.st];cases h k with
     | none=>rfl
     | some o=>cases o<;>rfl
   | t x=>cases x<;>rfl
   | _=>rfl
@[go_sem ↓]theorem zCZ (t:Nat) (op:BinOp) (x y:Opd) (w:W4 _ _ _ _):
 wO Γ G d p (⟨none,some t,.bin op x y⟩::l) Q ⟨sl,u,h,n,b⟩ w=zdr (u t) (ob (zaW G sl x) (fun a=>ob (zaW G sl y) (zBU op a) ⟨0⟩) ⟨0⟩) (fun v=>wO Γ G d (p+1) l Q ⟨updC sl t ⟨v,none,none⟩,u,h,n,b⟩ ⟨0⟩) ⟨0⟩:=by
 refine zbW rfl ?_;simp only[zaj,za2,ob]
 cases zaW G sl x with
 | none=>rfl
 | some v=>cases zaW G sl y with
   | none=>rfl
   | some v'=>cases v<;>cases v'<;>simp only[zC,zD,zBU,Option.map_none]
              rename_i a c;cases zvs op a c<;>rfl
@[go_sem ↓]theorem zFk (t:Nat) (op:UnOp) (x:Opd) (w:W4 _ _ _ _):
 wO Γ G d p (⟨none,some t,.un op x⟩::l) Q ⟨sl,u,h,n,b⟩ w=zdr (u t) (ob (zaW G sl x) (unS op) ⟨0⟩) (fun v=>wO Γ G d (p+1) l Q ⟨updC sl t ⟨v,none,none⟩,u,h,n,b⟩ ⟨0⟩) ⟨0⟩:=by
 refine zbW rfl ?_;simp only[zaj,za2,ob]
 cases zaW G sl x with
 | none=>rfl
 | some v=>cases v<;>simp only[zC,zD,unS,Option.map_none]
           rename_i a;cases unT op a<;>rfl
@[go_sem ↓]theorem zCi (t:Nat) (k:IntKind) (x:Opd) (w:W4 _ _ _ _):
 wO Γ G d p (⟨none,some t,.conv k x⟩::l) Q ⟨sl,u,h,n,b⟩ w=zdr (u t) (ob (zaW G sl x) (fun v=>ob (zji v) (fun n=>some (.t (.int k (k.wrap n)))) ⟨0⟩) ⟨0⟩) (fun v=>wO Γ G d (p+1) l Q ⟨updC sl t ⟨v,none,none⟩,u,h,n,b⟩ ⟨0⟩) ⟨0⟩:=by
 refine zbW rfl ?_;simp only[zaj,zds,ob]
 cases zaW G sl x with
 | none=>rfl
 | some v=>simp only[zC,zD];cases zji v<;>rfl
@[go_sem ↓]theorem zCb (t:Nat) (ag:Bool) (k:Nat) (x:Opd) (w:W4 _ _ _ _):
 wO Γ G d p (⟨none,some t,.load ag k x⟩::l) Q ⟨sl,u,h,n,b⟩ w=zdr (u t) (ob (zaW G sl x) (zuA h ag k) ⟨0⟩) (fun v=>wO Γ G d (p+1) l Q ⟨updC sl t ⟨v,none,none⟩,u,h,n,b⟩ ⟨0⟩) ⟨0⟩:=by
 refine zbW rfl ?_;simp only[zaj,za2,ob]
 cases zaW G sl x with
 | none=>rfl
 | some v=>cases v with
   | mp j i off=>simp only[zC,zD,zuA,M.st];cases h j with
     | none=>rfl
     | some o=>cases o with
       | rows s rs z=>
         simp only
         cases rs[i]? with
         | none=>rfl
         | some row=>simp only[zD];cases rd row off k with
           | none=>rfl
           | some r=>simp only[zD];cases zb9 ag r<;>rfl
       | _=>rfl
   | t x=>cases x with
     | ip cs=>simp only[zC,zD,zuA];cases rd cs 0 k with
       | none=>rfl
       | some r=>simp only[zD];cases zb9 ag (r.map V.t)<;>rfl
     | _=>rfl
   | _=>rfl
@[go_sem ↓]theorem zA8 (t:Nat) (off:Nat) (x:Opd) (w:W4 _ _ _ _):
 wO Γ G d p (⟨none,some t,.faddr off x⟩::l) Q ⟨sl,u,h,n,b⟩ w=zdr (u t) (ob (zaW G sl x) (zsM h off) ⟨0⟩) (fun v=>wO Γ G d (p+1) l Q ⟨updC sl t ⟨v,none,none⟩,u,h,n,b⟩ ⟨0⟩) ⟨0⟩:=by
 refine zbW rfl ?_;simp only[zaj,za2,ob]
 cases zaW G sl x with
 | none=>rfl
 | some v=>cases v with
   | mp k i o=>simp only[zC,zD,zsM,M.st];cases h k with
     | none=>rfl
     | some o=>cases o<;>rfl
   | t x=>cases x<;>rfl
   | _=>rfl
@[go_sem ↓]theorem zzm (t:Nat) (sz:Nat) (x i:Opd) (w:W4 _ _ _ _):
 wO Γ G d p (⟨none,some t,.iaddrS sz x i⟩::l) Q ⟨sl,u,h,n,b⟩ w=zdr (u t) (ob (zaW G sl i) (fun v=>ob (zji v) (fun k=>ob (zaW G sl x) (zlx h sz k) ⟨0⟩) ⟨0⟩) ⟨0⟩) (fun v=>wO Γ G d (p+1) l Q ⟨updC sl t ⟨v,none,none⟩,u,h,n,b⟩ ⟨0⟩) ⟨0⟩:=by
 refine zbW rfl ?_;simp only[zaj,za2,zds,ob]
 cases zaW G sl i with
 | none=>rfl
 | some v=>simp only[zC,zD];cases zji v with
   | none=>rfl
   | some k=>cases zaW G sl x with
     | none=>rfl
     | some v=>cases v with
       | ms q j len=>simp only[zD,zlx,M.st];cases h q with
         | none=>rfl
         | some o=>cases o with
           | rows s rs z=>simp only;split<;>rfl
           | _=>rfl
       | t x=>cases x with
         | sl es=>
           simp only[zD,zlx];split
           ·cases es[k.toNat]? with
            | none=>rfl
            | some row=>simp only[zD];split<;>rfl
           ·rfl
         | slc es=>
           simp only[zD,zlx];split
           ·cases es[k.toNat]? with
            | none=>rfl
            | some row=>simp only[zD];split<;>rfl
           ·rfl
         | _=>rfl
       | _=>rfl
@[go_sem ↓]theorem zCf (t:Nat) (x:Opd) (i:Nat) (w:W4 _ _ _ _):
 wO Γ G d p (⟨none,some t,.extr x i⟩::l) Q ⟨sl,u,h,n,b⟩ w=zdr (u t) (ob (zaW G sl x) (zw3 i) ⟨0⟩) (fun v=>wO Γ G d (p+1) l Q ⟨updC sl t ⟨v,none,none⟩,u,h,n,b⟩ ⟨0⟩) ⟨0⟩:=by
 refine zbW rfl ?_;simp only[zaj,za2,ob]
 cases zaW G sl x with
 | none=>rfl
 | some v=>cases v with
   | tup cs=>simp only[zC,zD,zw3];cases cs[i]? <;>rfl
   | _=>rfl
theorem zlw (sl:Nat->Slot) (u:Nat->Bool) (h:Nat->Option O) (n b:Nat) (v:V):lenOf (M.st ⟨sl,u,h,n,b⟩) v=lenS h v:=by
 cases v with
 | t x=>cases x<;>rfl
 | ms k i len=>simp only[lenOf,lenS,M.st];cases h k with
   | none=>rfl
   | some o=>cases o<;>rfl
 | _=>rfl
theorem ziP (sl:Nat->Slot) (u:Nat->Bool) (h:Nat->Option O) (n b:Nat) (v:V):zdw (M.st ⟨sl,u,h,n,b⟩) v=rowsS h v:=by
 cases v with
 | t x=>cases x<;>rfl
 | ms k i len=>simp only[zdw,rowsS,M.st];cases h k with
   | none=>rfl
   | some o=>cases o<;>rfl
 | _=>rfl
@[go_sem ↓]theorem zCU (t:Nat) (x:Opd) (w:W4 _ _ _ _):
 wO Γ G d p (⟨none,some t,.len x⟩::l) Q ⟨sl,u,h,n,b⟩ w=zdr (u t) (ob (zaW G sl x) (fun v=>ob (lenS h v) (fun k=>some (.t (.int .i64 k))) ⟨0⟩) ⟨0⟩) (fun v=>wO Γ G d (p+1) l Q ⟨updC sl t ⟨v,none,none⟩,u,h,n,b⟩ ⟨0⟩) ⟨0⟩:=by
 refine zbW rfl ?_;simp only[zaj,za2,ob,zlw]
 cases zaW G sl x with
 | none=>rfl
 | some v=>simp only[zC,zD];cases lenS h v<;>rfl
@[go_sem ↓]theorem zB6 (t:Nat) (x:Opd) (w:W4 _ _ _ _):
 wO Γ G d p (⟨none,some t,.slen x⟩::l) Q ⟨sl,u,h,n,b⟩ w=zdr (u t) (ob (zaW G sl x) zxT ⟨0⟩) (fun v=>wO Γ G d (p+1) l Q ⟨updC sl t ⟨v,none,none⟩,u,h,n,b⟩ ⟨0⟩) ⟨0⟩:=by
 refine zbW rfl ?_;simp only[zaj,za2,ob]
 cases zaW G sl x with
 | none=>rfl
 | some v=>cases v with
   | t x=>cases x<;>rfl
   | _=>rfl
def zxc (o:Option V) (A B:Prop) (w:Wit A B):Prop:=match o with
 | some v=>zqN v A B w
 | none=>False
@[go_sem]theorem zBS (b:Bool) (A B:Prop) (w:Wit A B):zxc (some (.t (.bool b))) A B w=zfJ b A B w:=rfl
@[go_sem ↓]theorem zB8 (t:Nat) (c x y:Opd) (w:W4 _ _ _ _):
 wO Γ G d p (⟨none,some t,.pick c x y⟩::l) Q ⟨sl,u,h,n,b⟩ w=zxc (zaW G sl c)
  (zdr (u t) (zaW G sl x) (fun v=>wO Γ G d (p+1) l Q ⟨updC sl t ⟨v,none,none⟩,u,h,n,b⟩ ⟨0⟩) ⟨0⟩)
  (zdr (u t) (zaW G sl y) (fun v=>wO Γ G d (p+1) l Q ⟨updC sl t ⟨v,none,none⟩,u,h,n,b⟩ ⟨0⟩) ⟨0⟩) ⟨0⟩:=by
 rw[zbW (ov:=((zaW G sl c).bind zlT).bind fun t=>zaW G sl (if t then x else y)) rfl (by
  simp only[zaj,za2,zm9]
  cases(zaW G sl c).bind zlT with
  | none=>rfl
  | some v=>simp only[zC,zD];cases zaW G sl (if v=true then x else y)<;>rfl)]
 cases zaW G sl c with
 | none=>rfl
 | some v=>cases v with
   | t z=>cases z with
     | bool z=>cases z<;>simp[zxc,zqN,zfJ,zlT]
     | _=>rfl
   | _=>rfl
@[go_sem ↓]theorem zzt (t:Nat) (cs:List V) (w:W4 _ _ _ _):
 wO Γ G d p (⟨none,some t,.allocL cs⟩::l) Q ⟨sl,u,h,n,b⟩ w=zdr (u t) (some cs) (fun cs=>wO Γ G d (p+1) l Q ⟨updC sl t ⟨.lb,some cs,none⟩,u,h,n,b⟩ ⟨0⟩) ⟨0⟩:=by
 (try rw[zaL (α:=Slot)])
 (try rw[zaL (α:=Bool)])
 (try rw[zek])
 unfold wO;rw[zaX];rw[zbs,zec rfl];simp[zaj,M.free,M.apply,zcy,zdr,zbf]
@[go_sem ↓]theorem zCn (t k:Nat) (x:Opd) (w:W4 _ _ _ _):
 wO Γ G d p (⟨none,some t,.boxL k x⟩::l) Q ⟨sl,u,h,n,b⟩ w=zdr (u t) (ob (zaW G sl x) (fun v=>ob v.cells (fun cs=>if cs.length=k then some cs else none) ⟨0⟩) ⟨0⟩)
  (fun cs=>wO Γ G d (p+1) l Q ⟨updC sl t ⟨.lb,some cs,none⟩,u,h,n,b⟩ ⟨0⟩) ⟨0⟩:=by
 (try rw[zaL (α:=Slot)])
 (try rw[zaL (α:=Bool)])
 (try rw[zek])
 unfold wO;rw[zaX];rw[zbs,zec rfl];simp only[zaj,za2,ob]
 cases zaW G sl x with
 | none=>rfl
 | some v=>
   simp only[zC,zD]
   cases v.cells with
   | none=>rfl
   | some cs=>
     simp only[zD]
     by_cases hk:cs.length=k
     ·simp[M.free,M.apply,zcy,zdr,zbf,hk]
     ·simp[zdr,hk]
def zvI {β:Type} (ad:Option (Nat×Nat)) (v:V) (t:Nat) (K:Nat->Nat->Option β) (_:WK K):Option β:=match ad with
 | some r=>K r.1 r.2
 | none=>match v with
   | .lb=>K t 0
   | _=>none
@[go_sem]theorem zyh {β:Type} (a o:Nat) (v:V) (t:Nat) (K:Nat->Nat->Option β) (w:WK K):zvI (some (a,o)) v t K w=K a o:=rfl
@[go_sem]theorem zBq {β:Type} (t:Nat) (K:Nat->Nat->Option β) (w:WK K):zvI none .lb t K w=K t 0:=rfl
theorem zlj (sl:Nat->Slot) (u:Nat->Bool) (h:Nat->Option O) (n b t:Nat) {β:Type} (K:Nat->Nat->Option β) (w:WK K):
 ((zd8 (M.st ⟨sl,u,h,n,b⟩) (.s t)).bind fun r=>K r.1 r.2)=zvI (sl t).ad (sl t).v t K w:=by
 simp only[zd8,M.st,zvI]
 cases(sl t).ad with
 | some r=>rfl
 | none=>cases(sl t).v<;>rfl
@[go_sem ↓]theorem zA2 (t:Nat) (ag:Bool) (k a:Nat) (w:W4 _ _ _ _):
 wO Γ G d p (⟨none,some t,.loadL ag k (.s a)⟩::l) Q ⟨sl,u,h,n,b⟩ w=zdr (u t) (zvI (sl a).ad (sl a).v a (fun r off=>ob (sl r).box (fun cs=>ob (rd cs off k) (zb9 ag) ⟨0⟩) ⟨0⟩) ⟨0⟩) (fun v=>wO Γ G d (p+1) l Q ⟨updC sl t ⟨v,none,none⟩,u,h,n,b⟩ ⟨0⟩) ⟨0⟩:=by
 refine zbW rfl ?_;rw[<- zlj sl u h n b a];simp only[zaj,ob]
 cases zd8 (M.st ⟨sl,u,h,n,b⟩) (.s a)with
 | none=>rfl
 | some r=>
   simp only[zC,zD,M.st]
   cases(sl r.1).box with
   | none=>rfl
   | some cs=>simp only[zD];cases rd cs r.2 k with
     | none=>rfl
     | some x=>simp only[zD];cases zb9 ag x<;>rfl
@[go_sem ↓]theorem zzf (k a:Nat) (x:Opd) (w:W4 _ _ _ _):
 wO Γ G d p (⟨none,none,.storeL k (.s a) x⟩::l) Q ⟨sl,u,h,n,b⟩ w=
  zyq (zvI (sl a).ad (sl a).v a (fun r off=>ob (sl r).box (fun cs=>ob (zaW G sl x) (fun v=>ob v.cells (fun new=>if new.length=k then ob (wr cs off new) (fun cs'=>some (r,(sl r).v,cs',(sl r).ad)) ⟨0⟩else none) ⟨0⟩) ⟨0⟩) ⟨0⟩) ⟨0⟩)
   (fun r v cs ad=>wO Γ G d (p+1) l Q ⟨updC sl r ⟨v,some cs,ad⟩,u,h,n,b⟩ ⟨0⟩) ⟨0⟩:=by
 (try rw[zaL (α:=Slot)])
 (try rw[zaL (α:=Bool)])
 (try rw[zek])
 unfold wO;rw[zaX];rw[zbs,zec rfl,<- zlj sl u h n b a];simp only[zaj,ob,za2]
 cases zd8 (M.st ⟨sl,u,h,n,b⟩) (.s a)with
 | none=>rfl
 | some r=>
   simp only[zC,zD,M.st]
   cases(sl r.1).box with
   | none=>rfl
   | some cs=>simp only[zD];cases zaW G sl x with
     | none=>rfl
     | some v=>simp only[zD];cases v.cells with
       | none=>rfl
       | some new=>
         simp only[zD]
         by_cases hk:new.length=k
         ·cases wr cs r.2 new with
          | none=>simp[zyq,hk]
          | some cs'=>simp[M.free,M.apply,zcy,zyq,zbf,hk]
         ·simp[zyq,hk]
@[go_sem ↓]theorem zzo (t off a:Nat) (w:W4 _ _ _ _):
 wO Γ G d p (⟨none,some t,.faddrL off (.s a)⟩::l) Q ⟨sl,u,h,n,b⟩ w=
  ziX (u t) (zvI (sl a).ad (sl a).v a (fun r o=>if(sl r).box.isSome=true/\r≠t then some (r,o+off)else none) ⟨0⟩)
   (fun r o=>wO Γ G d (p+1) l Q ⟨updC sl t ⟨.lb,none,some (r,o)⟩,updC u r true,h,n,b⟩ ⟨0⟩) ⟨0⟩:=by
 rw[zln (w':=⟨0⟩)]
 (try rw[zaL (α:=Slot)])
 (try rw[zaL (α:=Bool)])
 (try rw[zek])
 unfold wO;rw[zaX];rw[zbs,zec rfl,<- zlj sl u h n b a];simp only[zaj]
 cases zd8 (M.st ⟨sl,u,h,n,b⟩) (.s a)with
 | none=>rfl
 | some r=>
   simp only[zC,zD,M.st]
   cases(sl r.1).box with
   | none=>simp[zdr]
   | some cs=>
     simp only[zD,Option.isSome_some,true_and]
     by_cases DM:r.1=t
     ·simp[M.free,zdr,DM]
     ·simp[M.free,M.apply,zcy,zdr,zbf,DM]
end
end Rg
end
section
namespace Rg
open Go
section
variable {Γ:Nat->Option F} {G:Nat->List T}
variable (G) in
def zjn (sl:Nat->Slot):List V->List (Nat×Nat×Opd)->Option (List V)
 | cs,[]=>some cs
 | cs,(off,k,x)::r=>ob (zaW G sl x) (fun v=>ob v.cells (fun new=>if new.length=k then ob (wr cs off new) (fun cs'=>zjn sl cs' r) ⟨0⟩else none) ⟨0⟩) ⟨0⟩
@[go_sem ↓]theorem zxx (sl:Nat->Slot) (cs:List V):zjn G sl cs []=some cs:=rfl
@[go_sem ↓]theorem zol (sl:Nat->Slot) (cs:List V) (off k:Nat) (x:Opd) (r:List (Nat×Nat×Opd)):
 zjn G sl cs ((off,k,x)::r)=ob (zaW G sl x) (fun v=>ob v.cells (fun new=>if new.length=k then ob (wr cs off new) (fun cs'=>zjn G sl cs' r) ⟨0⟩else none) ⟨0⟩) ⟨0⟩:=rfl
theorem zm4 (sl:Nat->Slot) (u:Nat->Bool) (h:Nat->Option O) (n b:Nat): ∀(r:List (Nat×Nat×Opd)) (cs:List V),zbY G cs (M.st ⟨sl,u,h,n,b⟩) r=zjn G sl cs r
 | [],cs=>rfl
 | (off,k,x)::r,cs=>by
   rw[zbY,zol,za2];simp only[ob,zC]
   congr 1;funext v;congr 1;funext new
   split
   ·congr 1;funext cs';exact zm4 sl u h n b r cs'
   ·rfl
variable (G) in
def zjm (sl:Nat->Slot) (sz:Nat):List (List V)->List (Nat×Opd)->Option (List (List V))
 | rs,[]=>some rs
 | rs,(i,x)::r=>ob (zaW G sl x) (fun v=>ob v.cells (fun new=>if new.length=sz/\i<rs.length then zjm sl sz (rs.set i new) r else none) ⟨0⟩) ⟨0⟩
@[go_sem ↓]theorem zxw (sl:Nat->Slot) (sz:Nat) (rs:List (List V)):zjm G sl sz rs []=some rs:=rfl
@[go_sem ↓]theorem zok (sl:Nat->Slot) (sz:Nat) (rs:List (List V)) (i:Nat) (x:Opd) (r:List (Nat×Opd)):
 zjm G sl sz rs ((i,x)::r)=ob (zaW G sl x) (fun v=>ob v.cells (fun new=>if new.length=sz/\i<rs.length then zjm G sl sz (rs.set i new) r else none) ⟨0⟩) ⟨0⟩:=rfl
theorem zm3 (sl:Nat->Slot) (u:Nat->Bool) (h:Nat->Option O) (n b sz:Nat): ∀(r:List (Nat×Opd)) (rs:List (List V)),zcH G rs sz (M.st ⟨sl,u,h,n,b⟩) r=zjm G sl sz rs r
 | [],rs=>rfl
 | (i,x)::r,rs=>by
   rw[zcH,zok,za2];simp only[ob,zC]
   congr 1;funext v;congr 1;funext new
   split
   ·exact zm3 sl u h n b sz r _
   ·rfl
variable (G) in
def zpG (sl:Nat->Slot) (d:Nat):Option Opd->Option Int
 | none=>some d
 | some x=>ob (zaW G sl x) zji ⟨0⟩
@[go_sem ↓]theorem zCI (sl:Nat->Slot) (d:Nat):zpG G sl d none=some (d:Int):=rfl
@[go_sem ↓]theorem zCH (sl:Nat->Slot) (d:Nat) (x:Opd):zpG G sl d (some x)=ob (zaW G sl x) zji ⟨0⟩:=rfl
theorem zsU (sl:Nat->Slot) (u:Nat->Bool) (h:Nat->Option O) (n b d:Nat) (x:Option Opd):zew G (M.st ⟨sl,u,h,n,b⟩) d x=zpG G sl d x:=by
 cases x with
 | none=>rfl
 | some x=>simp only[zew,zds,zpG,ob]
def zkk (h:Nat->Option O) (sz:Nat) (lo hi:Int):V->Option V
 | .ms k i _=>match h k with
   | some (.rows sz' rs _)=>if sz'=sz/\0<=lo/\lo<=hi/\(i:Int)+hi<=rs.length then some (.ms k (i+lo.toNat) (hi-lo).toNat)else none
   | _=>none
 | _=>none
def zry (h:Nat->Option O) (sz n:Nat) (lo hi:Int) (v:V):Option V:=
 if 0<=lo/\lo<=hi/\hi<=n then
  match v with
  | .t .nils=>some (.t .nils)
  | .t (.sl es)=>if es.all (·.length=sz)then some (.t (.sl ((es.drop lo.toNat).take (hi-lo).toNat)))else none
  | .ms k i _=>match h k with
    | some (.rows sz' _ _)=>if sz'=sz then some (.ms k (i+lo.toNat) (hi-lo).toNat)else none
    | _=>none
  | _=>none
 else zkk h sz lo hi v
attribute [go_sem] zry zmn
variable (d:Bool) (p:Nat) (l:List ROp) (Q:M->Prop) (sl:Nat->Slot) (u:Nat->Bool) (h:Nat->Option O) (n b:Nat)
@[go_sem ↓]theorem zBa (t:Nat) (z:List V) (ps:List (Nat×Nat×Opd)) (w:W4 _ _ _ _):
 wO Γ G d p (⟨none,some t,.build z ps⟩::l) Q ⟨sl,u,h,n,b⟩ w=zdr (u t) (ob (zjn G sl z ps) (fun cs=>some (.agg cs)) ⟨0⟩) (fun v=>wO Γ G d (p+1) l Q ⟨updC sl t ⟨v,none,none⟩,u,h,n,b⟩ ⟨0⟩) ⟨0⟩:=by
 refine zbW rfl ?_;simp only[zaj,zm4,ob];cases zjn G sl z ps<;>rfl
@[go_sem ↓]theorem zAX (t:Nat) (sz:Nat) (x:Opd) (lo hi:Option Opd) (w:W4 _ _ _ _):
 wO Γ G d p (⟨none,some t,.slice sz x lo hi none⟩::l) Q ⟨sl,u,h,n,b⟩ w=zdr (u t) (ob (zaW G sl x) (fun v=>ob (lenS h v) (fun k=>ob (zpG G sl k hi) (fun AK=>ob (zpG G sl 0 lo) (fun lo'=>zry h sz k lo' AK v) ⟨0⟩) ⟨0⟩) ⟨0⟩) ⟨0⟩) (fun v=>wO Γ G d (p+1) l Q ⟨updC sl t ⟨v,none,none⟩,u,h,n,b⟩ ⟨0⟩) ⟨0⟩:=by
 refine zbW rfl ?_;simp only[zaj,za2,ob,zlw,zsU]
 cases zaW G sl x with
 | none=>rfl
 | some v=>
   simp only[zC,zD]
   cases lenS h v with
   | none=>rfl
   | some k=>
     simp only[zD]
     cases zpG G sl k hi with
     | none=>rfl
     | some AK=>
       simp only[zD]
       cases zpG G sl 0 lo with
       | none=>rfl
       | some lo'=>
         simp only[zD,zry];split
         ·cases v with
          | t x=>cases x with
            | sl es=>simp only;split<;>rfl
            | _=>rfl
          | ms q i j=>
            simp only[M.st]
            cases h q with
            | none=>rfl
            | some o=>cases o with
              | rows s rs z=>simp only;split<;>rfl
              | _=>rfl
          | _=>rfl
         ·cases v with
          | ms q i j=>
            simp only[M.st,zkk]
            cases h q with
            | none=>rfl
            | some o=>cases o with
              | rows s rs z=>simp only;split<;>rfl
              | _=>rfl
          | _=>rfl
attribute [go_sem] zqq trees
@[go_sem ↓]theorem zB9 (t:Nat) (f:Nat) (x y:List Opd) (w:W4 _ _ _ _):
 wO Γ G d p (⟨none,some t,.mkfn f x y⟩::l) Q ⟨sl,u,h,n,b⟩ w=zdr (u t) (ob (zdE G sl x) (fun a=>ob (zdE G sl y) (fun c=>zqq f a c) ⟨0⟩) ⟨0⟩) (fun v=>wO Γ G d (p+1) l Q ⟨updC sl t ⟨v,none,none⟩,u,h,n,b⟩ ⟨0⟩) ⟨0⟩:=by
 refine zbW rfl ?_;simp only[zaj,zgD,ob]
 cases zdE G sl x with
 | none=>rfl
 | some a=>
   simp only[zC,zD]
   cases zdE G sl y with
   | none=>rfl
   | some c=>simp only[zD];(cases zqq f a c<;>rfl)
@[go_sem ↓]theorem zzu (t:Nat) (cs:List V) (w:W4 _ _ _ _):
 wO Γ G d p (⟨none,some t,.allocH cs⟩::l) Q ⟨sl,u,h,n,b⟩ w=ziX (u t) (some (V.mp (b+p) 0 0,[(b+p,O.rows cs.length [cs] false)])) (fun v hp=>wO Γ G d (p+1) l Q ⟨updC sl t ⟨v,none,none⟩,u,VI h hp,n,b⟩ ⟨0⟩) ⟨0⟩:=by
 refine zma rfl ?_;rfl
@[go_sem ↓]theorem zO5 (t:Nat) (k:Nat) (x:Opd) (w:W4 _ _ _ _):
 wO Γ G d p (⟨none,some t,.boxA k x⟩::l) Q ⟨sl,u,h,n,b⟩ w=ziX (u t) (ob (zaW G sl x) (fun v=>ob v.cells (fun cs=>if cs.length=k/\0<k then some (V.mp (b+p) 0 0,[(b+p,O.rows 1 (cs.map fun c=>[c]) false)])else none) ⟨0⟩) ⟨0⟩) (fun v hp=>wO Γ G d (p+1) l Q ⟨updC sl t ⟨v,none,none⟩,u,VI h hp,n,b⟩ ⟨0⟩) ⟨0⟩:=by
 refine zma rfl ?_;simp only[zaj,za2,ob]
 cases zaW G sl x with
 | none=>rfl
 | some v=>
   simp only[zC,zD]
   cases v.cells with
   | none=>rfl
   | some cs=>simp only[zD];split<;>rfl
def zNz (h:Nat->Option O) (n:Nat) (lo hi:Option Int):V->Option V
 | .mp k 0 0=>match h k with
   | some (.rows 1 rs _)=>hi.bind fun hi=>lo.bind fun lo=>if 0<=lo/\lo<=hi/\hi<=n/\rs.length=n then some (.ms k lo.toNat (hi-lo).toNat)else none
   | _=>none
 | _=>none
attribute [go_sem] zNz
def zMY (h:Nat->Option O) (n:Nat) (o:Option (List V)):V->Option (V×List (Nat×O))
 | .mp k 0 0=>match h k with
   | some (.rows 1 rs false)=>o.bind fun new=>if new.length=n/\rs.length=n then some (.undef,[(k,.rows 1 (new.map fun c=>[c]) false)])else none
   | _=>none
 | _=>none
attribute [go_sem] zMY
@[go_sem ↓]theorem zCo (t:Nat) (k:Nat) (x:Opd) (w:W4 _ _ _ _):
 wO Γ G d p (⟨none,some t,.boxH k x⟩::l) Q ⟨sl,u,h,n,b⟩ w=ziX (u t) (ob (zaW G sl x) (fun v=>ob v.cells (fun cs=>if cs.length=k then some (V.mp (b+p) 0 0,[(b+p,O.rows k [cs] false)])else none) ⟨0⟩) ⟨0⟩) (fun v hp=>wO Γ G d (p+1) l Q ⟨updC sl t ⟨v,none,none⟩,u,VI h hp,n,b⟩ ⟨0⟩) ⟨0⟩:=by
 refine zma rfl ?_;simp only[zaj,za2,ob]
 cases zaW G sl x with
 | none=>rfl
 | some v=>
   simp only[zC,zD]
   cases v.cells with
   | none=>rfl
   | some cs=>simp only[zD];split<;>rfl
@[go_sem ↓]theorem zzq (t:Nat) (sz len:Nat) (z:List V) (ps:List (Nat×Opd)) (w:W4 _ _ _ _):
 wO Γ G d p (⟨none,some t,.bslice sz len z ps⟩::l) Q ⟨sl,u,h,n,b⟩ w=ziX (u t) (ob (zjm G sl sz (List.replicate len z) ps) (fun rs=>some (V.ms (b+p) 0 len,[(b+p,O.rows sz rs false)])) ⟨0⟩) (fun v hp=>wO Γ G d (p+1) l Q ⟨updC sl t ⟨v,none,none⟩,u,VI h hp,n,b⟩ ⟨0⟩) ⟨0⟩:=by
 refine zma rfl ?_;simp only[zaj,zm3,ob];cases zjm G sl sz (List.replicate len z) ps<;>rfl
def zrq (h:Nat->Option O) (k:Nat) (new:List V):V->Option (V×List (Nat×O))
 | .mp q i off=>match h q with
   | some (.rows sz rs false)=>(rs[i]?).bind fun row=>if new.length=k then(wr row off new).bind fun row'=>some (V.undef,[(q,O.rows sz (rs.set i row') false)])else none
   | _=>none
 | _=>none
def zck (h:Nat->Option O) (q:Nat) (sz bytes:Nat) (u:V) (a b:List (List V)):Option (V×List (Nat×O)):=
 if(a.length+b.length<=2^32/\bytes<=2^12)/\b.all (·.length=sz)/\a.all (·.length=sz)then
  if b.isEmpty then some (u,[])
  else match u with
   | .t .nils=>some (.ms q 0 b.length,[(q,.rows sz b false)])
   | .t (.slc _)=>((a++b).mapM trees).bind fun ts=>some (.t (.sl ts),[])
   | .ms k i _=>match h k with
     | some (.rows sz' rs false)=>if sz'=sz/\i=0 then some (.ms q 0 (a.length+b.length),[(k,.dead),(q,.rows sz (zbU a b rs) false)])else none
     | _=>none
   | _=>none
 else none
@[go_sem]theorem zfP {α:Type} (a b:List α):zbU a b a=a++b:=if_pos (Nat.le_add_right _ _)
def zBy (h:Nat->Option O):V->Option (List (T×V))
 | .t .nilm=>some []
 | .mm j=>match h j with
   | some (.map es)=>some es
   | _=>none
 | _=>none
def zsh (h:Nat->Option O) (key:T) (x:V):V->Option (V×List (Nat×O))
 | .mm j=>match h j with
   | some (.map es)=>(zbF key x es).bind fun es'=>if x.one then some (V.undef,[(j,.map es')])else none
   | _=>none
 | _=>none
attribute [go_sem] zrq zBy zsh
@[go_sem ↓]theorem zAW (k:Nat) (a x:Opd) (w:W4 _ _ _ _):
 wO Γ G d p (⟨none,none,.store k a x⟩::l) Q ⟨sl,u,h,n,b⟩ w=ziX false (ob (zaW G sl a) (fun q=>ob (zaW G sl x) (fun v=>ob v.cells (fun new=>zrq h k new q) ⟨0⟩) ⟨0⟩) ⟨0⟩) (fun _ hp=>wO Γ G d (p+1) l Q ⟨sl,u,VI h hp,n,b⟩ ⟨0⟩) ⟨0⟩:=by
 refine zrd rfl ?_;simp only[zaj,za2,ob]
 cases zaW G sl a with
 | none=>rfl
 | some q=>
   simp only[zC,zD]
   cases hx:zaW G sl x with
   | none=>
     cases q with
     | mp j i off=>
       simp only[M.st,Option.bind_none]
       cases h j with
       | none=>rfl
       | some o=>cases o with
         | rows sz rs z=>cases z with
           | false=>simp only;cases rs[i]? <;>rfl
           | true=>rfl
         | _=>rfl
     | _=>rfl
   | some v=>
     simp only[zD]
     cases hc:v.cells with
     | none=>
       cases q with
       | mp j i off=>
         simp only[M.st,Option.bind_none]
         cases h j with
         | none=>rfl
         | some o=>cases o with
           | rows sz rs z=>cases z with
             | false=>simp only;cases rs[i]? <;>rfl
             | true=>rfl
           | _=>rfl
       | _=>rfl
     | some new=>
       cases q with
       | mp j i off=>
         simp only[M.st,zD,zrq]
         cases h j with
         | none=>rfl
         | some o=>cases o with
           | rows sz rs z=>cases z with
             | false=>
               simp only
               cases rs[i]? with
               | none=>rfl
               | some row=>
                 simp only[zD];split
                 ·cases wr row off new<;>rfl
                 ·rfl
             | true=>rfl
           | _=>rfl
       | _=>rfl
@[go_sem ↓]theorem zzs (t:Nat) (sz bytes:Nat) (x y:Opd) (w:W4 _ _ _ _):
 wO Γ G d p (⟨none,some t,.append sz bytes x y⟩::l) Q ⟨sl,u,h,n,b⟩ w=ziX (u t) (ob (zaW G sl x) (fun v=>ob (zaW G sl y) (fun v'=>ob (rowsS h v) (fun a=>ob (rowsS h v') (fun c=>zck h (b+p) sz bytes v a c) ⟨0⟩) ⟨0⟩) ⟨0⟩) ⟨0⟩) (fun v hp=>wO Γ G d (p+1) l Q ⟨updC sl t ⟨v,none,none⟩,u,VI h hp,n,b⟩ ⟨0⟩) ⟨0⟩:=by
 refine zma rfl ?_;simp only[zaj,za2,ob,ziP]
 cases zaW G sl x with
 | none=>rfl
 | some v=>
   simp only[zC,zD]
   cases zaW G sl y with
   | none=>rfl
   | some v'=>
     simp only[zD]
     cases rowsS h v with
     | none=>rfl
     | some a=>
       simp only[zD]
       cases rowsS h v' with
       | none=>rfl
       | some c=>
         simp only[zD,zck];split
         ·split
          ·rfl
          ·cases v with
           | t z=>cases z<;>first | rfl | (cases List.mapM trees (a++c)<;>rfl)
           | ms k i j=>
             simp only[M.st]
             cases h k with
             | none=>rfl
             | some o=>cases o with
               | rows s rs z=>cases z with
                 | false=>simp only;split<;>rfl
                 | true=>rfl
               | _=>rfl
           | _=>rfl
         ·rfl
def zyz (h:Nat->Option O) (f:Nat):V->Option (V×List (Nat×O))
 | .mp k i off=>match h k with
   | some (.rows sz [row] _)=>if i=0/\off=0 then(trees row).bind fun ts=>some (.t (.fn f [] [.ip ts]),[(k,.rows sz [row] true)])else none
   | _=>none
 | _=>none
attribute [go_sem] zyz
@[go_sem ↓]theorem zA1 (t:Nat)  (w:W4 _ _ _ _):
 wO Γ G d p (⟨none,some t,.mkmap⟩::l) Q ⟨sl,u,h,n,b⟩ w=ziX (u t) (some (V.mm (b+p),[(b+p,O.map [])])) (fun v hp=>wO Γ G d (p+1) l Q ⟨updC sl t ⟨v,none,none⟩,u,VI h hp,n,b⟩ ⟨0⟩) ⟨0⟩:=by
 refine zma rfl ?_;rfl
@[go_sem ↓]theorem zzl (t:Nat) (kd:Nat) (z:V) (ok:Bool) (x y:Opd) (w:W4 _ _ _ _):
 wO Γ G d p (⟨none,some t,.lookup kd z ok x y⟩::l) Q ⟨sl,u,h,n,b⟩ w=zdr (u t) (ob (zaW G sl y) (fun k=>ob (zj1 kd k) (fun key=>ob (zaW G sl x) (fun v=>ob (zBy h v) (fun es=>ob (zbo key es) (fun r=>some (if ok then V.tup [r.getD z,.t (.bool r.isSome)]else r.getD z)) ⟨0⟩) ⟨0⟩) ⟨0⟩) ⟨0⟩) ⟨0⟩) (fun v=>wO Γ G d (p+1) l Q ⟨updC sl t ⟨v,none,none⟩,u,h,n,b⟩ ⟨0⟩) ⟨0⟩:=by
 refine zbW rfl ?_;simp only[zaj,za2,ob]
 cases zaW G sl y with
 | none=>rfl
 | some k=>
   simp only[zC,zD]
   cases zj1 kd k with
   | none=>rfl
   | some key=>
     simp only[zD]
     cases zaW G sl x with
     | none=>rfl
     | some v=>
       simp only[zD]
       cases v with
       | mm j=>
         simp only[zBy,M.st]
         cases h j with
         | none=>rfl
         | some o=>cases o with
           | map es=>
             simp only[zD]
             cases zbo key es with
             | none=>rfl
             | some r=>cases ok<;>rfl
           | _=>rfl
       | t q=>cases q with
         | nilm=>cases ok<;>rfl
         | _=>rfl
       | _=>rfl
@[go_sem ↓]theorem zzk (kd:Nat) (x y z:Opd) (w:W4 _ _ _ _):
 wO Γ G d p (⟨none,none,.mapupd kd x y z⟩::l) Q ⟨sl,u,h,n,b⟩ w=ziX false (ob (zaW G sl y) (fun k=>ob (zj1 kd k) (fun key=>ob (zaW G sl z) (fun r=>ob (zaW G sl x) (zsh h key r) ⟨0⟩) ⟨0⟩) ⟨0⟩) ⟨0⟩) (fun _ hp=>wO Γ G d (p+1) l Q ⟨sl,u,VI h hp,n,b⟩ ⟨0⟩) ⟨0⟩:=by
 refine zrd rfl ?_;simp only[zaj,za2,ob]
 cases zaW G sl y with
 | none=>rfl
 | some k=>
   simp only[zC,zD]
   cases zj1 kd k with
   | none=>rfl
   | some key=>
     simp only[zD]
     cases zaW G sl z with
     | none=>rfl
     | some r=>
       simp only[zD]
       cases zaW G sl x with
       | none=>rfl
       | some v=>
         simp only[zD]
         cases v with
         | mm j=>
           simp only[M.st,zsh]
           cases h j with
           | none=>rfl
           | some o=>cases o with
             | map es=>
               simp only
               cases zbF key r es with
               | none=>rfl
               | some es'=>simp only[zD];split<;>rfl
             | _=>rfl
         | _=>rfl
def zqW (d us:Bool) (h:Nat->Option O) (g:Nat) (vs:List V) (o:Option (List V)) (K:V->(Nat->Option O)->Prop) (_:WK K):Prop:=match o with
 | none=>False
 | some rs=>match Den Γ G g rs with
   | none=>False
   | some r=>us=false/\if r.scalar then K r h else(d=true->vs.flatMap (zba h)=[])/\K r (VI h (freezes h (vs.flatMap (zba h))))
def zlN (o:Option V) (d:Bool) (h:Nat->Option O) (vs:List V) (K:V->(Nat->Option O)->Prop) (_:WK K):Prop:=match o with
 | none=>False
 | some r=>if r.scalar then K r h else(d=true->vs.flatMap (zba h)=[])/\K r (VI h (freezes h (vs.flatMap (zba h))))
@[go_sem]theorem zyX (d:Bool) (h:Nat->Option O) (g:Nat) (vs rs:List V) (K:V->(Nat->Option O)->Prop) (w:WK K):
 zqW (Γ:=Γ) (G:=G) d false h g vs (some rs) K w=zlN (Den Γ G g rs) d h vs K ⟨0⟩:=by
 simp only[zqW,zlN]
 cases Den Γ G g rs with
 | none=>rfl
 | some r=>simp
@[go_sem]theorem zs4 (r:V) (d:Bool) (h:Nat->Option O) (vs:List V) (K:V->(Nat->Option O)->Prop) (w:WK K) (ht:vs.all V.tree=true):
 zlN (some r) d h vs K w=K r h:=by
 have hr:vs.flatMap (zba h)=[]:=by
  simp only[List.flatMap_eq_nil_iff];intro v hv;exact zkt (List.all_eq_true.1 ht v hv)
 simp[zlN,hr,freezes,zaA]
@[go_sem]theorem zAO (r:V) (d:Bool) (h:Nat->Option O) (K:V->(Nat->Option O)->Prop) (w:WK K):zlN (some r) d h [] K w=K r h:=zs4 r d h [] K w rfl
def zhE (K:List V->Prop) (_:WK K) (o:Option (List V)):Prop:=match o with
 | none=>False
 | some vs=>K vs
@[go_sem]theorem zxy (vs:List V) (K:List V->Prop) (w:WK K):zhE K w (some vs)=K vs:=rfl
theorem zrX {d:Bool} {t:Nat} {l:List ROp} {p:Nat} {Q:M->Prop} {sl:Nat->Slot} {u:Nat->Bool} {h:Nat->Option O} {n b g:Nat} {vs:List V}:
 zvr Γ G d ⟨sl,u,h,n,b⟩ (some t) g vs (fun m'=>wpO Γ G d (p+1) l m' Q)=
  zqW (Γ:=Γ) (G:=G) d (u t) h g vs (vs.mapM (toT1 h)) (fun r h'=>wO Γ G d (p+1) l Q ⟨updC sl t ⟨r,none,none⟩,u,h',n,b⟩ ⟨0⟩) ⟨0⟩:=by
 rw[zaL (α:=Slot)];rw[zwB];simp only[zqW,M.free,Bool.and_true,wO,zaX,zek]
 cases vs.mapM (toT1 h)with
 | none=>simp
 | some rs=>
   simp only
   cases Den Γ G g rs with
   | none=>simp
   | some r=>
     simp only[zzH,M.apply,zcy,zbf,Bool.not_eq_true']
@[go_sem ↓]theorem zCl (t g:Nat) (args:List Opd) (w:W4 _ _ _ _):
 wO Γ G d p (⟨none,some t,.call false (.c (.t (.fn g [] []))) args⟩::l) Q ⟨sl,u,h,n,b⟩ w=
  zhE (fun vs=>zqW (Γ:=Γ) (G:=G) d (u t) h g vs (vs.mapM (toT1 h)) (fun r h'=>wO Γ G d (p+1) l Q ⟨updC sl t ⟨r,none,none⟩,u,h',n,b⟩ ⟨0⟩) ⟨0⟩) ⟨0⟩ (zdE G sl args):=by
 unfold wO;rw[zaX];rw[zbs];simp only[ziE,evl,zD,zfC,List.map_nil,zgD]
 cases zdE G sl args with
 | none=>rfl
 | some vs=>
   simp only[zhE,List.nil_append,List.append_nil,zG,if_false];have e:=zrX (Γ:=Γ) (G:=G) (d:=d) (t:=t) (l:=l) (p:=p) (Q:=Q) (sl:=sl) (u:=u) (h:=h) (n:=n) (b:=b) (g:=g) (vs:=vs);unfold wO at e;rw[zaX]at e;exact e
def fnK (o:Option V) (K:Nat->List V->List V->Prop) (_:WK K):Prop:=match o with
 | none=>False
 | some v=>match zfC v with
   | none=>False
   | some (g,a,c)=>K g a c
@[go_sem]theorem zDc (g:Nat) (a c:List V) (K:Nat->List V->List V->Prop) (w:WK K):fnK (some (.fn g a c)) K w=K g a c:=rfl
def zvK (us:Bool) (o:Option (V×(Nat->Option O)×Nat)) (K:V->(Nat->Option O)->Nat->Prop) (_:WK K):Prop:=match o with
 | none=>False
 | some (r,h,n)=>us=false/\K r h n
theorem zpM {d:Bool} {t:Nat} {l:List ROp} {p:Nat} {Q:M->Prop} {sl:Nat->Slot} {u:Nat->Bool} {h:Nat->Option O} {n b g:Nat} {vs:List V}:
 zvq Γ G ⟨sl,u,h,n,b⟩ (some t) g vs (fun m'=>wpO Γ G d (p+1) l m' Q)=
  zvK (u t) (DenR Γ G g vs h n) (fun r h' n'=>wO Γ G d (p+1) l Q ⟨updC sl t ⟨r,none,none⟩,u,h',n',b⟩ ⟨0⟩) ⟨0⟩:=by
 (try rw[zaL (α:=Slot)])
 rw[zwA];simp only[zvK,M.free,Bool.and_true,wO,zaX]
 cases DenR Γ G g vs h n with
 | none=>simp
 | some q=>
   obtain⟨r,h',n'⟩:=q;simp only[M.apply,zcy,zbf,Bool.not_eq_true']
def zOx (o:Option (List V)) (K:List V->Prop) (_:WK K):Prop:=match o with
 | none=>False
 | some a=>K a
@[go_sem]theorem zNt (a:List V) (K:List V->Prop) (w:WK K):zOx (some a) K w=K a:=rfl
@[go_sem]theorem zKD (h:Nat->Option O):zJ3 h []=some []:=rfl
@[go_sem ↓]theorem zAY (t g:Nat) (args:List Opd) (w:W4 _ _ _ _):
 wO Γ G d p (⟨none,some t,.call true (.c (.t (.fn g [] []))) args⟩::l) Q ⟨sl,u,h,n,b⟩ w=
  zhE (fun vs=>zvK (u t) (DenR Γ G g vs h n) (fun r h' n'=>wO Γ G d (p+1) l Q ⟨updC sl t ⟨r,none,none⟩,u,h',n',b⟩ ⟨0⟩) ⟨0⟩) ⟨0⟩ (zdE G sl args):=by
 unfold wO;rw[zaX];rw[zbs];simp only[ziE,evl,zD,zfC,List.map_nil,zgD]
 cases zdE G sl args with
 | none=>rfl
 | some vs=>
   simp only[zhE,zKD,List.nil_append,List.append_nil,if_true];have e:=zpM (Γ:=Γ) (G:=G) (d:=d) (t:=t) (l:=l) (p:=p) (Q:=Q) (sl:=sl) (u:=u) (h:=h) (n:=n) (b:=b) (g:=g) (vs:=vs);unfold wO at e;rw[zaX]at e;exact e
theorem zIU {s:St}: ∀{args:List Opd} {vs:List V},zgE G s args=some vs->zid G s args=vs.flatMap V.top
 | [],_,h=>by cases h;rfl
 | x::xs,vs,h=>by
   simp only[zgE,zC,zB,zA]at h;obtain⟨v,hv,us,Kh,rfl⟩:=h;have:=zIU Kh;simp only[zid]at this;simp only[zid,List.flatMap_cons,hv,this]
@[go_sem ↓]theorem zNS (t g:Nat) (args:List Opd) (w:W4 _ _ _ _):
 wO Γ G d p (⟨none,some t,.call true (.c (.fn g [] [])) args⟩::l) Q ⟨sl,u,h,n,b⟩ w=
  zhE (fun vs=>zvK (u t) (DenR Γ G g vs h n) (fun r h' n'=>(∀k∈vs.flatMap V.top,h' k=h k)/\wO Γ G d (p+1) l Q ⟨updC sl t ⟨r,none,none⟩,u,h',n',b⟩ ⟨0⟩) ⟨0⟩) ⟨0⟩ (zdE G sl args):=by
 unfold wO;rw[zaX];rw[zbs];simp only[ziE,evl,zD,zfC];have ht: ∀vs,zgE G (⟨sl,u,h,n,b⟩:M).st args=some vs->zid G (⟨sl,u,h,n,b⟩:M).st args=vs.flatMap V.top:=fun vs=>zIU
 rw[zgD]at ht⊢
 cases he:zdE G sl args with
 | none=>rfl
 | some vs=>
   rw[he]at ht;simp only[zhE,zKD,List.nil_append,List.append_nil,if_true,zHX,ht vs rfl];rw[zMx]
   (try rw[zaL (α:=Slot)])
   simp only[zvK,M.free,Bool.and_true]
   cases DenR Γ G g vs h n with
   | none=>simp
   | some q=>
     obtain⟨r,h',n'⟩:=q;simp only[M.apply,zcy,zbf,Bool.not_eq_true']
def fnY (o:Option V) (K:Nat->List V->List V->Prop) (Y:Nat->Prop) (_:WK K) (_:WK Y):Prop:=match o with
 | none=>False
 | some v=>match zfC v with
   | some (g,a,c)=>K g a c
   | none=>match ztL v with
     | some k=>Y k
     | none=>False
@[go_sem]theorem zSx (g:Nat) (a c:List T) (K:Nat->List V->List V->Prop) (Y:Nat->Prop) (w:WK K) (w':WK Y):fnY (some (.t (.fn g a c))) K Y w w'=K g (a.map V.t) (c.map V.t):=rfl
@[go_sem]theorem zDb (g:Nat) (a c:List V) (K:Nat->List V->List V->Prop) (Y:Nat->Prop) (w:WK K) (w':WK Y):fnY (some (.fn g a c)) K Y w w'=K g a c:=rfl
@[go_sem]theorem zDa (k:Nat) (K:Nat->List V->List V->Prop) (Y:Nat->Prop) (w:WK K) (w':WK Y):fnY (some (.yl k)) K Y w w'=Y k:=rfl
theorem zvo {d:Bool} {t:Nat} {l:List ROp} {p:Nat} {Q:M->Prop} {sl:Nat->Slot} {u:Nat->Bool} {h:Nat->Option O} {n b k:Nat} {vs:List V}:
 zvp Γ G ⟨sl,u,h,n,b⟩ (some t) k vs (fun m'=>wpO Γ G d (p+1) l m' Q)=
  zvK (u t) (DenY Γ G k vs h n) (fun r h' n'=>wO Γ G d (p+1) l Q ⟨updC sl t ⟨r,none,none⟩,u,h',n',b⟩ ⟨0⟩) ⟨0⟩:=by
 (try rw[zaL (α:=Slot)])
 rw[zwz];simp only[zvK,M.free,Bool.and_true,wO,zaX]
 cases DenY Γ G k vs h n with
 | none=>simp
 | some q=>
   obtain⟨r,h',n'⟩:=q;simp only[M.apply,zcy,zbf,Bool.not_eq_true']
@[go_sem ↓]theorem zzi (t x:Nat) (args:List Opd) (w:W4 _ _ _ _):
 wO Γ G d p (⟨none,some t,.call true (.s x) args⟩::l) Q ⟨sl,u,h,n,b⟩ w=
  fnY (zaW G sl (.s x)) (fun g a0 c=>zOx (zJ3 h a0) (fun a=>zhE (fun vs=>zvK (u t) (DenR Γ G g (a++vs++c) h n) (fun r h' n'=>wO Γ G d (p+1) l Q ⟨updC sl t ⟨r,none,none⟩,u,h',n',b⟩ ⟨0⟩) ⟨0⟩) ⟨0⟩ (zdE G sl args)) ⟨0⟩)
   (fun k=>zhE (fun vs=>zvK (u t) (DenY Γ G k vs h n) (fun r h' n'=>wO Γ G d (p+1) l Q ⟨updC sl t ⟨r,none,none⟩,u,h',n',b⟩ ⟨0⟩) ⟨0⟩) ⟨0⟩ (zdE G sl args)) ⟨0⟩ ⟨0⟩:=by
 unfold wO;rw[zaX];rw[zbs];simp only[ziE,za2,zgD]
 cases zaW G sl (.s x)with
 | none=>cases zdE G sl args<;>rfl
 | some v=>
   simp only[zD,fnY]
   cases zfC v with
   | none=>
     simp only
     cases ztL v with
     | none=>cases zdE G sl args<;>rfl
     | some k=>
       simp only
       cases zdE G sl args with
       | none=>rfl
       | some vs=>
         simp only[zhE,true_and];have e:=zvo (Γ:=Γ) (G:=G) (d:=d) (t:=t) (l:=l) (p:=p) (Q:=Q) (sl:=sl) (u:=u) (h:=h) (n:=n) (b:=b) (k:=k) (vs:=vs);unfold wO at e;rw[zaX]at e
         exact e
   | some q=>
     obtain⟨g,a0,c⟩:=q;simp only
     cases zdE G sl args with
     | none=>cases zJ3 h a0<;>rfl
     | some vs=>
       simp only[if_true]
       cases zJ3 h a0 with
       | none=>rfl
       | some a=>
       simp only[zhE,zOx];have e:=zpM (Γ:=Γ) (G:=G) (d:=d) (t:=t) (l:=l) (p:=p) (Q:=Q) (sl:=sl) (u:=u) (h:=h) (n:=n) (b:=b) (g:=g) (vs:=a++vs++c);unfold wO at e;rw[zaX]at e;exact e
def resVal:V->Option V
 | .undef=>none
 | .lb=>none
 | .tup _=>none
 | v=>some v
attribute [go_sem] resVal
theorem zBn (sl:Nat->Slot) (u:Nat->Bool) (h:Nat->Option O) (n b t:Nat):zer (M.st ⟨sl,u,h,n,b⟩) (.s t)=resVal (sl t).v:=by
 simp only[zer,M.st];cases(sl t).v<;>rfl
theorem zBo (sl:Nat->Slot) (u:Nat->Bool) (h:Nat->Option O) (n b t:Nat) (ag:Bool) (k:Nat):zer (M.st ⟨sl,u,h,n,b⟩) (.l t ag k)=ob (sl t).box (fun cs=>ob (rd cs 0 k) (zb9 ag) ⟨0⟩) ⟨0⟩:=rfl
def zyu:List V->V
 | [v]=>v
 | vs=> .tup vs
attribute [go_sem] zyu
theorem zrN (sl:Nat->Slot) (u u':Nat->Bool) (h:Nat->Option O) (n b n' b':Nat) (r:Res):zer (M.st ⟨sl,u,h,n,b⟩) r=zer (M.st ⟨sl,u',h,n',b'⟩) r:=by
 cases r<;>rfl
structure W5 (sl:Nat->Slot) (h:Nat->Option O) (rs:List Res) (acc:List V) (K:V->Prop)where
 n:Nat
def znt (sl:Nat->Slot) (h:Nat->Option O) (rs:List Res) (acc:List V) (K:V->Prop) (_:W5 sl h rs acc K):Prop:=
 match rs.mapM (zer (M.st ⟨sl,fun _=>false,h,0,0⟩))with
 | none=>False
 | some vs=>K (zyu (acc++vs))
@[go_sem ↓]theorem zzF (sl:Nat->Slot) (h:Nat->Option O) (acc:List V) (K:V->Prop) (w:W5 sl h [] acc K):znt sl h [] acc K w=K (zyu acc):=by simp[znt]
theorem ziR (sl:Nat->Slot) (h:Nat->Option O) (r:Res) (rs:List Res) (acc:List V) (K:V->Prop) (w:W5 sl h (r::rs) acc K):
 znt sl h (r::rs) acc K w=zdr false (zer (M.st ⟨sl,fun _=>false,h,0,0⟩) r) (fun v=>znt sl h rs (acc++[v]) K ⟨0⟩) ⟨0⟩:=by
 simp only[znt,List.mapM_cons,zC]
 cases zer (M.st ⟨sl,fun _=>false,h,0,0⟩) r with
 | none=>rfl
 | some v=>
   simp only[zD,zdr,true_and]
   cases rs.mapM (zer (M.st ⟨sl,fun _=>false,h,0,0⟩))with
   | none=>rfl
   | some vs=>simp
@[go_sem ↓]theorem zCv (sl:Nat->Slot) (h:Nat->Option O) (t:Nat) (rs:List Res) (acc:List V) (K:V->Prop) (w:W5 sl h (.s t::rs) acc K):
 znt sl h (.s t::rs) acc K w=zdr false (resVal (sl t).v) (fun v=>znt sl h rs (acc++[v]) K ⟨0⟩) ⟨0⟩:=by rw[ziR,zBn]
@[go_sem ↓]theorem zCw (sl:Nat->Slot) (h:Nat->Option O) (t:Nat) (ag:Bool) (k:Nat) (rs:List Res) (acc:List V) (K:V->Prop) (w:W5 sl h (.l t ag k::rs) acc K):
 znt sl h (.l t ag k::rs) acc K w=zdr false (ob (sl t).box (fun cs=>ob (rd cs 0 k) (zb9 ag) ⟨0⟩) ⟨0⟩) (fun v=>znt sl h rs (acc++[v]) K ⟨0⟩) ⟨0⟩:=by rw[ziR,zBo]
theorem ziS (sl:Nat->Slot) (u:Nat->Bool) (h:Nat->Option O) (n b:Nat) (rs:List Res) (K:V->Prop):
 (∃v,zeM (M.st ⟨sl,u,h,n,b⟩) rs=some v/\K v)=znt sl h rs [] K ⟨0⟩:=by
 have:zer (M.st ⟨sl,u,h,n,b⟩)=zer (M.st ⟨sl,fun _=>false,h,0,0⟩):=funext fun r=>zrN sl u _ h n b 0 0 r
 simp only[zeM,this,znt,List.nil_append,zC]
 cases rs.mapM (zer (M.st ⟨sl,fun _=>false,h,0,0⟩))with
 | none=>simp
 | some vs=>
   simp only[zD]
   cases vs with
   | nil=>simp[zyu]
   | cons v vs=>cases vs<;>simp[zyu]
def Fi (rs:List Res) (r:V) (e:Ex) (m:M):Prop:=Fin rs r e m
@[go_sem ↓]theorem zCe (rs:List Res) (r:V) (sl:Nat->Slot) (u:Nat->Bool) (h:Nat->Option O) (n b:Nat):Fi rs r .ret ⟨sl,u,h,n,b⟩=znt sl h rs [] (fun v=>reify h v=some r) ⟨0⟩:=by
 rw[Fi,zyk,ziS]
def FiR (rs:List Res) (P:V->(Nat->Option O)->Nat->Prop) (e:Ex) (m:M):Prop:=zxA rs P e m
@[go_sem ↓]theorem zA4 (rs:List Res) (P:V->(Nat->Option O)->Nat->Prop) (sl:Nat->Slot) (u:Nat->Bool) (h:Nat->Option O) (n b:Nat):FiR rs P .ret ⟨sl,u,h,n,b⟩=znt sl h rs [] (fun v=>SpN (P v h n) ⟨0⟩) ⟨0⟩:=by
 rw[FiR,zwx,<- ziS sl u h n b];rfl
@[go_sem ↓]theorem zA5 (rs:List Res) (P:V->(Nat->Option O)->Nat->Prop) (sl:Nat->Slot) (u:Nat->Bool) (h:Nat->Option O) (n b:Nat):FiR rs P .normal ⟨sl,u,h,n,b⟩=znt sl h rs [] (fun v=>SpN (P v h n) ⟨0⟩) ⟨0⟩:=by
 rw[FiR,zwy,<- ziS sl u h n b];rfl
theorem zag {g:Nat} {args:List V} {fn:F} {r:V} (hg:Γ g=some fn) (hr:fn.raw=false)
 (h:wC Γ G fn.body (qOf Γ G [] (Fi fn.results r)) ⟨slotsC args 0,fun _=>false,fun _=>none,0,0⟩ ⟨0⟩):Den Γ G g args=some r:=zyV hg hr (by unfold wC at h;rw[zbS,zcz,ziG]at h;exact h)
theorem zay {g:Nat} {args:List V} {fn:F} {hp:Nat->Option O} {n:Nat} {P:V->(Nat->Option O)->Nat->Prop} (hg:Γ g=some fn) (hr:fn.raw=true)
 (h:wC Γ G fn.body (qOf Γ G [] (FiR fn.results P)) ⟨slotsC args 0,fun _=>false,hp,n,n⟩ ⟨0⟩): ∃r h' n',DenR Γ G g args hp n=some (r,h',n')/\P r h' n':=zw9 hg hr (by unfold wC at h;rw[zbS,zcz,ziG]at h;exact h)
theorem zaT {b:C} {sl:Nat->Slot} {us:Nat->Bool} {nx ba:Nat} {Q:Ex->M->Prop} {w:W3 b Q ⟨sl,us,fun _=>none,nx,ba⟩} (k:Nat) (n:Nat) (Inv:Nat->(Nat->Slot)->Prop) (hW:b.wrIn (zjJ k)=true) (hH:b.noH=true)
 (h0:Inv 0 sl)
 (h: ∀i f u x bs,i<=n->Inv i f->wC Γ G b (qOf Γ G [] (zf8 (fun m'=>SpN (i<n/\Inv (i+1) m'.sl) ⟨0⟩) Q)) ⟨ovrM k f sl,u,fun _=>none,x,bs⟩ ⟨0⟩):wL Γ G b Q ⟨sl,us,fun _=>none,nx,ba⟩ w:=
 by
  unfold wL;rw[zfi];exact zBA _ n Inv hW hH h0 (by unfold ovrM wC at h;rw[zlr,zbS,zcz]at h;exact h)
theorem zaq {b:C} {sl:Nat->Slot} {us:Nat->Bool} {hp:Nat->Option O} {nx ba:Nat} {Q:Ex->M->Prop} {w:W3 b Q ⟨sl,us,hp,nx,ba⟩} (k:Nat) (n:Nat) (Inv:Nat->(Nat->Slot)->(Nat->Option O)->Nat->Prop) (hW:b.wrIn (zjJ k)=true)
 (h0:Inv 0 sl hp nx)
 (h: ∀i f u h x bs,i<=n->Inv i f h x->wC Γ G b (qOf Γ G [] (zf8 (fun m'=>SpN (i<n/\Inv (i+1) m'.sl m'.heap m'.nxt) ⟨0⟩) Q)) ⟨ovrM k f sl,u,h,x,bs⟩ ⟨0⟩):wL Γ G b Q ⟨sl,us,hp,nx,ba⟩ w:=
 by
  unfold wL;rw[zfi];exact zyB _ n Inv hW h0 (by unfold ovrM wC at h;rw[zlr,zbS,zcz]at h;exact h)
@[go_sem ↓]theorem zB5 (sl:Nat->Slot) (u:Nat->Bool) (h:Nat->Option O) (n b:Nat):(M.mk sl u h n b).sl=sl:=rfl
end
end Rg
namespace Rg
open Go
end Rg
namespace Rg
open Go
theorem zas {o:Option (V×(Nat->Option O)×Nat)} {P:V->(Nat->Option O)->Nat->Prop} {K:V->(Nat->Option O)->Nat->Prop} {w:WK K}
 (h: ∃r h' n',o=some (r,h',n')/\P r h' n') (hk: ∀r h' n',P r h' n'->K r h' n'):zvK false o K w:=by
 obtain⟨r,h',n',rfl,hp⟩:=h;exact⟨rfl,hk r h' n' hp⟩
attribute [go_sem] List.isEmpty_cons List.isEmpty_nil List.set_cons_zero List.set_cons_succ Nat.lt_add_one Nat.zero_add Option.isSome_some ne_eq Int.cast_ofNat_Int decide_true decide_false not_false_eq_true not_true_eq_false and_self exists_eq_left' V.t.injEq T.bool.injEq T.int.injEq V.agg.injEq V.tup.injEq List.cons.injEq
end Rg
end
section
namespace Rg
open Go
def zcO (op:Int):Int:=
 if 1<=op/\op<=3 then 0 else if op=4 then 1 else if 5<=op/\op<=13 then 2 else if op=14 then 3 else -1
def zbk (e:Expr):Bool:=
 if zcO e.op≠e.kids.length\/e.w<1\/e.w>8 then false
 else if e.op=1 then decide (0<=e.n/\e.n<2^e.w.toNat)
 else if e.op=2\/e.op=3 then decide (0<=e.n/\e.n<32)
 else if e.op=4 then decide (e.n=0/\e.kw 0=e.w)
 else if e.op=11\/e.op=12\/e.op=13 then decide (e.n=0/\e.w=1/\e.kw 0=e.kw 1)
 else if e.op=14 then decide (e.n=0/\e.kw 0=1/\e.kw 1=e.w/\e.kw 2=e.w)
 else decide (e.n=0/\e.kw 0=e.w/\e.kw 1=e.w)
def Expr.deep:Nat->Expr->Bool
 | 0,_=>false
 | d+1,e=>zbk e&&e.kids.all (Expr.deep d)
end Rg
end
section
-- FULL
namespace Rg
open Go
set_option maxHeartbeats 2000000
end Rg
end
section
namespace Rg
open Go
def Expr.formed (e:Expr):Bool:=decide (e.size<=600)&&e.deep 40
def atI (l:List Int) (n:Int):Int:=l.getD n.toNat 0
def opv (op w a b c:Int):Int:=
 if op=4 then 2^w.toNat-1-a
 else if op=5 then((a.toNat&&& b.toNat:Nat):Int)
 else if op=6 then((a.toNat ||| b.toNat:Nat):Int)
 else if op=7 then((a.toNat^^^ b.toNat:Nat):Int)
 else if op=8 then(a+b) % 2^w.toNat
 else if op=9 then(a-b) % 2^w.toNat
 else if op=10 then a*b % 2^w.toNat
 else if op=11 then(if a=b then 1 else 0)
 else if op=12 then(if a<b then 1 else 0)
 else if op=13 then(if a<=b then 1 else 0)
 else(if a=1 then b else c)
end Rg
end
section
-- FULL
-- APPS
namespace Rg
open Go
namespace Expr
mutual
def ev (old now:List Int):Expr->Int
 | .mk op w n ks=>if op=1 then n else if op=2 then atI now n % 2^w.toNat else if op=3 then atI old n % 2^w.toNat
   else opv op w ((evs old now ks).getD 0 0) ((evs old now ks).getD 1 0) ((evs old now ks).getD 2 0)
def evs (old now:List Int):List Expr->List Int
 | []=>[]
 | e::r=>ev old now e::evs old now r
end
end Expr
def Expr.eval (e:Expr) (old now:List Int):Int:=if e.formed then e.ev old now else 0
end Rg
end
section
namespace Rg
open Go
end Rg
end
section
namespace Rg
open Go
def Expr.one (e:Expr):Bool:=decide (e.op=1/\e.w=1/\e.n=1/\e.kids=[])
end Rg
end
section
namespace Rg
open Go
namespace Expr
mutual
def lv:Expr->List Expr
 | .mk o w n []=>[.mk o w n []]
 | .mk o w n (k::ks)=>lv k++lvs ks
def lvs:List Expr->List Expr
 | []=>[]
 | e::r=>lv e++lvs r
end
end Expr
end Rg
end
section
-- FULL
namespace Rg
open Go
end Rg
end
section
-- APPS
namespace Rg
open Go
def Own (h:Nat->Option O) (x:Nat) (v:V) (sz:Nat) (rows:List (List V)):Prop:=
 (v= .t .nils/\rows=[])\/ ∃k,v= .ms k 0 rows.length/\k<x/\h k=some (.rows sz rows false)
theorem zei {α β:Type} (f:α->Option β): ∀(l:List α) (r:List β),(∀i:Nat,∀a,l[i]? =some a-> ∃b,r[i]? =some b/\f a=some b)->l.length=r.length->l.mapM f=some r
 | [],[],_,_=>rfl
 | [],_::_,_,h=>by simp at h
 | _::_,[],_,h=>by simp at h
 | a::l,b::r,h,hl=>by
   rw[List.mapM_cons];obtain⟨b',hb,hf⟩:=h 0 a rfl;simp at hb;subst hb;rw[hf,zei f l r (fun i a' ha=>by simpa using h (i+1) a' (by simpa using ha)) (by simpa using hl)];rfl
theorem zdJ (h:Nat->Option O) (d:Nat) (es:List (List T)) (hn: ∀e∈es,∀t∈e,T.norm t=t):
 (es.map (·.map V.t)).mapM (fun row=>row.mapM (toT h d))=some es:=by
 refine zei _ _ _ (fun i a ha=> ?_) (by simp);rw[zJ]at ha
 cases he:es[i]? with
 | none=>rw[he]at ha;simp at ha
 | some e=>
   rw[he]at ha;simp only[Option.map_some,zA]at ha;subst ha;refine⟨e,rfl,?_⟩;refine zei _ _ _ (fun j b hb=> ?_) (by simp);rw[zJ]at hb
   cases ht:e[j]? with
   | none=>rw[ht]at hb;simp at hb
   | some t=>
     rw[ht]at hb;simp only[Option.map_some,zA]at hb;subst hb;have:=hn e (zL he) t (zL ht);refine⟨t,rfl,?_⟩;cases d<;>simp[toT,this]
theorem zcc {h:Nat->Option O} {x:Nat} {v:V} {sz:Nat} {es:List (List T)} (ho:Own h x v sz (es.map (·.map V.t))) (hn: ∀e∈es,∀t∈e,T.norm t=t):
 toT h 1000 v=some (.sl es):=by
 rcases ho with⟨rfl,he⟩ | ⟨k,rfl,hk,hh⟩
 ·have:es=[]:=by simpa using he
  subst this;rfl
 ·rw[toT,hh];simp only[rd,Nat.zero_add,Nat.le_refl,if_true,List.drop_zero,List.take_length,zC,zD];rw[zdJ h 999 es hn];rfl
theorem zbP (l:List Int): ∀e∈(l.map fun n=>[ti n]),∀t∈e,T.norm t=t:=by
 intro e he t ht;obtain⟨n,_,rfl⟩:=List.mem_map.1 he;simp at ht;subst ht;rfl
def zae (l:List Int):List (List V):=(l.map fun n=>[ti n]).map (·.map V.t)
theorem zab (l:List Int):(zae l).length=l.length:=by simp[zae]
end Rg
end
section
-- FULL
namespace Rg
open Go
end Rg
end
section
-- FULL
namespace Rg
open Go
end Rg
end
section
-- APPS
namespace Rg
open Go
end Rg
end
section
-- FULL
namespace Rg
open Go
end Rg
end
section
namespace Rg
open Go
namespace Expr
mutual
def beq:Expr->Expr->Bool
 | .mk o w n k,.mk o' w' n' k'=>decide (o=o'/\w=w'/\n=n')&&zCP k k'
def zCP:List Expr->List Expr->Bool
 | [],[]=>true
 | e::r,e'::r'=>beq e e'&&zCP r r'
 | _,_=>false
end
end Expr
end Rg
end
