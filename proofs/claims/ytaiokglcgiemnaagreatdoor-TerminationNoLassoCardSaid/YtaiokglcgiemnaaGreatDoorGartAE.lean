/- Part of the proof of laws of relyguardlaw36. No condition. -/
import Derived.Test.YtaiokglcgiemnaaGreatDoorGartAD
import Derived.RangeFuncRecord
set_option linter.unusedVariables false
set_option linter.defProp false
set_option linter.unusedSimpArgs false
section
namespace Rg
open Go
section
variable {P:Program} {N:Nam} {I:Inv} {c:Ctx} {ns p:Nat} {A:Nat->Prop} {μ lam:Nat->Nat} {s:St} {a:Act} {w:World} {e:Eff} {o:Oper} {ro:Option Nat}
theorem Rel.bare (R:Rel N c ns A μ lam s a w):Rel N ⟨w,MBH s.heap μ,A,s.heap,μ⟩ 0 A μ lam (.init [] s.heap s.nxt) dr w where
 size:=rfl
 defers:=d7.nil _ _ _
 env t:=by simp[St.init,mU,dr,aO]
 loc t cs h:=by simp[St.init]at h
 adr t b o h:=by simp[St.init]at h
 heap:=R.heap
 hinj:=R.hinj
 linj t t' h:=by simp[St.init]at h
 lh t k o h:=by simp[St.init]at h
 aH:=R.aH
 aL r _:=by rintro⟨t,h,_⟩;simp[St.init]at h
 alt:=R.alt
 afz:=R.afz
 fresh:=R.fresh
 glob:=R.glob
 cout:=⟨rfl,rfl⟩
 csize:=ay _
 ckeep _ _ _:=rfl
 cshp _ _ h:=h
 csub _ h:=h
 canew _ h:=.inl h
 clive _ h:=.inl h
 cloc t h:=by simp[St.init]at h
 chp k o h:=⟨o,h,O.le_refl o,fun _=>rfl⟩
theorem Rel.back (R:Rel N c ns A μ lam s a w) {l:Nat->Prop} {μ' lam':Nat->Nat} {n:ae} {K:Nat} {w':World}
 (b:Rel N ⟨w,MBH s.heap μ,A,s.heap,μ⟩ 0 l μ' lam' (.init [] n K) dr w'):
 Evo w A μ s.heap w' l μ' n/\Rel N c ns l μ' lam { s with heap:=n,nxt:=K } a w':=by
 have E:Evo w A μ s.heap w' l μ' n:=⟨fun r h=>b.ckeep r (R.alt r h) (R.aH r h),b.csub,b.chp,b.cshp⟩
 have y: ∀t r,(s.loc t).isSome=true->MBH s.heap μ r->lam t≠r:=by
  rintro t r i ⟨k,o,z,_,j,rfl⟩;exact R.lh t k o i z j
 have Q:w.heap.size<=w'.heap.size:=b.csize;have v: ∀r,l r->A r\/MBH s.heap μ r\/w.heap.size<=r:=b.canew
 have S: ∀k o,n k=some o->o.live=true->l (μ' k)\/MBH s.heap μ (μ' k)\/w.heap.size<=μ' k:=by
  intro k o h j
  by_cases J: ∃q rs,o= .rows q rs true
  ·obtain⟨q,rs,rfl⟩:=J;exact .inl (b.afz k q rs h)
  ·exact .inr (b.clive _ ⟨k,o,h,fun q rs e=>J ⟨q,rs,e⟩,j,rfl⟩)
 have F: ∀r:Nat,w.heap[r]? =some (Obj.deferred (some []))-> ¬MBH s.heap μ r:=by
  rintro r h ⟨k,o,z,_,j,rfl⟩;exact R.ndef z j h
 have U: ∀r:Nat,w.heap[r]? =some (Obj.deferred (some []))->w'.heap[r]? =w.heap[r]? :=fun r h=>b.ckeep r (gQ.1 h).1 (F r h)
 have V: ∀r:Nat,w.heap[r]? =some (Obj.deferred (some []))->l r->A r:=by
  intro r h C;rcases v r C with f | f | f
  ·exact f
  ·exact absurd f (F r h)
  ·have:=(gQ.1 h).1;omega
 refine⟨E,{ R with defers:=R.defers.evo U V,env:=fun t=>(R.env t).evo E,loc:= ?_,heap:=b.heap,hinj:=b.hinj,lh:= ?_,aH:=b.aH,aL:= ?_,alt:=b.alt,afz:=b.afz,fresh:=b.fresh,glob:=b.glob,cout:=⟨b.cout.1.trans R.cout.1,b.cout.2.trans R.cout.2⟩,csize:=cU R.csize Q,ckeep:= ?_,cshp:= ?_,csub:= ?_,canew:= ?_,clive:= ?_,chp:= ?_ }⟩
 ·intro t cs h;obtain⟨f,g⟩:=R.loc t cs h;have i:(s.loc t).isSome=true:=by rw[h];rfl
  exact⟨f,g.evo E (b.ckeep _ (R.lt_loc i) (fun B=>y t _ i B rfl))⟩
 ·intro t k o i h j m;rcases S k o h j with f | f | f
  ·rcases v _ f with g | g | g
   ·exact R.aL _ g ⟨t,i,m⟩
   ·exact y t _ i g m
   ·have:=R.lt_loc i;omega
  ·exact y t _ i f m
  ·have:=R.lt_loc i;omega
 ·rintro r C ⟨t,i,m⟩;rcases v r C with g | g | g
  ·exact R.aL _ g ⟨t,i,m⟩
  ·exact y t _ i g m
  ·have:=R.lt_loc i;omega
 ·intro r f g;rw[b.ckeep r (fw f R.csize) ?_]
  ·exact R.ckeep r f g
  ·intro B;rcases R.clive r B with h | h
   ·exact g h
   ·omega
 ·intro r x h;exact b.cshp r x (R.cshp r x h)
 ·intro r h;exact b.csub r (R.csub r h)
 ·intro r h;rcases v r h with h | h | h
  ·exact R.canew r h
  ·exact .inr (R.clive r h)
  ·exact .inr (.inr (cU R.csize h))
 ·intro r h;rcases b.clive r h with h | h
  ·exact R.clive r h
  ·exact .inr (cU R.csize h)
 ·intro k o h;obtain⟨D,f,g,X⟩:=R.chp k o h;obtain⟨L,Y,Z,h6⟩:=b.chp k D f;refine⟨L,Y,O.le_trans g Z,fun j=> ?_⟩
  have M:D.live=true:=by
   cases D<;>first | rfl | (cases L<;>simp_all [O.le,O.live])
  have H:=h6 j;have W:=X M;simp only at H;rw[H,W]
theorem ka8 (l:I.Ok N) (R:Rel N c ns A μ lam s a w) {b:Call} {f:Operand} {j:Opd} {args':List Opd} {k:V} {g:Nat} {as bs vs:List V} {r:V} {rf:Func} {i:ae} {n:Nat} {Q:Exit->Act->World->Prop}
 (m:o.op= .call b) (M:b.callee= .value f) (W:opd I f=some j) (B:opds I b.args=some args') (t:evl N.G s j=some k) (z:cG k=some (g,as,bs))
 (q:Real P (N.nm g) rf) (y:cY N.G s args'=some vs) (S:m0 P N g (as++vs++bs) s.heap s.nxt r i n)
 (U: ∀x,o.dst=some x->x<ns) (D:s.free o.dst {}):
 o.wpIn (FW ro) 0 P a w (fun K w'=> ∃h μ' lam',Rel N c ns h μ' lam' ({ s with heap:=i,nxt:=n }.apply o.dst { val:=r }) K w') Q:=by
 obtain⟨Z,vb,Y,L,E⟩:=uS (bx l R W t) z;have C:fD w A N.nm μ s.heap (b.args.map a.eval) vs:=nv l R B y;have F:=S _ A μ lam w _ R.bare ((L.append C).append E);refine⟨fun _ _=>trivial,?_⟩;rw[o.semAt_eq _ _ (by rw[m];simp),xo m M Y q,Oper.uponIn_enter];refine⟨sg,t_ (F.mono ?_)⟩;rintro e w' ⟨v,h,μ',lam',rfl,H,X⟩;obtain⟨_,J⟩:=R.back H;exact⟨h,μ',lam,J.put o.dst { val:=r } v U D rfl rfl rfl X af⟩
theorem zf {g:Nat} {r:V} {h:ae} {e:Eff} (b:ja g r h=some e): ∀x∈e.hp,x.1=g:=by
 unfold ja at b;split at b
 ·simp only[zA]at b;subst b;intro x f;simp at f
 ·simp only[zA]at b;subst b;intro x f;simp at f
 ·split at b
  ·split at b
   ·simp only[zA]at b;subst b;intro x f;simp only[bB]at f;rw[f]
   ·simp at b
  ·simp at b
 ·simp at b
theorem rx {f:Nat} {r:V} {h:ae} {e:Eff} (b:ja f r h=some e):e.adr=none/\e.loc=none/\e.wloc=none:=by
 unfold ja at b;split at b
 ·simp only[zA]at b;subst b;exact⟨rfl,rfl,rfl⟩
 ·simp only[zA]at b;subst b;exact⟨rfl,rfl,rfl⟩
 ·split at b
  ·split at b
   ·simp only[zA]at b;subst b;exact⟨rfl,rfl,rfl⟩
   ·simp at b
  ·simp at b
 ·simp at b
theorem Yv (hI:I.Ok N) (R:Rel N c ns A μ lam s a w) {J:Call} {f:Operand} {f':Opd} {args':List Opd} {fv:V} {g:Nat} {as bs vs rs:List V} {r:V} {rf:Func} {U:ae} {n':Nat} {e:Eff} {Q:Exit->Act->World->Prop}
 (ho:o.op= .call J) (hb:J.callee= .value f) (hf:opd I f=some f') (B0:opds I J.args=some args') (As:evl N.G s f'=some fv) (Ax:cG fv=some (g,as,bs))
 (An:Real P (N.nm g) rf) (Au:cY N.G s args'=some vs) (AD:(as++vs++bs).mapM (toT1 s.heap)=some rs) (EA:(as++vs++bs).flatMap (b_ s.heap)=[]) (hc:m0 P N g rs (fun _=>none) 0 r U n')
 (m:ja (s.bas+p) r U=some e) (hd: ∀x,o.dst=some x->x<ns) (Bd:s.free o.dst {}) (F:s.heap (s.bas+p)=none) (hn:s.bas+p<s.nxt):
 o.wpIn (FW ro) 0 P a w (fun a' w'=> ∃C μ' lam',Rel N c ns C μ' lam' (s.apply o.dst e) a' w') Q:=by
 obtain⟨va,vb,hv,ha,Bf⟩:=uS (bx hI R hf As) Ax;have BE:fD w A N.nm μ s.heap (J.args.map a.eval) vs:=nv hI R B0 Au;have Aa:=(ha.append BE).append Bf;obtain⟨m1,m2⟩:=fU AD
 have Ae:fD w A N.nm (fun _=>0) (fun _=>none) (va++J.args.map a.eval++vb) rs:=by
  refine⟨by rw[Aa.1,m1],fun i x hi=> ?_⟩;obtain⟨y,hy,M⟩:=m2 i x hi;obtain⟨v,hv,L⟩:=Aa.2 i y hy;refine⟨v,hv,((xx R.heap M L (fun _=>0) (fun _=>none)).mono ?_).toV⟩;rintro q (h | ⟨k,F,X⟩)
  ·exact h
  ·have:b_ s.heap y=[]:=by
    rw[no]at EA;exact EA y (zL hy)
   rw[this]at F;simp at F
 have HR:Rel N ⟨w,fun _=>False,A,fun _=>none,fun _=>0⟩ 0 A (fun _=>0) (fun _=>0) (.init [] (fun _=>none) 0) dr w:=
  { size:=rfl,defers:=d7.nil _ _ _,env:=fun t=>by simp[St.init,mU,dr,aO],loc:=fun t cs h=>by simp[St.init]at h,adr:=fun t b o h=>by simp[St.init]at h,
    heap:=fun k o h=>by simp[St.init]at h,hinj:=fun k k' o o' h=>by simp[St.init]at h,linj:=fun t t' h=>by simp[St.init]at h,lh:=fun t k o h=>by simp[St.init]at h,
    aH:=fun r _=>by rintro⟨k,o,h,_⟩;simp[St.init]at h,aL:=fun r _=>by rintro⟨t,h,_⟩;simp[St.init]at h,alt:=R.alt,afz:=fun k E rs h=>by simp[St.init]at h,fresh:=fun _ _=>rfl,
    glob:=R.glob,cout:=⟨rfl,rfl⟩,csize:=ay _,ckeep:=fun _ _ _=>rfl,cshp:=fun _ _ h=>h,csub:=fun _ h=>h,canew:=fun _ h=> .inl h,clive:=fun r=>by rintro⟨k,o,h,_⟩;simp[St.init]at h,
    cloc:=fun t h=>by simp[St.init]at h,chp:=fun k o h=>by simp at h }
 have Da:=hc _ A (fun _=>0) (fun _=>0) w _ HR Ae;refine⟨fun _ _=>trivial,?_⟩;rw[o.semAt_eq _ _ (by rw[ho];simp),xo ho hb hv An,Oper.uponIn_enter];refine⟨sg,t_ (Da.mono ?_)⟩;rintro e0 w' ⟨v,C,μ',lam',rfl,D,DY⟩;have H: ∀q,q<w.heap.size->w'.heap[q]? =w.heap[q]? :=fun q B=>D.ckeep q B (fun h=>h)
 have AS:w.heap.size<=w'.heap.size:=D.csize
 have W:Rel N c ns A μ lam s a w':=by
  refine R.world AS ?_ (fun r L _=>H r (fw L R.csize)) D.cshp (R.defers.evo (fun r h=>H r (gQ.1 h).1) (fun _ _ h=>h)) D.cout;rintro r (h | ⟨t,h,rfl⟩ | ⟨k,o',h,hl,rfl⟩)
  ·exact H r (R.alt r h)
  ·exact H _ (R.lt_loc h)
  ·exact H _ (R.lt_live h hl)
 unfold ja at m;split at m
 ·simp only[zA]at m;subst m;have D7:RepT w' C N.nm v .nils:=DY.t_inv;refine⟨A,μ,lam,W.put o.dst { val:=.t .nils } v hd Bd rfl rfl rfl ?_ af⟩
  cases D7 with
  | nils a=>exact(RepC.t (.nils a)).toV
 ·simp only[zA]at m;subst m;have D7:RepT w' C N.nm v (.sl []):=DY.t_inv;refine⟨A,μ,lam,W.put o.dst { val:=.t (.sl []) } v hd Bd rfl rfl rfl ?_ af⟩
  cases D7 with
  | sl0 a cap=>exact(RepC.t (.sl0 a cap)).toV
  | sl _ _ _ _ _ _ h0=>exact absurd h0 af
 ·rename_i k i n;split at m
  ·rename_i E l S;split at m
   ·rename_i Bw;obtain⟨rfl,rfl,FS⟩:=Bw;simp only[zA]at m;subst m;have GA:=D.heap k _ S;have D1:MBH (St.init [] U n').heap μ' (μ' k):=⟨k,_,S,by intro E rs h;simp at h,rfl,rfl⟩
    have OX:w.heap.size<=μ' k:=by
     rcases D.clive _ D1 with h | h
     ·exact h.elim
     ·exact h
    have B: ¬C (μ' k):=fun h=>D.aH _ h D1
    have R2:=W.growA (fun q=>C q/\w.heap.size<=q) (fun q B t M=>by have:=R.lt_loc M;omega) (fun q B k o F hl=>by have:=R.lt_live F hl;omega)
     (fun q B=> .inr (by have:=R.csize;omega)) (fun q B=>D.alt q B.1) (R.defers.join W.defers (fun q B=>B.2))
    have Rs: ∀q,C q->A q\/(C q/\w.heap.size<=q):=by
     intro q B;rcases D.canew q B with h | h | h
     ·exact .inl h
     ·exact h.elim
     ·exact .inr ⟨B,h⟩
    have Dl:Orphan c (fun q=>A q\/(C q/\w.heap.size<=q)) μ lam s (μ' k):=by
     refine⟨?_,fun t M e=> ?_,fun k1 o1 K l1 e=> ?_,.inr (by have:=R.csize;omega)⟩
     ·rintro(h | h)
      ·have:=R.alt _ h;omega
      ·exact B h.1
     ·have:=R.lt_loc M;omega
     ·have:=R.lt_live K l1;omega
    obtain⟨cc,e1,z,g1,g2,g3,g4,g5⟩:=GA
    have MX: ∀(i:Nat) (row:List V) (j:Nat) (x:V),l[i]? =some row->row[j]? =some x-> ∃y,x= .t y:=by
     intro i row j x hi Y;have K:=zN.1 FS row (zL hi);have X:=zN.1 K x (zL Y)
     cases x with
     | t y=>exact⟨y,rfl⟩
     | _=>simp[V.isTr]at X
    have KW:i7 w' (fun q=>A q\/(C q/\w.heap.size<=q)) N μ s.heap (μ' k) (.rows E l false):=by
     refine⟨cc,e1,z,g1,g2,g3,g4,fun i row j x hi Y=> ?_⟩;obtain⟨y,rfl⟩:=MX i row j x hi Y;obtain⟨u,hu,L⟩:=g5 i row j _ hi Y;refine⟨u,hu,.t ?_⟩
     cases L with
     | t h=>exact h.mono (fun _ _=>rfl) Rs
    have R3:=R2.adoptH (k:=s.bas+p) F hn Dl KW (by intro E rs h;simp at h)
    have IZ:aO w' (fun q=>A q\/(C q/\w.heap.size<=q)) N.nm (upd μ (s.bas+p) (μ' k)) (upd s.heap (s.bas+p) (some (.rows E l false))) v (.ms (s.bas+p) 0 l.length):=by
     cases(DY:RepC w' C N.nm μ' U v _)with
     | ms _ _ _ cap sz' rs' fz' a' Z AK Bz Gd=>
       have:some (O.rows sz' rs' fz')=some (O.rows E l false):=Z.symm.trans S;cases this;refine RepC.toV (.ms _ _ _ cap E l false a' af AK Bz ?_);rcases Gd with h | ⟨K,e2,n2,X,h3⟩
       ·exact .inl h
       ·exact .inr ⟨by rw[cV];exact K,e2,n2,by rw[cV];exact X,h3⟩
     | dms _ _ _ Z _=>have:=Z.symm.trans S;simp at this
    exact⟨_,_,lam,R3.put o.dst { val:=.ms (s.bas+p) 0 l.length } v hd Bd rfl rfl rfl IZ af⟩
   ·simp at m
  ·simp at m
 ·simp at m
theorem N7 {H:ae} {n:Nat} (f:Rel N c 0 A μ lam (.init [] H n) dr w) {vs:Array Value} {xs:List V} (h:fD w A N.nm μ H vs xs) (k:Nat):
 Rel N c (vs++Array.replicate (k-vs.size) undef).size A μ lam (.init xs H n) { tmps:=vs++Array.replicate (k-vs.size) undef,defers:=[] } w where
 size:=rfl
 defers:=d7.nil _ _ _
 env t:=by
  show aO w A N.nm μ H ((vs++Array.replicate (k-vs.size) undef).getD t undef) (xs.getD t .undef)
  by_cases j:t<xs.length
  ·obtain⟨v,m,l⟩:=h.2 t xs[t] (zI j)
   have g:(vs++Array.replicate (k-vs.size) undef).getD t undef=v:=by
    rw[ke,rK (by rw[h.1];exact j),m];rfl
   have i:xs.getD t .undef=xs[t]:=by rw[zK,zI j];rfl
   rw[g,i];exact l
  ·have i:xs.getD t .undef= .undef:=by rw[zK,gq aa];rfl
   have g:(vs++Array.replicate (k-vs.size) undef).getD t undef=undef:=by
    rw[ke,Gn (by rw[h.1];omega),Hi];split<;>rfl
   rw[g,i];exact rfl
 loc t cs h:=by simp[St.init]at h
 adr t b o h:=by simp[St.init]at h
 heap:=f.heap
 hinj:=f.hinj
 linj t t' h:=by simp[St.init]at h
 lh t k o h:=by simp[St.init]at h
 aH:=f.aH
 aL r _:=by rintro⟨t,h,_⟩;simp[St.init]at h
 alt:=f.alt
 afz:=f.afz
 fresh:=f.fresh
 glob:=f.glob
 cout:=f.cout
 csize:=f.csize
 ckeep:=f.ckeep
 cshp:=f.cshp
 csub:=f.csub
 canew:=f.canew
 clive:=f.clive
 cloc t h:=by simp[St.init]at h
 chp:=f.chp
theorem N4 (R:Rel N c ns A μ lam s a w):Rel N c 0 A μ lam (.init [] s.heap s.nxt) dr w where
 size:=rfl
 defers:=d7.nil _ _ _
 env t:=by simp[St.init,mU,dr,aO]
 loc t cs h:=by simp[St.init]at h
 adr t b o h:=by simp[St.init]at h
 heap:=R.heap
 hinj:=R.hinj
 linj t t' h:=by simp[St.init]at h
 lh t k o h:=by simp[St.init]at h
 aH:=R.aH
 aL r _:=by rintro⟨t,h,_⟩;simp[St.init]at h
 alt:=R.alt
 afz:=R.afz
 fresh:=R.fresh
 glob:=R.glob
 cout:=R.cout
 csize:=R.csize
 ckeep:=R.ckeep
 cshp:=R.cshp
 csub:=R.csub
 canew:=R.canew
 clive:=R.clive
 cloc t h:=by simp[St.init]at h
 chp:=R.chp
def uM (P:Program):ResultVar->Res->Prop
 | .tmp t,.s t'=>t=t'
 | .cell a ty,.l a' ag n=>a=a'/\typ P ty=some (ag,n)
 | .cell a ty,.h a' ag n=>a=a'/\typ P ty=some (ag,n)
 | _,_=>False
def qy (tmps:Array Value):ResultVar->Sem Value
 | .tmp t=>pure (tmps.getD t undef)
 | .cell a t=>do loadVar t (<- asAddr (tmps.getD a undef))
theorem kcd (R:Rel N c ns A μ lam s a w) {K:ResultVar} {rs:Res} {v:V} (C:uM P K rs) (f:eW s rs=some v): ∃S,(qy a.tmps K).run P w= .ok S w/\cu w A N.nm μ s.heap S v:=by
 cases K with
 | tmp t=>
   cases rs with
   | s Q=>
     cases(C:t=Q);have B:=R.env t;simp only[eW]at f;split at f<;>first | (simp at f;done) | skip
     simp only[zA]at f;subst f;refine⟨_,rfl,?_⟩;rename_i m q y
     revert B m q y
     generalize s.env t=x
     intro B m q y
     cases x<;>first | exact B | exact absurd rfl m | exact absurd rfl q | exact absurd rfl (y _)
   | l _ _ _=>exact C.elim
   | h _ _ _=>exact C.elim
 | cell F ty=>
   cases rs with
   | s Q=>exact C.elim
   | l b ag n=>
     obtain⟨rfl,D⟩:=C;simp only[eW,zC,zB]at f;obtain⟨cs,Z,r,E,J⟩:=f;obtain⟨hp,L,e0,m,q⟩:=R.loc F cs Z;obtain⟨y,M,Y⟩:=q.rd E
     have H:=rr (w:=w) D (lam F) 0 ((L.toList.drop 0).take n) (by simp at M⊢;omega) (fun j v g=>by
      simp only[ij,zO,eu]at g;split at g
      ·simp[World.cell?,m,g]
      ·simp at g)
     exact⟨iT ag ((L.toList.drop 0).take n),by simp only[qy,Sem.run_bind,hp,asAddr,Sem.run_pure,Result.andThen_ok,H],y.wrap1 J⟩
   | h b ag n=>
     obtain⟨rfl,D⟩:=C;have B:=R.env F;simp only[eW]at f;split at f
     ·rename_i k i z W;rw[W]at B;split at f
      ·rename_i sz rs X O;simp only[zC,zB]at f;obtain⟨row,U,r,E,J⟩:=f;obtain⟨hp,_⟩:=aO.mp_inv B O;obtain⟨vs,m,q⟩:=OI R O U;obtain⟨y,M,Y⟩:=m.rd E
       have H:=rr (w:=w) D (μ k) (i*sz+z) ((vs.drop z).take n) (by simp;omega) (fun j v g=>by
        simp only[zO,fx]at g;split at g
        ·rw[nr];exact q _ v g
        ·simp at g)
       exact⟨iT ag ((vs.drop z).take n),by simp only[qy,Sem.run_bind,hp,asAddr,Sem.run_pure,Result.andThen_ok,H],y.wrap1 J⟩
      ·simp at f
     ·simp at f
theorem Su (R:Rel N c ns A μ lam s a w) {rf:Func} {rs:List Res} {v:V} (U:rf.results.toList.length=rs.length) (W: ∀(i:Nat) (x:ResultVar) (y:Res),rf.results.toList[i]? =some x->rs[i]? =some y->uM P x y)
 (f:jk s rs=some v): ∃J,(results rf a.tmps).run P w= .ok J w/\aO w A N.nm μ s.heap J v:=by
 simp only[jk,zC,zB]at f;obtain⟨vs,L,f⟩:=f
 have H: ∀(l:List ResultVar) (rs:List Res) (vs:List V),l.length=rs.length->(∀(i:Nat) (x:ResultVar) (y:Res),l[i]? =some x->rs[i]? =some y->uM P x y)->rs.mapM (eW s)=some vs->
  ∃b:List Value,(l.mapM (m:=Sem) (qy a.tmps)).run P w= .ok b w/\b.length=vs.length/\ ∀(i:Nat) (x:V),vs[i]? =some x-> ∃u,b[i]? =some u/\cu w A N.nm μ s.heap u x:=by
  intro l
  induction l with
  | nil=>
    intro rs vs B _ n;have:rs=[]:=lx.1 (al B.symm);subst this;simp at n;subst n
    exact⟨[],af,rfl,af⟩
  | cons x l Y=>
    intro rs vs B C n
    cases rs with
    | nil=>simp at B
    | cons y rs=>
      simp only[cQ,zC,zB,Option.pure_def,zA]at n;obtain⟨z,X,zs,M,rfl⟩:=n;obtain⟨u,j,E⟩:=kcd (P:=P) R (C 0 x y rfl rfl) X;obtain⟨b,F,k,t⟩:=Y rs zs (al B) (fun i Z y' Q S=>C (i+1) Z y' (al Q) (al S)) M;refine⟨u::b,by simp only[cQ,Sem.run_bind,j,F,Result.andThen_ok,Sem.run_pure],by simp[k],fun i q g=> ?_⟩
      cases i with
      | zero=>simp at g;subst g;exact⟨u,rfl,E⟩
      | succ i=>simp at g;simpa using t i q g
 obtain⟨b,F,k,t⟩:=H _ rs vs U W L
 have K:(results rf a.tmps).run P w= .ok (if h:b.toArray.size=1 then b.toArray[0]else .tuple b.toArray) w:=by
  have:(rf.results.mapM (m:=Sem) (qy a.tmps)).run P w= .ok b.toArray w:=by
   rw[GX];simp only[Sem.run_map,F,Result.andThen_ok]
  have C:results rf a.tmps=(do let vs<- rf.results.mapM (m:=Sem) (qy a.tmps);pure (if h:vs.size=1 then vs[0]else .tuple vs)):=by
   unfold results
   congr 1
  rw[C];simp only[Sem.run_bind,this,Result.andThen_ok,Sem.run_pure]
 refine⟨_,K,?_⟩;split at f
 ·rename_i x;simp only[zA]at f;subst f;obtain⟨u,j,E⟩:=t 0 _ rfl
  match b,k,j with
  | [u'],_,j=>simp at j;subst j;simpa using E.toV
 ·rename_i D;simp only[zA]at f;subst f
  have O:b.length≠1:=by
   intro h;rw[k]at h
   match vs,h,D with
   | [x],_,D=>exact D x rfl
  rw[dif_neg (al O)];exact⟨b.toArray,rfl,al k,fun i q g=>al (t i q g)⟩
end
def Ex.jump:Ex->Option Code
 | .normal=>none
 | .exit id=>some (.exit id)
 | .ret=>some .ret
theorem Ex.toL_rel (e:Ex):e.toL.rel (if e.jump.isNone then .ready else .done) e.jump:=by
 cases e<;>simp[Ex.toL,LSt.rel,Ex.jump]
theorem Ex.jump_none (e:Ex):e.jump.isNone=decide (e=Ex.normal):=by
 cases e<;>simp[Ex.jump]
theorem JQ {w:World} {r:Nat} {L:Go.Loop} (o:Go.Obj) (h:w.heap[r]? =some (.loop L)) (q:Nat) (x:TypeId×Nat) (b:w.shape? q=some x):(w.putObj r o).shape? q=some x:=by
 by_cases e:q=r
 ·subst e;simp[World.shape?,h]at b
 ·simpa[World.shape?,World.putObj_heap_other e]using b
theorem OJ {Rp:Value->V->Prop}: ∀(b:List Nat) (f:List Value) (vs:List V) (tmps:Array Value) (env:Nat->V),f.length=b.length->vs.length=b.length->(∀t∈b,t<tmps.size)->
 (∀(i:Nat) (v:V),vs[i]? =some v-> ∃u,f[i]? =some u/\Rp u v)->(∀t,Rp (tmps.getD t undef) (env t))->
 ((b.zip f).foldl (fun(tmps:Array Value) (x:Nat×Value)=>tmps.setIfInBounds x.1 x.2) tmps).size=tmps.size/\
   ∀t,Rp (((b.zip f).foldl (fun(tmps:Array Value) (x:Nat×Value)=>tmps.setIfInBounds x.1 x.2) tmps).getD t undef) (pU env b vs t)
 | [],f,vs,tmps,env,_,hv,_,_,he=>by
   have:vs=[]:=lx.1 (al hv);subst this
   exact⟨rfl,fun t=>by simpa[pU]using he t⟩
 | p::b,u::f,v::vs,tmps,env,hu,hv,hl,hr,he=>by
   have hp:p<tmps.size:=hl p fh;obtain⟨l,g,j⟩:=hr 0 v rfl;simp only[dv,zA]at g;subst g
   have h:=OJ b f vs (tmps.setIfInBounds p u) (upd env p v) (al hu) (al hv) (fun t k=>al (hl t (gt _ k)))
    (fun i x hi=>by simpa using hr (i+1) x (al hi)) (fun t=>by
      by_cases e:t=p
      ·subst e;simpa[ke,hp]using j
      ·rw[aP _ _ e];have:(tmps.setIfInBounds p u).getD t undef=tmps.getD t undef:=by simp[ke,bX e]
       rw[this];exact he t)
   exact⟨al h.1,fun t=>by simpa[pU]using h.2 t⟩
 | p::b,[],vs,tmps,env,hu,_,_,_,_=>by simp at hu
 | p::b,u::f,[],tmps,env,_,hv,_,_,_=>by simp at hv
section
variable {P:Program} {N:Nam} {I:Inv} {c:Ctx} {ns p:Nat} {A:Nat->Prop} {μ lam:Nat->Nat} {s:St} {a:Act} {w:World} {e:Eff} {o:Oper} {ro:Option Nat}
theorem Zn {H:ae} {n m:Nat} (f:Rel N c 0 A μ lam (.init [] H n) dr w) {tmps:Array Value} {env:Nat->V} (g:tmps.size=m) (h: ∀t,aO w A N.nm μ H (tmps.getD t undef) (env t)):
 Rel N c m A μ lam { env:=env,loc:=fun _=>none,adr:=fun _=>none,used:=fun _=>false,heap:=H,nxt:=n,bas:=n } { tmps:=tmps,defers:=[] } w where
 size:=g
 defers:=d7.nil _ _ _
 env t:=h t
 loc t cs h:=by simp at h
 adr t b o h:=by simp at h
 heap:=f.heap
 hinj:=f.hinj
 linj t t' h:=by simp at h
 lh t k o h:=by simp at h
 aH:=f.aH
 aL r _:=by rintro⟨t,h,_⟩;simp at h
 alt:=f.alt
 afz:=f.afz
 fresh:=f.fresh
 glob:=f.glob
 cout:=f.cout
 csize:=f.csize
 ckeep:=f.ckeep
 cshp:=f.cshp
 csub:=f.csub
 canew:=f.canew
 clive:=f.clive
 cloc t h:=by simp at h
 chp:=f.chp
theorem Rel.setLoop (R:Rel N c ns A μ lam s a w) {k:Nat} {env:Nat->V} {g:List Nat} {b:C} {l st':LSt} (j:s.heap k=some (.loop env g b l)) {L:Go.Loop} (f:w.heap[μ k]? =some (.loop L))
 (state:LoopState) (pending:Option Code) (m:st'.rel state pending):
 Rel N c ns A μ lam { s with heap:=upd s.heap k (some (.loop env g b st')) } a (w.putObj (μ k) (.loop { L with state:=state,pending:=pending })):=by
 obtain⟨i,h,n,v,y,_,z,B⟩:=R.heap k _ j;have:i=L:=by rw[f]at h;cases h;rfl
 subst this;refine R.changeH (k:=k) (o:=.loop env g b l) j trivial rfl af af rfl af (fun r F=>World.putObj_heap_other F) (fun q x D=>JQ _ f q x D) (fun E=> ?_);exact⟨{ i with state:=state,pending:=pending },World.putObj_heap_same (gQ.1 f).1,n,v,y,m,z,fun t=>(B t).evo E⟩
theorem Rel.relabel (R:Rel N c ns A μ lam s a w) {k:Nat} {env:Nat->V} {f:List Nat} {b:C} {g st':LSt} (i:s.heap k=some (.loop env f b g)) (h: ∀x y,g.rel x y->st'.rel x y):
 Rel N c ns A μ lam { s with heap:=upd s.heap k (some (.loop env f b st')) } a w:=by
 refine R.changeH (k:=k) (o:=.loop env f b g) i trivial rfl af af rfl rfl (fun _ _=>rfl) (fun _ _ h=>h) (fun E=> ?_);obtain⟨L,z,j,l,m,n,q,v⟩:=R.heap k _ i;exact⟨L,z,j,l,m,h _ _ n,q,fun t=>(v t).evo E⟩
theorem Ym (hI:I.Ok N) (R:Rel N c ns A μ lam s a w) {g:Call} {f:Operand} {f':Opd} {args':List Opd} {k:Nat} {vs:List V} {env env1 env':Nat->V} {j y n:List Nat} {z cb m l:C} {e:Ex} {M S:St} {Q:Exit->Act->World->Prop}
 (ho:o.op= .call g) (hb:g.callee= .value f) (hf:opd I f=some f') (B0:opds I g.args=some args') (As:evl N.G s f'=some (.yl k))
 (B:s.heap k=some (.loop env j (.round z cb) .ready)) (Au:cY N.G s args'=some vs) (Y:vs.length=j.length)
 (Bi:qO P N z (qS s.heap s.nxt k env j (.round z cb) vs) .normal M) (X:M.heap k=some (.loop env1 y m .enter))
 (CL:qO P N cb { M with heap:=upd M.heap k (some (.loop env1 y m .busy)) } e S) (U:S.heap k=some (.loop env' n l .busy)) (hd: ∀x,o.dst=some x->x<ns) (Bd:s.free o.dst {}):
 o.wpIn (FW ro) 0 P a w (fun a' w'=> ∃D μ' lam',Rel N c ns D μ' lam' ({ s with heap:=upd S.heap k (some (.loop env' n l e.toL)),nxt:=S.nxt }.apply o.dst { val:=.t (.bool (decide (e=Ex.normal))) }) a' w') Q:=by
 have hv:a.eval f= .func (.yield (μ k)) #[] #[]:=by
  have h:RepC w A N.nm μ s.heap (a.eval f) (.yl k):=bx hI R hf As
  generalize a.eval f=u at h⊢
  cases h with
  | yl _ env j b st Z=>rfl
  | dyl _ Z=>rw[B]at Z;cases Z
 obtain⟨L,hL,Cd,Hf,Gc,AE,Ad,Cm⟩:=R.heap k _ B;obtain⟨_,_,NY,Hf⟩:=Hf;obtain⟨_,_,NX,Gc⟩:=Gc;cases NY;cases NX;have BE:fD w A N.nm μ s.heap (g.args.map a.eval) vs:=nv hI R B0 Au;refine⟨fun _ _=>trivial,?_⟩
 have Am:(o.semAt (FW ro).round a.eval).run P w= .ok (.round (μ k) L.fn ((L.params.zip (g.args.map a.eval)).foldl (fun tmps (t,a)=>tmps.setIfInBounds t a) L.tmps) L.assign L.body) w:=by
  rw[o.semAt_eq _ _ (by rw[ho];simp)];have hy:=run_yield (P:=P) (args:=g.args.map a.eval) hL (by rw[BE.1,Y,Cd];simp);simp only[execOp,ho,resolve,hb,Sem.run_bind,hv,Deferred.ofValue,Sem.run_pure,Result.andThen_ok,invoke,Array.empty_append];exact hy
 rw[Am,Oper.uponIn_round];refine⟨sg,roundIn_of_wpIn (F:=FW ro) trivial ?_⟩;have R1:=R.bare.relabel (st':= .enter) B (fun _ _ h=>h.1)
 have E:Evo w A μ s.heap w A μ (upd s.heap k (some (.loop env j (.round z cb) .enter))):=by
  refine⟨fun r h=>rfl,fun _ h=>h,fun q o h=> ?_,fun q x hq=>hq⟩
  by_cases e:q=k
  ·subst e;rw[B]at h;cases h;exact⟨.loop env j (.round z cb) .enter,af,trivial,fun _=>rfl⟩
  ·exact⟨o,by rw[aP _ _ e];exact h,O.le_refl o,fun _=>rfl⟩
 have IA:=OJ (Rp:=fun v x=>aO w A N.nm μ (upd s.heap k (some (.loop env j (.round z cb) .enter))) v x) j (g.args.map a.eval).toList vs L.tmps env
  (by rw[qX,BE.1,Y]) Y Ad (fun i x hi=>let⟨v,hv,hr⟩:=BE.2 i x hi;⟨v,al hv,hr.evo E⟩) (fun t=>(Cm t).evo E)
 have LC:(L.params.zip (g.args.map a.eval)).foldl (fun tmps (t,a)=>tmps.setIfInBounds t a) L.tmps=(j.zip (g.args.map a.eval).toList).foldl (fun(tmps:Array Value) (x:Nat×Value)=>tmps.setIfInBounds x.1 x.2) L.tmps:=by
  rw[Cd,<- we,Array.toList_zip]
 rw[LC];refine wpIn_mono (Bi L.assign L.tmps.size Hf (μ k) _ A μ lam _ _ (Zn R1 IA.1 IA.2)) ?_;rintro e1 a1 w1 ⟨rfl,A1,μ1,lam1,Ra⟩
 have H:μ1 k=μ k:=by
  obtain⟨o',W,_,hm⟩:=Ra.chp k _ B;have:some o'=some (O.loop env1 y m .enter):=W.symm.trans X;cases this;exact hm rfl
 obtain⟨L1,Pv,_,_,_,Nc,_,_⟩:=Ra.heap k _ X;have LR:=run_beginRound (P:=P) Pv Nc;rw[H]at LR;refine⟨_,LR,?_⟩;have Rb:=Ra.setLoop (st':= .busy) X Pv .busy L1.pending rfl;rw[H]at Rb;refine wpIn_mono (CL L.body L.tmps.size Gc (μ k) _ A1 μ1 lam1 _ _ Rb) ?_;rintro e' a' w' ⟨rfl,D,μ',lam',R'⟩;have R2:=N4 R'
 have K:μ' k=μ k:=by
  obtain⟨o',W,_,hm⟩:=R2.chp k _ B;have:some o'=some (O.loop env' n l .busy):=W.symm.trans U;cases this;exact hm rfl
 obtain⟨L',Gg,_⟩:=R2.heap k _ U;have J:=run_endRound (P:=P) e.jump Gg;have R3:=R2.setLoop U Gg _ _ e.toL_rel;obtain⟨_,R4⟩:=R.back R3;have R5:=R4.put o.dst { val:=.t (.bool (decide (e=Ex.normal))) } (.bool e.jump.isNone) hd Bd rfl rfl rfl (by rw[e.jump_none];exact(RepC.t (.bool _)).toV) af;rw[K]at J
 cases e with
 | normal=>exact⟨_,_,J,D,μ',lam,by rw[<- K];exact R5⟩
 | exit id=>exact⟨_,_,J,D,μ',lam,by rw[<- K];exact R5⟩
 | ret=>exact⟨_,_,J,D,μ',lam,by rw[<- K];exact R5⟩
theorem WR (hI:I.Ok N) (R:Rel N c ns A μ lam s a w) {f:Operand} {x:Opd} {j:Array Nat} {asg body:Code} {l cb J:C} {fv:V} {g:Nat} {as bs:List V} {rf:Func} {r:V} {h':ae} {n':Nat}
 {env':Nat->V} {K:List Nat} {L:LSt} {e:Ex} (hf:opd I f=some x) (As:evl N.G s x=some fv) (Ax:cG fv=some (g,as,bs)) (Y:Real P (N.nm g) rf) (Bi:N.cr asg ns l) (Gc:N.cr body ns cb) (Q: ∀t∈j.toList,t<ns)
 (hc:m0 P N g (as++[.yl s.nxt]++bs) (upd s.heap s.nxt (some (.loop s.env j.toList (.round l cb) .ready))) (s.nxt+1) r h' n')
 (W:h' s.nxt=some (.loop env' K J L)) (n:L.ends=some e):
 (Code.rangeFunc f j asg body).wpIn (FW none) 0 P (j_ N c ns e { s with heap:=upd h' s.nxt (some .dead),nxt:=n' }) a w:=by
 refine wpIn_rangeFunc fun fn _=> ?_
 generalize y:Loop.mk .ready none fn a.tmps j asg body w.heap.size=B
 have Oa:=run_enterLoop_outer (P:=P) (w:=w) fn a.tmps j asg body;rw[y]at Oa;have Gv:(w.alloc (Obj.deferred (some []))).heap.size=w.heap.size+1:=af
 generalize S:(w.alloc (Obj.deferred (some []))).alloc (.loop B)=b at Oa
 have BM: ∀q,q<w.heap.size->b.heap[q]? =w.heap[q]? :=by
  intro q X;rw[<- S];simp only[World.alloc,pZ,vR];simp[qp X,qp (Nat.lt_succ_of_lt X)]
 have OC:b.heap[w.heap.size]? =some (Obj.deferred (some [])):=by
  rw[<- S];simp only[World.alloc,pZ,vR];simp
 have C7:b.heap[w.heap.size+1]? =some (.loop B):=by
  rw[<- S,<- Gv];exact World.alloc_heap_new _ _
 have Ra:=R.alloc (Obj.deferred (some []));have Rb:Rel N c ns A μ lam s a b:=by rw[<- S];exact Ra.alloc _
 have Rm:Rel N c ns A μ lam { s with nxt:=s.nxt+1 } a b:={ Rb with fresh:=fun k h=>Rb.fresh k (by simp only at h;omega) }
 have D:Orphan c A μ lam { s with nxt:=s.nxt+1 } (w.heap.size+1):=by
  have:=Ra.orphan_new;rw[Gv]at this;exact⟨this.a,this.l,this.h,this.x⟩
 have GA:i7 b A N μ s.heap (w.heap.size+1) (.loop s.env j.toList (.round l cb) .ready):=by
  refine⟨B,C7,by rw[<- y],⟨l,cb,rfl,by rw[<- y];simp only;rw[R.size];exact Bi⟩,⟨l,cb,rfl,by rw[<- y];simp only;rw[R.size];exact Gc⟩,by rw[<- y];exact⟨rfl,rfl⟩,by rw[<- y];simp only;rw[R.size];exact Q,fun t=> ?_⟩;rw[<- y];exact Rb.env t
 have Rd:=Rm.adoptH (k:=s.nxt) (R.fresh _ (ay _)) (vp _) D GA af
 have AY:evl N.G { s with heap:=upd s.heap s.nxt (some (.loop s.env j.toList (.round l cb) .ready)),nxt:=s.nxt+1 } x=some fv:=by
  cases x<;>exact As
 obtain⟨va,vb,hv,ha,Bf⟩:=uS (bx hI Rd hf AY) Ax
 have Jv:d7 c A b ({ target:=.collected w.heap.size,args:= #[] }::a.defers):=by
  obtain⟨rs,g1,g2,g3⟩:=R.defers;have Q: ∀r∈rs,r<w.heap.size:=fun r E=>(gQ.1 (g3 r E).1).1
  refine⟨w.heap.size::rs,qr.2 ⟨fun h=>lC _ (Q _ h),g1⟩,by rw[aT,<- g2],fun r E=> ?_⟩;rcases cj.1 E with rfl | E
  ·exact⟨OC,fun h=>lC _ (R.alt _ h),R.csize⟩
  ·obtain⟨q1,q2,q3⟩:=g3 r E;exact⟨by rw[BM r (Q r E)];exact q1,q2,q3⟩
 have Re:Rel N c ns A (upd μ s.nxt (w.heap.size+1)) lam { s with heap:=upd s.heap s.nxt (some (.loop s.env j.toList (.round l cb) .ready)),nxt:=s.nxt+1 } { a with defers:={ target:=.collected w.heap.size,args:= #[] }::a.defers } b:=
  { Rd with defers:=Jv }
 have hy:fD b A N.nm (upd μ s.nxt (w.heap.size+1)) (upd s.heap s.nxt (some (.loop s.env j.toList (.round l cb) .ready))) #[.func (.yield (w.heap.size+1)) #[] #[]] [.yl s.nxt]:=by
  refine⟨rfl,fun i z hi=> ?_⟩
  cases i with
  | succ i=>simp at hi
  | zero=>
    simp only[dv,zA]at hi;subst hi;refine⟨_,rfl,RepC.toV ?_⟩;have:=RepC.yl (w:=b) (A:=A) (nm:=N.nm) (μ:=upd μ s.nxt (w.heap.size+1)) (H:=upd s.heap s.nxt (some (.loop s.env j.toList (.round l cb) .ready))) s.nxt s.env j.toList (.round l cb) .ready af;rwa[cV]at this
 have Da:=hc _ A (upd μ s.nxt (w.heap.size+1)) lam b _ Re.bare ((ha.append hy).append Bf);have H8:rf.body.isNone=false:=by have:=Y.b;cases h:rf.body<;>simp_all
 have hn:=Y.n;refine⟨w.heap.size+1,[{ target:=.collected w.heap.size,args:= #[] }],b,{ target:=.fn (.func (N.nm g)) vb,args:=va++ #[.func (.yield (w.heap.size+1)) #[] #[]] },b,N.nm g,_,b,Oa,?_,fun _ _=>trivial,?_,sg,t_ (Da.mono ?_)⟩
 ·have Ob:a.eval (.const (.func (.yield (w.heap.size+1)) #[] #[]))= .func (.yield (w.heap.size+1)) #[] #[]:=rfl;simp only[resolve,hv,Deferred.ofValue,mR,aT,bc,Ob,Sem.run_pure]
 ·simp only[invoke,callFunc,run_program,Y.f,hn,H8,Sem.run_bind,Sem.run_pure,Result.andThen_ok,zG,aX]
 ·rintro e' w' ⟨v,M,μ',lam',rfl,R',_⟩;obtain⟨_,R1⟩:=Re.back R'
  have hμ:μ' s.nxt=w.heap.size+1:=by
   obtain⟨o',AR,_,hm⟩:=R'.chp s.nxt _ (cV _ _ _);have:some o'=some (O.loop env' K J L):=AR.symm.trans W;cases this;rw[hm rfl];exact cV _ _ _
  obtain⟨U,Gg,_,_,_,m,_,_⟩:=R1.heap s.nxt _ W
  have hb:U.state≠ .busy:=by
   cases L with
   | ready=>rw[m.1];simp
   | enter=>simp[LSt.ends]at n
   | busy=>simp[LSt.ends]at n
   | done e0=>cases e0 with
     | normal=>exact m.elim
     | exit id=>rw[m.1];simp
     | ret=>rw[m.1];simp
  have Z:=run_endLoop (P:=P) Gg hb;have D:=R1.orphan_kill W rfl af;have R2:=R1.kill W
  have F:Rel N c ns M μ' lam { s with heap:=upd h' s.nxt (some .dead),nxt:=n' } { a with defers:={ target:=.collected w.heap.size,args:= #[] }::a.defers } (w'.putObj (μ' s.nxt) (.loop { U with state:=.exhausted })):=by
   refine R2.world af ?_ ?_ (fun q x X=>JQ _ Gg q x X) (R2.defers.evo (fun r h=>World.putObj_heap_other (fun e=>by subst e;rw[Gg]at h;simp at h)) (fun _ _ h=>h))
   ·rintro r (h | ⟨t,h,rfl⟩ | ⟨k,o',h,F8,rfl⟩)
    ·exact World.putObj_heap_other (fun e=>D.a (e▸h))
    ·exact World.putObj_heap_other (D.l t h)
    ·exact World.putObj_heap_other (D.h k o' h F8)
   ·intro r h1 h2;refine World.putObj_heap_other (fun e=> ?_);subst e;rcases D.x with h | h
    ·exact h2 h
    ·omega
  rw[hμ]at Z F
  generalize w'.putObj (w.heap.size+1) (.loop { U with state:=.exhausted })=w4 at Z F
  refine⟨U.pending,w4,Z,?_⟩
  cases L with
  | ready=>
    simp only[LSt.ends,zA]at n;subst n;rw[m.2]
    exact⟨rfl,M,μ',lam,F⟩
  | enter=>simp[LSt.ends]at n
  | busy=>simp[LSt.ends]at n
  | done e0=>
    simp only[LSt.ends,zA]at n;subst n
    cases e0 with
    | normal=>exact m.elim
    | exit id=>
      rw[m.2]
      exact wpIn_exit ⟨rfl,M,μ',lam,F⟩
    | ret=>
      rw[m.2];exact wpIn_ret ⟨rfl,M,μ',lam,F⟩
theorem KV {fn:Func} {tmps:Array Value} {Rr:Ending->World->Prop} (i: ∀w',Rel N c ns A μ lam s { tmps:=tmps,defers:=[] } w'->LeavesIn (FW none) 0 P fn tmps Rr [] .returning w'):
 ∀(rs:List Nat) (w:World),rs.Nodup->(∀r∈rs,w.heap[r]? =some (Obj.deferred (some []))/\ ¬A r/\c.w0.heap.size<=r)->Rel N c ns A μ lam s { tmps:=tmps,defers:=[] } w->
  LeavesInM (FW none) 0 P fn tmps Rr (rs.map fun r=>{ target:=.collected r,args:= #[] }) .returning w
 | [],w,_,_,R=>i w R
 | r::rs,w,Bt,h,R=>by
   obtain⟨f,m,D⟩:=h r fh;obtain⟨n,v⟩:=qr.1 Bt;refine⟨af,.inl ⟨r,w.putObj r (.deferred none),rfl,run_takeDeferred f,KV i rs _ v (fun q b=> ?_) ?_⟩⟩
   ·obtain⟨y,z,B⟩:=h q (gt _ b);have l:q≠r:=fun e=>n (e▸b)
    exact⟨by rw[World.putObj_heap_other l];exact y,z,B⟩
   ·refine R.world af ?_ ?_ ?_ (d7.nil _ _ _)
    ·rintro q (g | ⟨t,g,rfl⟩ | ⟨k,o',g,j,rfl⟩)
     ·exact World.putObj_heap_other (fun e=>m (e▸g))
     ·exact World.putObj_heap_other (fun e=>R.ndef_loc g (e▸f))
     ·exact World.putObj_heap_other (fun e=>R.ndef g j (e▸f))
    ·intro q C _;exact World.putObj_heap_other aa
    ·intro q x b
     by_cases e:q=r
     ·subst e;simp[World.shape?,f]at b
     ·simpa[World.shape?,World.putObj_heap_other e]using b
theorem Jw {g:Nat} {rf:Func} {body:Code} {args:Array Value} {Rr:Ending->World->Prop} (z:P.funcs[g]? =some rf) (y:rf.body=some body) {f:Ex} {s':St} (B: ∀id,f≠ .exit id)
 (h:body.wpIn (FW none) 0 P (j_ N c ns f s') { tmps:=args++Array.replicate (rf.ntmps-args.size) undef,defers:=[] } w)
 (x: ∀A μ lam tmps w',Rel N c ns A μ lam s' { tmps:=tmps,defers:=[] } w'-> ∃v,(results rf tmps).run P w'= .ok v w'/\Rr (.returned v) w'):
 Calls P g args w Rr:=by
 refine(callsIn_wide (n:=0)).1 (callsIn_of_wp_marks (F:=FW none) z y trivial (wpIn_mono h ?_));rintro e' l w' ⟨rfl,j,μ',lam',k⟩;obtain⟨rs,m,q,t⟩:=k.defers;have R'':Rel N c ns j μ' lam' s' { tmps:=l.tmps,defers:=[] } w':= { k with defers:=d7.nil _ _ _ };have b:=KV (P:=P) (fn:=rf) (Rr:=Rr) (fun i R=>x j μ' lam' l.tmps i R) rs w' m t R'';rw[<- q]at b
 cases f with
 | normal=>exact b
 | ret=>exact b
 | exit id=>exact absurd rfl (B id)
end
section
variable (P:Program) (I:Inv)
def pJ (ops:Array Oper) (ns:Nat):Option (Nat×Bool)->Option (Option (Nat×Bool))
 | none=>some none
 | some (j,want)=>match(ops[j]?).bind (·.dst)with
   | some d=>if d<ns then some (some (d,want))else none
   | none=>none
def M0 (ns:Nat):Option Nat->Bool
 | none=>true
 | some d=>decide (d<ns)
def lU:AOp->Bool
 | .faddrL _ _=>true
 | .iaddrAL _ _ _ _=>true
 | _=>false
def isCall:AOp->Bool
 | .call _ _ _=>true
 | .fcall _ _=>true
 | _=>false
structure Raws where
 fns:List Nat
 slots:List Nat
 own:List Nat:=[]
def Raws.raw (r:Raws) (b:Option Nat):Opd->Bool
 | .c (.t (.fn k _ _))=>r.fns.contains k
 | _=>match b with
   | some d=>r.slots.contains d
   | none=>true
def Raws.fresh (r:Raws):Opd->Bool
 | .c (.t (.fn k _ _))=>r.own.contains k
 | _=>false
def lf (rw:Raws) (g:Nat->Bool) (b:Option Nat) (op:Op):Option AOp:=
 match op with
 | .call c=>match c.callee with
   | .value f=>do
     let f<- opd I f
     let args<- opds I c.args
     some (if rw.fresh f then .fcall f args else .call (rw.raw b f) f args)
   | _=>do
     let x<- cE P I g b op
     if isCall x then none else some x
 | _=>do
   let x<- cE P I g b op
   if isCall x then none else some x
def oi (rw:Raws) (L:List Nat) (ns:Nat) (ops:Array Oper):List Nat->List Oper->Option (List ROp)
 | _,[]=>some []
 | adrs,o::os=>do
   let op<- lf P I rw (fun t=>L.contains t||adrs.contains t) o.dst o.op
   let g<- pJ ops ns o.guard
   let rest<- oi rw L ns ops (if lU op then o.dst.toList++adrs else adrs) os
   if M0 ns o.dst then some ({ guard:=g,dst:=o.dst,op:=op }::rest)else none
structure OpRel (ns:Nat) (ops:Array Oper) (o:Oper) (r:ROp):Prop where
 dst:r.dst=o.dst
 op: ∃rw isL,lf P I rw isL o.dst o.op=some r.op
 lt: ∀x,o.dst=some x->x<ns
 guard:pJ ops ns o.guard=some r.guard
theorem xb {rw:Raws} {L:List Nat} {ns:Nat} {ops:Array Oper}: ∀{os:List Oper} {adrs:List Nat} {l:List ROp},oi P I rw L ns ops adrs os=some l->
 os.length=l.length/\ ∀(i:Nat) (r:ROp),l[i]? =some r-> ∃o,os[i]? =some o/\OpRel P I ns ops o r
 | [],adrs,l,h=>by simp[oi]at h;subst h;simp
 | o::os,adrs,l,h=>by
   simp only[oi,zC,zB]at h;obtain⟨op,f,g,n,rest,j,h⟩:=h;split at h
   ·rename_i b;simp only[zA]at h;subst h;obtain⟨k,m⟩:=xb j;refine⟨by simp[k],fun i r hi=> ?_⟩
    cases i with
    | zero=>
      simp at hi;subst hi;refine⟨o,rfl,rfl,⟨_,_,f⟩,fun x q=> ?_,n⟩
      simp[M0,q]at b;exact b
    | succ i=>simp at hi;simpa using m i r hi
   ·simp at h
end
theorem qo {N:Nam} {c:Ctx} {ns:Nat} {A:Nat->Prop} {μ lam:Nat->Nat} {s:St} {a:Act} {w:World} (R:Rel N c ns A μ lam s a w) {ops:Array Oper} {o:Oper} {g:Option (Nat×Bool)} {b:Bool}
 (f:pJ ops ns o.guard=some g) (h:cJ s g=some b):Region.wanted o (yielded ops a.tmps)=b:=by
 unfold pJ at f;split at f
 ·rename_i t;simp only[zA]at f;subst f;simp only[cJ,zA]at h;subst h;simp[Region.wanted,t]
 ·rename_i j want q;split at f
  ·rename_i d n;split at f
   ·rename_i m;simp only[zA]at f;subst f;have i:=R.env d
    have l:a.tmps[d]? =some (a.tmps.getD d undef):=by
     have:d<a.tmps.size:=by rw[R.size];exact m
     rw[ke,iA this];rfl
    simp only[cJ]at h;simp only[Region.wanted,q,yielded,n,zD];split at h
    ·rename_i b' k;rw[k]at i;simp only[zA]at h;subst h;rw[l,i.bool_inv];cases b'<;>cases want<;>rfl
    ·rename_i k;rw[k]at i;simp only[zA]at h;subst h;rw[l,show a.tmps.getD d undef=undef from i];rfl
    ·simp at h
   ·simp at f
  ·simp at f
theorem S5 {G:Nat->List T} {p:Nat} {s:St} {op:AOp} {e:Eff} (h:ao G p s op=some e): ∀x∈e.hp,x.1=s.bas+p\/(s.heap x.1).isSome=true:=by
 intro x b;cases op
 all_goals simp only[ao,zC,zB,zA,cw]at h
 all_goals(try(repeat(first | (obtain⟨_,_,h⟩:=h) | split at h | (simp only[zB,zA]at h))))
 all_goals(try(repeat(first | (obtain⟨_,_,h⟩:=h) | split at h | (simp only[zB,zA]at h))))
 all_goals(try(repeat(first | (obtain⟨_,_,h⟩:=h) | split at h | (simp only[zB]at h))))
 all_goals(try(repeat(first | (obtain⟨_,_,h⟩:=h) | split at h | (simp only[zB]at h))))
 all_goals(try(simp at h;done))
 all_goals(try(subst h;simp at b;done))
 all_goals(try subst h)
 all_goals(try(simp at b;done))
 all_goals(try(simp at h;done))
 all_goals(try(simp only[cj,ki,dU]at b))
 all_goals(try(rcases b with rfl | rfl<;>simp[*];done))
 all_goals(try(subst b;simp[*];done))
inductive StepG (P:Program) (N:Nam) (d:Bool) (p:Nat) (o:ROp) (s:St):St->Prop where
 | skip (hw:cJ s o.guard=some false) (hf:s.free o.dst {}):StepG P N d p o s (s.apply o.dst {})
 | eff {e:Eff} (hw:cJ s o.guard=some true) (hf:s.free o.dst e) (he:ao N.G p s o.op=some e):StepG P N d p o s (s.apply o.dst e)
 | pure {f:Opd} {args:List Opd} {fv:V} {g:Nat} {a b vs rs:List V} {r:V} {rf:Func} (hw:cJ s o.guard=some true) (hf:s.free o.dst {}) (ho:o.op= .call false f args) (As:evl N.G s f=some fv)
    (Ax:cG fv=some (g,a,b)) (An:Real P (N.nm g) rf) (Au:cY N.G s args=some vs) (AD:(a++vs++b).mapM (toT1 s.heap)=some rs) (hc:ow P N g rs r) (hd:d=true->r.scalar=true\/(a++vs++b).flatMap (b_ s.heap)=[]):
    StepG P N d p o s (s.apply o.dst { val:=r,hp:=if r.scalar then []else freezes s.heap ((a++vs++b).flatMap (b_ s.heap)) })
 | raw {f:Opd} {args:List Opd} {fv:V} {g:Nat} {a b vs:List V} {r:V} {rf:Func} {H':Nat->Option O} {n':Nat} (hw:cJ s o.guard=some true) (hf:s.free o.dst {}) (ho:o.op= .call true f args) (As:evl N.G s f=some fv)
    (Ax:cG fv=some (g,a,b)) (An:Real P (N.nm g) rf) (Au:cY N.G s args=some vs) (hc:m0 P N g (a++vs++b) s.heap s.nxt r H' n') (hn:s.nxt<=n') (AG: ∀k,k<s.nxt->s.heap k=none->H' k=none):
    StepG P N d p o s ({ s with heap:=H',nxt:=n' }.apply o.dst { val:=r })
 | fresh {f:Opd} {args:List Opd} {fv:V} {g:Nat} {a b vs rs:List V} {r:V} {rf:Func} {H':Nat->Option O} {n':Nat} {e:Eff} (hw:cJ s o.guard=some true) (hf:s.free o.dst {}) (ho:o.op= .fcall f args) (As:evl N.G s f=some fv)
    (Ax:cG fv=some (g,a,b)) (An:Real P (N.nm g) rf) (Au:cY N.G s args=some vs) (AD:(a++vs++b).mapM (toT1 s.heap)=some rs) (hd:(a++vs++b).flatMap (b_ s.heap)=[])
    (hc:m0 P N g rs (fun _=>none) 0 r H' n') (he:ja (s.bas+p) r H'=some e):StepG P N d p o s (s.apply o.dst e)
 | yld {f:Opd} {args:List Opd} {k:Nat} {vs:List V} {env env1 env':Nat->V} {ps ps1 ps':List Nat} {ca cb bd1 bd':C} {e:Ex} {s1 s2:St} (hw:cJ s o.guard=some true) (hf:s.free o.dst {}) (ho:o.op= .call true f args)
    (As:evl N.G s f=some (.yl k)) (hk:s.heap k=some (.loop env ps (.round ca cb) .ready)) (Au:cY N.G s args=some vs) (Ac:vs.length=ps.length) (Bi:qO P N ca (qS s.heap s.nxt k env ps (.round ca cb) vs) .normal s1)
    (AT:s1.heap k=some (.loop env1 ps1 bd1 .enter)) (CL:qO P N cb { s1 with heap:=upd s1.heap k (some (.loop env1 ps1 bd1 .busy)) } e s2)
    (AF:s2.heap k=some (.loop env' ps' bd' .busy)) (AG:s.nxt<=s2.nxt/\ ∀k',k'<s.nxt->s.heap k'=none->s2.heap k'=none):
    StepG P N d p o s ({ s with heap:=upd s2.heap k (some (.loop env' ps' bd' e.toL)),nxt:=s2.nxt }.apply o.dst { val:=.t (.bool (decide (e=Ex.normal))) })
section
variable {P:Program} {N:Nam} {I:Inv} {c:Ctx} {d:Bool} {ns p:Nat} {A:Nat->Prop} {μ lam:Nat->Nat} {s s' : St} {a:Act} {w:World} {e:Eff} {o:Oper} {ro:Option Nat} {r:ROp} {ops:Array Oper}
theorem Rc {rw:Raws} {l:Nat->Bool} {k:Option Nat} {op:Op} {x:AOp} (D:isCall x=true) (h:lf P I rw l k op=some x):
 ∃g i f args,op= .call g/\g.callee= .value i/\opd I i=some f/\opds I g.args=some args/\(x= .fcall f args\/ ∃b,x= .call b f args):=by
 have m: ∀{y:Option AOp},(do let z<- y;if isCall z then none else some z)=some x->False:=by
  intro y n;simp only[zC,zB]at n;obtain⟨z,_,j⟩:=n;split at j
  ·simp at j
  ·rename_i C;simp only[zA]at j;subst j;exact C D
 unfold lf at h;split at h
 ·rename_i g;split at h
  ·rename_i i B;simp only[zC,zB,zA]at h;obtain⟨v,t,as,q,h⟩:=h;refine⟨g,i,v,as,rfl,B,t,q,?_⟩;split at h
   ·exact .inl h.symm
   ·exact .inr ⟨_,h.symm⟩
  ·exact(m h).elim
 ·exact(m h).elim
theorem ye {rw:Raws} {l:Nat->Bool} {k:Option Nat} {op:Op} {b:Bool} {f:Opd} {args:List Opd} (h:lf P I rw l k op=some (.call b f args)):
 ∃i j,op= .call i/\i.callee= .value j/\opd I j=some f/\opds I i.args=some args:=by
 obtain⟨i,j,x,m,n,q,t,v,g⟩:=Rc rfl h;rcases g with g | ⟨b',g⟩
 ·simp at g
 ·simp only[AOp.call.injEq]at g;obtain⟨_,rfl,rfl⟩:=g;exact⟨i,j,n,q,t,v⟩
theorem XT {rw:Raws} {k:Nat->Bool} {j:Option Nat} {op:Op} {f:Opd} {args:List Opd} (h:lf P I rw k j op=some (.fcall f args)):
 ∃g i,op= .call g/\g.callee= .value i/\opd I i=some f/\opds I g.args=some args:=by
 obtain⟨g,i,v,l,m,n,q,t,b⟩:=Rc rfl h;rcases b with b | ⟨b',b⟩
 ·simp only[AOp.fcall.injEq]at b;obtain⟨rfl,rfl⟩:=b;exact⟨g,i,m,n,q,t⟩
 ·simp at b
theorem kaw {G:Nat->List T} {rw:Raws} {f:Nat->Bool} {b:Option Nat} {op:Op} {x:AOp} (h:lf P I rw f b op=some x) (k:ao G p s x=some e):cE P I f b op=some x:=by
 have i: ∀{y:Option AOp},(do let x<- y;if isCall x then none else some x)=some x->y=some x:=by
  intro y j;simp only[zC,zB]at j;obtain⟨z,l,g⟩:=j;split at g
  ·simp at g
  ·simp only[zA]at g;subst g;exact l
 unfold lf at h;split at h
 ·split at h
  ·simp only[zC,zB,zA]at h;obtain⟨q,n,as,m,h⟩:=h;split at h<;>(subst h;simp[ao]at k)
  ·exact i h
 ·exact i h
theorem OR {K g:Act->World->Prop} {Q:Exit->Act->World->Prop} (h:o.wpIn (FW ro) 0 P a w K Q) (f: ∀a w,K a w->g a w):o.wpIn (FW ro) 0 P a w g Q:=by
 obtain⟨i,h⟩:=h;refine⟨i,?_⟩
 generalize(o.semAt (FW ro).round a.eval).run P w=r at *
 unfold Oper.uponIn at *;split at h
 ·exact f _ _ h
 ·exact f _ _ h
 ·exact f _ _ h
 ·refine⟨h.1,h.2.mono ?_⟩;intro e w' b;split at b
  ·exact f _ _ b
  ·exact b
  ·exact b
 ·exact⟨h.1,h.2.mono fun v w' b=>f _ _ b⟩
 ·refine⟨h.1,h.2.mono ?_⟩;intro e w' b;split at b
  ·exact f _ _ b
  ·exact b
  ·exact b
 ·exact h
 ·exact h.elim
theorem YZ {rw:Raws} {f:Nat->Bool} {b:Option Nat} {op:Op} {x:AOp} (h:lf P I rw f b op=some x): ∀g,op≠ .defer g:=by
 rintro g rfl;simp[lf,cE]at h
theorem ym (E:I.Ok N) (V:StepG P N d p r s s') (b:OpRel P I ns ops o r) (R:Rel N c ns A μ lam s a w) (S:s.heap (s.bas+p)=none) (M:s.bas+p<s.nxt) (Q:Exit->Act->World->Prop):
 if Region.wanted o (yielded ops a.tmps)then o.wpIn (FW ro) 0 P a w (fun a' w'=> ∃z μ' lam',Rel N c ns z μ' lam' s' a' w') Q
 else ∃z μ' lam',Rel N c ns z μ' lam' s' (a.put o.dst undef) w:=by
 have B:=b.dst
 cases V with
 | skip i g=>
   rw[qo R b.guard i,ac af,B]at *
   exact⟨A,μ,lam,R.put o.dst {} undef b.lt g rfl rfl rfl rfl af⟩
 | eff i g H=>
   rw[qo R b.guard i,ah rfl,B]at *;obtain⟨k,j,f⟩:=b.op;obtain⟨v,w',z,μ',lam',Am,O⟩:=kan E R (kaw f H) H b.lt g S M;refine⟨fun _ _=>trivial,?_⟩;rw[o.semAt_eq _ _ (YZ f)];rcases Am with h | ⟨h,rfl⟩
   ·rw[h];exact⟨z,μ',lam',O⟩
   ·rw[h];exact⟨z,μ',lam',O⟩
 | pure i g y l D C m J F _=>
   rw[qo R b.guard i,ah rfl,B]at *;obtain⟨k,j,f⟩:=b.op;rw[y]at f;obtain⟨K,L,n,q,t,x⟩:=ye f
   exact YK E R n q t x l D C m J F b.lt g
 | raw i g y l D C m F M X=>
   rw[qo R b.guard i,ah rfl,B]at *;obtain⟨k,j,f⟩:=b.op;rw[y]at f;obtain⟨K,L,n,q,t,x⟩:=ye f
   exact ka8 E R n q t x l D C m F b.lt g
 | fresh i g y l D C m J hd F H=>
   rw[qo R b.guard i,ah rfl,B]at *;obtain⟨k,j,f⟩:=b.op;rw[y]at f;obtain⟨K,L,n,q,t,x⟩:=XT f
   exact Yv E R n q t x l D C m J hd F H b.lt g S M
 | yld i g y l U m Z Bi Y CL W X=>
   rw[qo R b.guard i,ah rfl,B]at *;obtain⟨k,j,f⟩:=b.op;rw[y]at f;obtain⟨K,L,n,q,t,x⟩:=ye f;exact Ym E R n q t x l U m Z Bi Y CL W b.lt g
theorem StepG.free (Q:StepG P N d p r s s'):s'.bas=s.bas/\s.nxt<=s'.nxt/\ ∀k,k<s.nxt->k≠s.bas+p->s.heap k=none->s'.heap k=none:=by
 have C: ∀(l:List (Nat×O)) (h:ae) (k:Nat),(∀x∈l,x.1≠k)->bl h l k=h k:=by
  intro l
  induction l with
  | nil=>intro h k _;rfl
  | cons x l X=>
    intro h k b;obtain⟨q,o⟩:=x;simp only[bl];rw[X _ k (fun y W=>b y (gt _ W)),aP _ _ (bX (b (q,o) (fh)))]
 cases Q with
 | skip=>exact⟨rfl,ay _,fun k _ _ h=>h⟩
 | eff v n D=>
   refine⟨rfl,ay _,fun k t j h=> ?_⟩;show bl s.heap _ k=none;rw[C,h];intro x b e;rcases S5 D x b with m | m
   ·exact j (e▸m)
   ·rw[e,h]at m;simp at m
 | pure v n E z H F B M K _=>
   refine⟨rfl,ay _,fun k t j h=> ?_⟩;show bl s.heap _ k=none;rw[C,h];intro x b e;split at b
   ·simp at b
   ·simp only[freezes,p7]at b;obtain⟨q,_,g⟩:=b;split at g
    ·rename_i J;simp only[zA]at g;subst g;simp only at e;subst e;rw[h]at J;simp at J
    ·simp at g
 | raw v n E z H F B K V i=>exact⟨rfl,V,fun k t _ h=>i k t h⟩
 | fresh v n E z H F B M hd K D=>
   refine⟨rfl,ay _,fun k t j h=> ?_⟩;show bl s.heap _ k=none;rw[C,h];intro x b e
   exact j (e▸(zf D x b))
 | yld v n E z L B Ac Bi AT CL AF i=>
   rename_i f args k vs env env1 env' ps Z Y ca cb S R e s1 s2;refine⟨rfl,i.1,fun q g _ h=> ?_⟩;have U:=i.2 q g h;show upd s2.heap k _ q=none;rw[aP];exact U;rintro rfl;rw[L]at h;cases h
inductive Run (P:Program) (N:Nam) (d:Bool) (l:List ROp):List Nat->St->St->Prop where
 | nil {s:St}:Run P N d l [] s s
 | cons {i:Nat} {is:List Nat} {s s1 s2:St} {r:ROp} (hr:l[i]? =some r) (h1:StepG P N d i r s s1) (h2:Run P N d l is s1 s2):Run P N d l (i::is) s s2
theorem Zh (S:I.Ok N) {l:List ROp} (U:ops.toList.length=l.length/\ ∀(i:Nat) (r:ROp),l[i]? =some r-> ∃o,ops.toList[i]? =some o/\OpRel P I ns ops o r) (Q:Exit->Act->World->Prop):
 ∀{is:List Nat} {s s':St} {A:Nat->Prop} {μ lam:Nat->Nat} {a:Act} {w:World},Run P N d l is s s'->is.Nodup->(∀i∈is,s.heap (s.bas+i)=none/\s.bas+i<s.nxt)->Rel N c ns A μ lam s a w->
  (∀q w' h μ' lam',Rel N c ns h μ' lam' s' q w'->Q .normal q w')->wpOpsIn (FW ro) 0 P ops Q is a w:=by
 intro is
 induction is with
 | nil=>
   intro s s' A μ lam a w k _ _ R b;cases k
   exact b a w A μ lam R
 | cons i is D=>
   intro s s' A μ lam a w k E v R b
   cases k with
   | cons V y z=>
     rename_i g r;obtain⟨o,C,F⟩:=U.2 i r V;obtain⟨K,L⟩:=v i fh;have f:=ym (ro:=ro) S y F R K L Q;obtain⟨M,W,O⟩:=y.free;have m:=qr.1 E
     have x: ∀j∈is,g.heap (g.bas+j)=none/\g.bas+j<g.nxt:=by
      intro j B;obtain⟨H,J⟩:=v j (gt _ B);rw[M]
      exact⟨O _ J (fun e=>m.1 (by have:j=i:=by omega
                                  exact this▸B)) H,aa⟩
     simp only[eu]at C;simp only[wpOpsIn,C];split
     ·rename_i t;rw[ah t]at f;refine OR f ?_;rintro q w' ⟨h,μ',lam',n⟩;exact D z m.2 x n b
     ·rename_i t;rw[ac t]at f;obtain⟨h,μ',lam',n⟩:=f;exact⟨fun _ _=>trivial,D z m.2 x n b⟩
end
def AOp.rdH:AOp->Bool
 | .load _ _ _ | .bstr _ | .nilchk _ | .faddr _ _ | .iaddrS _ _ _ | .iaddrA _ _ _ _ | .slice _ _ _ _ _ | .len _ | .lookup _ _ _ _ _ | .store _ _ _ | .append _ _ _ _ | .copy _ _ _ | .clear _ _ _ | .mapupd _ _ _ _ | .call _ _ _ | .fcall _ _ | .mkfnT _ _=>true
 | _=>false
def AOp.rdL:AOp->Bool
 | .loadL _ _ _ | .storeL _ _ _ | .faddrL _ _ | .iaddrAL _ _ _ _=>true
 | _=>false
def AOp.wrH:AOp->Bool
 | .store _ _ _ | .append _ _ _ _ | .copy _ _ _ | .clear _ _ _ | .mapupd _ _ _ _ | .mkfnT _ _=>true
 | _=>false
def AOp.wrL:AOp->Bool
 | .storeL _ _ _=>true
 | _=>false
def AOp.mkL:AOp->Bool
 | .allocL _ | .boxL _ _=>true
 | _=>false
section
variable {G:Nat->List T} {s u:St}
theorem kA {x:Opd} (h:evl G s x=evl G u x):eZ G s x=eZ G u x:=by simp only[eZ,h]
theorem w9 {x:Opd} (h:evl G s x=evl G u x):ib G s x=ib G u x:=by simp only[ib,h]
theorem kC: ∀{l:List Opd},(∀x∈l,evl G s x=evl G u x)->cY G s l=cY G u l
 | [],_=>rfl
 | x::l,h=>by
   simp only[cY,h x fh,kC (fun y b=>h y (gt _ b))]
theorem uj {d:Nat} {x:Option Opd} (h: ∀y∈x.toList,evl G s y=evl G u y):eY G s d x=eY G u d x:=by
 cases x with
 | none=>rfl
 | some y=>simp only[eY,kA (h y af)]
theorem H7: ∀{l:List (Nat×Nat×Opd)} {cs:List V},(∀x∈l.map (·.2.2),evl G s x=evl G u x)->jf G cs s l=jf G cs u l
 | [],_,_=>rfl
 | (a,b,x)::l,cs,h=>by
   have g:=h x af;have i: ∀cs,jf G cs s l=jf G cs u l:=fun cs=>H7 (fun y f=>h y (by simp at f⊢;exact .inr f))
   simp only[jf,g,i]
theorem I3: ∀{l:List (Nat×Opd)} {rs:List (List V)} {b:Nat},(∀x∈l.map (·.2),evl G s x=evl G u x)->jx G rs b s l=jx G rs b u l
 | [],_,_,_=>rfl
 | (a,x)::l,rs,b,h=>by
   have g:=h x af;have i: ∀rs,jx G rs b s l=jx G rs b u l:=fun rs=>I3 (fun y f=>h y (by simp at f⊢;exact .inr f))
   simp only[jx,g,i]
theorem tG {v:V} (h: ∀k∈v.top,s.heap k=u.heap k):gJ s v=gJ u v:=by
 cases v with
 | ms k i l=>simp only[gJ];rw[h k (by simp[V.top])]
 | t x=>cases x<;>rfl
 | _=>rfl
theorem KU {v:V} (h: ∀k∈v.top,s.heap k=u.heap k):lenOf s v=lenOf u v:=by
 cases v with
 | ms k i l=>simp only[lenOf];rw[h k (by simp[V.top])]
 | t x=>cases x<;>rfl
 | _=>rfl
theorem uk {p:Nat} {op:AOp} (g: ∀x∈op.opds,evl G s x=evl G u x) (M: ∀x∈op.opds,bF s x=bF u x)
 (O:op.rdL=true-> ∀x∈op.opds,∀b o,bF s x=some (b,o)->s.loc b=u.loc b)
 (B:op.rdH=true-> ∀x∈op.opds,∀v,evl G s x=some v-> ∀k∈v.top,s.heap k=u.heap k) (H:s.bas=u.bas):ao G p s op=ao G p u op:=by
 cases op with
 | mv x=>simp only[ao,g x (by simp[AOp.opds])]
 | pick c a b=>
   have C:=w9 (g c (by simp[AOp.opds]));have F:=g a (by simp[AOp.opds]);have W:=g b (by simp[AOp.opds]);simp only[ao,C]
   congr 1;funext t
   cases t<;>simp[F,W]
 | allocL c=>rfl
 | allocH c=>simp only[ao,H]
 | allocB=>simp only[ao,H]
 | bstr x=>
   simp only[ao,<- g x (by simp[AOp.opds])]
   cases q:evl G s x with
   | none=>rfl
   | some v=>simp only[zC,zD,tG (B rfl x (by simp[AOp.opds]) v q)]
 | boxL n x=>simp only[ao,g x (by simp[AOp.opds])]
 | boxH n x=>simp only[ao,g x (by simp[AOp.opds]),H]
 | build z S=>simp only[ao,H7 (s:=s) (u:=u) (l:=S) g]
 | bslice E len z S=>simp only[ao,I3 (s:=s) (u:=u) (l:=S) g,H]
 | loadL ag n a=>
   simp only[ao,<- M a (by simp[AOp.opds])]
   cases K:bF s a with
   | none=>rfl
   | some J=>obtain⟨b,o⟩:=J;simp only[zC,zD,O rfl a (by simp[AOp.opds]) b o K]
 | load ag n a=>
   simp only[ao,<- g a (by simp[AOp.opds])]
   cases q:evl G s a with
   | none=>rfl
   | some v=>
     have:=B rfl a (by simp[AOp.opds]) v q
     cases v with
     | mp k i h=>simp only[zC,zD];rw[this k (by simp[V.top])]
     | ms k i h=>simp only[zC,zD];try rw[this k (by simp[V.top])]
     | t x=>cases x<;>rfl
     | _=>rfl
 | storeL n a v=>
   simp only[ao,<- M a (by simp[AOp.opds]),g v (by simp[AOp.opds])]
   cases K:bF s a with
   | none=>rfl
   | some J=>obtain⟨b,o⟩:=J;simp only[zC,zD,O rfl a (by simp[AOp.opds]) b o K]
 | store n a x=>
   simp only[ao,<- g a (by simp[AOp.opds]),g x (by simp[AOp.opds])]
   cases q:evl G s a with
   | none=>rfl
   | some v=>
     have:=B rfl a (by simp[AOp.opds]) v q
     cases v with
     | mp k i h=>simp only[zC,zD];rw[this k (by simp[V.top])]
     | ms k i h=>simp only[zC,zD];try rw[this k (by simp[V.top])]
     | t x=>cases x<;>rfl
     | _=>rfl
 | nilchk a=>
   simp only[ao,<- g a (by simp[AOp.opds])]
   cases q:evl G s a with
   | none=>rfl
   | some v=>
     have:=B rfl a (by simp[AOp.opds]) v q
     cases v with
     | mp k i h=>simp only[zC,zD];rw[this k (by simp[V.top])]
     | ms k i h=>simp only[zC,zD];try rw[this k (by simp[V.top])]
     | t x=>cases x<;>rfl
     | _=>rfl
 | bin op x y=>simp only[ao,g x (by simp[AOp.opds]),g y (by simp[AOp.opds])]
 | mx mn x y=>simp only[ao,g x (by simp[AOp.opds]),g y (by simp[AOp.opds])]
 | eqb n x y=>simp only[ao,w9 (g x (by simp[AOp.opds])),w9 (g y (by simp[AOp.opds]))]
 | eqa n Y x y=>simp only[ao,g x (by simp[AOp.opds]),g y (by simp[AOp.opds])]
 | un op x=>simp only[ao,g x (by simp[AOp.opds])]
 | conv k x=>simp only[ao,kA (g x (by simp[AOp.opds]))]
 | mkfn f a b=>simp only[ao,kC (s:=s) (u:=u) (l:=a) (fun x R=>g x (by simp[AOp.opds,R])),kC (s:=s) (u:=u) (l:=b) (fun x R=>g x (by simp[AOp.opds,R]))]
 | mkfnT f a=>
   simp only[ao,<- g a (by simp[AOp.opds])]
   cases q:evl G s a with
   | none=>rfl
   | some v=>
     have:=B rfl a (by simp[AOp.opds]) v q
     cases v with
     | mp k i h=>simp only[zC,zD];rw[this k (by simp[V.top])]
     | ms k i h=>simp only[zC,zD];try rw[this k (by simp[V.top])]
     | t x=>cases x<;>rfl
     | _=>rfl
 | mkslice E L z l c=>simp only[ao,kA (g l (by simp[AOp.opds])),kA (g c (by simp[AOp.opds])),H]
 | slice E x lo hi mx=>
   simp only[ao,<- g x (by simp[AOp.opds])]
   cases q:evl G s x with
   | none=>rfl
   | some v=>
     have U:=B rfl x (by simp[AOp.opds]) v q;have C: ∀d,eY G s d hi=eY G u d hi:=fun d=>uj (fun y D=>g y (by simp only[AOp.opds];simp at D⊢;simp[D]))
     have F: ∀d,eY G s d lo=eY G u d lo:=fun d=>uj (fun y D=>g y (by simp only[AOp.opds];simp at D⊢;simp[D]))
     simp only[zC,zD,KU U,C,F]
     cases mx with
     | none=>
       cases v with
       | ms k i l=>simp only;rw[U k (by simp[V.top])]
       | t x=>cases x<;>rfl
       | _=>rfl
     | some m=>simp only[kA (g m (by simp[AOp.opds]))]
 | slstr x lo hi=>
   have C: ∀d,eY G s d hi=eY G u d hi:=fun d=>uj (fun y D=>g y (by simp only[AOp.opds];simp at D⊢;simp[D]))
   have F: ∀d,eY G s d lo=eY G u d lo:=fun d=>uj (fun y D=>g y (by simp only[AOp.opds];simp at D⊢;simp[D]))
   simp only[ao,g x (by simp[AOp.opds]),C,F]
 | faddrL h x=>
   simp only[ao,<- M x (by simp[AOp.opds])]
   cases K:bF s x with
   | none=>rfl
   | some J=>obtain⟨b,o⟩:=J;simp only[zC,zD,O rfl x (by simp[AOp.opds]) b o K]
 | faddr h a=>
   simp only[ao,<- g a (by simp[AOp.opds])]
   cases q:evl G s a with
   | none=>rfl
   | some v=>
     have:=B rfl a (by simp[AOp.opds]) v q
     cases v with
     | mp k i h=>simp only[zC,zD];rw[this k (by simp[V.top])]
     | ms k i h=>simp only[zC,zD];try rw[this k (by simp[V.top])]
     | t x=>cases x<;>rfl
     | _=>rfl
 | field ag h n x=>simp only[ao,g x (by simp[AOp.opds])]
 | iaddrS E x i=>
   simp only[ao,<- g x (by simp[AOp.opds]),kA (g i (by simp[AOp.opds]))]
   cases q:evl G s x with
   | none=>rfl
   | some v=>
     have:=B rfl x (by simp[AOp.opds]) v q
     cases v with
     | mp k i h=>simp only[zC,zD];try rw[this k (by simp[V.top])]
     | ms k i h=>simp only[zC,zD];try rw[this k (by simp[V.top])]
     | t x=>cases x<;>rfl
     | _=>rfl
 | iaddrAL len E x i=>
   simp only[ao,<- M x (by simp[AOp.opds]),kA (g i (by simp[AOp.opds]))]
   cases K:bF s x with
   | none=>rfl
   | some J=>obtain⟨b,o⟩:=J;simp only[zC,zD,O rfl x (by simp[AOp.opds]) b o K]
 | iaddrA len E x i=>
   simp only[ao,<- g x (by simp[AOp.opds]),kA (g i (by simp[AOp.opds]))]
   cases q:evl G s x with
   | none=>rfl
   | some v=>
     have:=B rfl x (by simp[AOp.opds]) v q
     cases v with
     | mp k i h=>simp only[zC,zD];rw[this k (by simp[V.top])]
     | ms k i h=>simp only[zC,zD];try rw[this k (by simp[V.top])]
     | t x=>cases x<;>rfl
     | _=>rfl
 | idxA ag len E x i=>simp only[ao,g x (by simp[AOp.opds]),kA (g i (by simp[AOp.opds]))]
 | idxS x i=>simp only[ao,g x (by simp[AOp.opds]),kA (g i (by simp[AOp.opds]))]
 | extr x i=>simp only[ao,g x (by simp[AOp.opds])]
 | len x=>
   simp only[ao,<- g x (by simp[AOp.opds])]
   cases q:evl G s x with
   | none=>rfl
   | some v=>
     have:=B rfl x (by simp[AOp.opds]) v q
     simp only[zC,zD,KU this]
 | slen x=>simp only[ao,g x (by simp[AOp.opds])]
 | lenA n=>rfl
 | capN x=>simp only[ao,g x (by simp[AOp.opds])]
 | stop=>rfl
 | appz E L z x l=>simp only[ao,g x (by simp[AOp.opds]),kA (g l (by simp[AOp.opds])),H]
 | append E L x y=>
   simp only[ao,<- g x (by simp[AOp.opds]),<- g y (by simp[AOp.opds])]
   cases q:evl G s x with
   | none=>rfl
   | some v=>
     cases Q:evl G s y with
     | none=>rfl
     | some z=>
       have C:=B rfl x (by simp[AOp.opds]) v q;have F:=B rfl y (by simp[AOp.opds]) z Q;simp only[zC,zD,tG C,tG F,H]
       cases v with
       | ms k i l=>simp only;rw[C k (by simp[V.top])]
       | t x=>cases x<;>rfl
       | _=>rfl
 | clear E z x=>
   simp only[ao,<- g x (by simp[AOp.opds])]
   cases q:evl G s x with
   | none=>rfl
   | some v=>
     have:=B rfl x (by simp[AOp.opds]) v q
     cases v with
     | ms k i h=>simp only[zC,zD];rw[this k (by simp[V.top])]
     | t x=>cases x<;>rfl
     | _=>rfl
 | copy E x y=>
   simp only[ao,<- g x (by simp[AOp.opds]),<- g y (by simp[AOp.opds])]
   cases q:evl G s x with
   | none=>rfl
   | some v=>
     cases Q:evl G s y with
     | none=>rfl
     | some z=>
       have C:=B rfl x (by simp[AOp.opds]) v q;have F:=B rfl y (by simp[AOp.opds]) z Q;simp only[zC,zD,tG F]
       cases v with
       | ms k i l=>simp only;rw[C k (by simp[V.top])]
       | t x=>cases x<;>rfl
       | _=>rfl
 | mkmap=>simp only[ao,H]
 | lookup X z Z m k=>
   simp only[ao,<- g m (by simp[AOp.opds]),g k (by simp[AOp.opds])]
   cases q:evl G s m with
   | none=>rfl
   | some v=>
     have C:=B rfl m (by simp[AOp.opds]) v q
     cases v with
     | mm j=>simp only[zC,zD];rw[C j (by simp[V.top])]
     | t x=>cases x<;>rfl
     | _=>rfl
 | mapupd X m k v=>
   simp only[ao,<- g m (by simp[AOp.opds]),g k (by simp[AOp.opds]),g v (by simp[AOp.opds])]
   cases q:evl G s m with
   | none=>rfl
   | some z=>
     have C:=B rfl m (by simp[AOp.opds]) z q
     cases z with
     | mm j=>simp only[zC,zD];rw[C j (by simp[V.top])]
     | t x=>cases x<;>rfl
     | _=>rfl
 | call r f as=>rfl
 | fcall f args=>rfl
end
end Rg
end
