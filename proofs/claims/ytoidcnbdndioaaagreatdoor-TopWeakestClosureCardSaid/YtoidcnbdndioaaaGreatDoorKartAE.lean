/- Part of the proof of laws of relyguardtop. No condition. -/
import Derived.Test.YtoidcnbdndioaaaGreatDoorKartAD
import Derived.RangeFuncRecord
set_option linter.unusedVariables false
set_option linter.unusedSimpArgs false
section
namespace Rg
open Go
section
variable {P:Program} {N:Nam} {I:Inv} {c:Ctx} {ns p:Nat} {A:Nat->Prop} {μ lam:Nat->Nat} {s:St} {a:Act} {w:World} {e:Eff} {o:Oper} {ro:Option Nat}
theorem Rel.bare (R:Rel N c ns A μ lam s a w):Rel N ⟨w,MBH s.heap μ,A,s.heap,μ⟩ 0 A μ lam (.init [] s.heap s.nxt) zaM w where
 size:=rfl
 defers:=zdG.nil _ _ _
 env t:=by simp[St.init,zfz,zaM,zbl]
 loc t cs h:=by simp[St.init]at h
 adr t b o h:=by simp[St.init]at h
 heap:=R.heap
 hinj:=R.hinj
 linj t t' h:=by simp[St.init]at h
 lh t k o h:=by simp[St.init]at h
 aH:=R.aH
 aL r _:=by rintro⟨t,h,_⟩;simp[St.init]at h
 alt:=R.alt
 afz:=R.afz
 fresh:=R.fresh
 glob:=R.glob
 cout:=⟨rfl,rfl⟩
 csize:=Nat.le_refl _
 ckeep _ _ _:=rfl
 cshp _ _ h:=h
 csub _ h:=h
 canew _ h:=.inl h
 clive _ h:=.inl h
 cloc t h:=by simp[St.init]at h
 chp k o h:=⟨o,h,O.le_refl o,fun _=>rfl⟩
theorem Rel.back (R:Rel N c ns A μ lam s a w) {A':Nat->Prop} {μ' lam':Nat->Nat} {H':Nat->Option O} {n':Nat} {w':World}
 (R':Rel N ⟨w,MBH s.heap μ,A,s.heap,μ⟩ 0 A' μ' lam' (.init [] H' n') zaM w'):
 Evo w A μ s.heap w' A' μ' H'/\Rel N c ns A' μ' lam { s with heap:=H',nxt:=n' } a w':=by
 have E:Evo w A μ s.heap w' A' μ' H':=⟨fun r h=>R'.ckeep r (R.alt r h) (R.aH r h),R'.csub,R'.chp,R'.cshp⟩
 have hX: ∀t r,(s.loc t).isSome=true->MBH s.heap μ r->lam t≠r:=by
  rintro t r ht ⟨k,o,hk,_,hl,rfl⟩;exact R.lh t k o ht hk hl
 have AS:w.heap.size<=w'.heap.size:=R'.csize;have hA: ∀r,A' r->A r\/MBH s.heap μ r\/w.heap.size<=r:=R'.canew
 have D1: ∀k o,H' k=some o->o.live=true->A' (μ' k)\/MBH s.heap μ (μ' k)\/w.heap.size<=μ' k:=by
  intro k o h hl
  by_cases hf: ∃sz rs,o= .rows sz rs true
  ·obtain⟨sz,rs,rfl⟩:=hf;exact .inl (R'.afz k sz rs h)
  ·exact .inr (R'.clive _ ⟨k,o,h,fun sz rs e=>hf ⟨sz,rs,e⟩,hl,rfl⟩)
 have I2: ∀r:Nat,w.heap[r]? =some (Obj.deferred (some []))-> ¬MBH s.heap μ r:=by
  rintro r h ⟨k,o,hk,_,hl,rfl⟩;exact R.ndef hk hl h
 have JQ: ∀r:Nat,w.heap[r]? =some (Obj.deferred (some []))->w'.heap[r]? =w.heap[r]? :=fun r h=>R'.ckeep r (Array.getElem?_eq_some_iff.1 h).1 (I2 r h)
 have QH: ∀r:Nat,w.heap[r]? =some (Obj.deferred (some []))->A' r->A r:=by
  intro r h hr;rcases hA r hr with h1 | h1 | h1
  ·exact h1
  ·exact absurd h1 (I2 r h)
  ·have:=(Array.getElem?_eq_some_iff.1 h).1;omega
 refine⟨E,{ R with defers:=R.defers.evo JQ QH,env:=fun t=>(R.env t).evo E,loc:= ?_,heap:=R'.heap,hinj:=R'.hinj,lh:= ?_,aH:=R'.aH,aL:= ?_,alt:=R'.alt,afz:=R'.afz,fresh:=R'.fresh,glob:=R'.glob,cout:=⟨R'.cout.1.trans R.cout.1,R'.cout.2.trans R.cout.2⟩,csize:=Nat.le_trans R.csize AS,ckeep:= ?_,cshp:= ?_,csub:= ?_,canew:= ?_,clive:= ?_,chp:= ?_ }⟩
 ·intro t cs h;obtain⟨h1,h2⟩:=R.loc t cs h;have ht:(s.loc t).isSome=true:=by rw[h];rfl
  exact⟨h1,h2.evo E (R'.ckeep _ (R.lt_loc ht) (fun hm=>hX t _ ht hm rfl))⟩
 ·intro t k o ht h hl he;rcases D1 k o h hl with h1 | h1 | h1
  ·rcases hA _ h1 with h2 | h2 | h2
   ·exact R.aL _ h2 ⟨t,ht,he⟩
   ·exact hX t _ ht h2 he
   ·have:=R.lt_loc ht;omega
  ·exact hX t _ ht h1 he
  ·have:=R.lt_loc ht;omega
 ·rintro r hr ⟨t,ht,he⟩;rcases hA r hr with h2 | h2 | h2
  ·exact R.aL _ h2 ⟨t,ht,he⟩
  ·exact hX t _ ht h2 he
  ·have:=R.lt_loc ht;omega
 ·intro r h1 h2;rw[R'.ckeep r (Nat.lt_of_lt_of_le h1 R.csize) ?_]
  ·exact R.ckeep r h1 h2
  ·intro hm;rcases R.clive r hm with h | h
   ·exact h2 h
   ·omega
 ·intro r x h;exact R'.cshp r x (R.cshp r x h)
 ·intro r h;exact R'.csub r (R.csub r h)
 ·intro r h;rcases hA r h with h | h | h
  ·exact R.canew r h
  ·exact .inr (R.clive r h)
  ·exact .inr (.inr (Nat.le_trans R.csize h))
 ·intro r h;rcases R'.clive r h with h | h
  ·exact R.clive r h
  ·exact .inr (Nat.le_trans R.csize h)
 ·intro k o h;obtain⟨o1,h1,h2,h3⟩:=R.chp k o h;obtain⟨o2,h4,h5,h6⟩:=R'.chp k o1 h1;refine⟨o2,h4,O.le_trans h2 h5,fun hl=> ?_⟩
  have AO:o1.live=true:=by
   cases o1<;>first | rfl | (cases o2<;>simp_all [O.le,O.live])
  have e1:=h6 hl;have e2:=h3 AO;simp only at e1;rw[e1,e2]
theorem zul (hI:I.Ok N) (R:Rel N c ns A μ lam s a w) {cl:Call} {f':Opd} {args':List Opd} {fv:V} {g:Nat} {as bs vs:List V} {r:V} {rf:Func} {H':Nat->Option O} {n':Nat} {Q:Exit->Act->World->Prop}
 (ho:o.op= .call cl) (SL:zH5 P I cl f') (B0:opds I cl.args=some args') (As:evl N.G s f'=some fv) (Ax:zfC fv=some (g,as,bs))
 (An:Real P (N.nm g) rf) (Au:zgE N.G s args'=some vs) (hc:zns P N g (as++vs++bs) s.heap s.nxt r H' n')
 (hd: ∀x,o.dst=some x->x<ns) (Bd:s.free o.dst {}):
 o.wpIn (FW ro) 0 P a w (fun a' w'=> ∃A' μ' lam',Rel N c ns A' μ' lam' ({ s with heap:=H',nxt:=n' }.apply o.dst { val:=r }) a' w') Q:=by
 obtain⟨va,vb,ha,Bf,Sw⟩:=zHF hI R ho SL As Ax An;have BE:zb1 w A N.nm μ s.heap (cl.args.map a.eval) vs:=zdz hI R B0 Au;have Da:=hc _ A μ lam w _ R.bare ((ha.append BE).append Bf);refine⟨fun _ _=>trivial,?_⟩;rw[o.semAt_eq _ _ (by rw[ho];simp),Sw,Oper.uponIn_enter];refine⟨zhg,zlS (Da.mono ?_)⟩;rintro e w' ⟨v,A',μ',lam',rfl,R',hr⟩;obtain⟨_,R1⟩:=R.back R';exact⟨A',μ',lam,R1.put o.dst { val:=r } v hd Bd rfl rfl rfl hr (by simp)⟩
theorem zlq {key:Nat} {r:V} {h:Nat->Option O} {e:Eff} (he:zqm key r h=some e): ∀x∈e.hp,x.1=key:=by
 unfold zqm at he;split at he
 ·simp only[zA]at he;subst he;intro x hx;simp at hx
 ·simp only[zA]at he;subst he;intro x hx;simp at hx
 ·split at he
  ·split at he
   ·simp only[zA]at he;subst he;intro x hx;simp only[List.mem_singleton]at hx;rw[hx]
   ·simp at he
  ·simp at he
 ·split at he
  ·split at he
   ·simp only[zA]at he;subst he;intro x hx;simp only[List.mem_singleton]at hx;rw[hx]
   ·simp at he
  ·simp at he
 ·simp at he
theorem zeP {key:Nat} {r:V} {h:Nat->Option O} {e:Eff} (he:zqm key r h=some e):e.adr=none/\e.loc=none/\e.wloc=none:=by
 unfold zqm at he;split at he
 ·simp only[zA]at he;subst he;exact⟨rfl,rfl,rfl⟩
 ·simp only[zA]at he;subst he;exact⟨rfl,rfl,rfl⟩
 ·split at he
  ·split at he
   ·simp only[zA]at he;subst he;exact⟨rfl,rfl,rfl⟩
   ·simp at he
  ·simp at he
 ·split at he
  ·split at he
   ·simp only[zA]at he;subst he;exact⟨rfl,rfl,rfl⟩
   ·simp at he
  ·simp at he
 ·simp at he
theorem zqD (hI:I.Ok N) (R:Rel N c ns A μ lam s a w) {cl:Call} {f':Opd} {args':List Opd} {fv:V} {g:Nat} {as bs vs rs:List V} {r:V} {rf:Func} {H':Nat->Option O} {n':Nat} {e:Eff} {Q:Exit->Act->World->Prop}
 (ho:o.op= .call cl) (SL:zH5 P I cl f') (B0:opds I cl.args=some args') (As:evl N.G s f'=some fv) (Ax:zfC fv=some (g,as,bs))
 (An:Real P (N.nm g) rf) (Au:zgE N.G s args'=some vs) (AD:(as++vs++bs).mapM (toT1 s.heap)=some rs) (Sy:(as++vs++bs).flatMap (zba s.heap)=[]) (hc:zns P N g rs (fun _=>none) 0 r H' n')
 (he:zqm (s.bas+p) r H'=some e) (hd: ∀x,o.dst=some x->x<ns) (Bd:s.free o.dst {}) (hk:s.heap (s.bas+p)=none) (hn:s.bas+p<s.nxt):
 o.wpIn (FW ro) 0 P a w (fun a' w'=> ∃A' μ' lam',Rel N c ns A' μ' lam' (s.apply o.dst e) a' w') Q:=by
 obtain⟨va,vb,ha,Bf,Sw⟩:=zHF hI R ho SL As Ax An;have BE:zb1 w A N.nm μ s.heap (cl.args.map a.eval) vs:=zdz hI R B0 Au;have Aa:=(ha.append BE).append Bf;obtain⟨m1,m2⟩:=zbb AD
 have Ae:zb1 w A N.nm (fun _=>0) (fun _=>none) (va++cl.args.map a.eval++vb) rs:=by
  refine⟨by rw[Aa.1,m1],fun i x hi=> ?_⟩;obtain⟨y,hy,ht⟩:=m2 i x hi;obtain⟨v,hv,hr⟩:=Aa.2 i y hy;refine⟨v,hv,((zk9 R.heap ht hr (fun _=>0) (fun _=>none)).mono ?_).toV⟩;rintro q (h | ⟨k,hk,h2⟩)
  ·exact h
  ·have:zba s.heap y=[]:=by
    rw[List.flatMap_eq_nil_iff]at Sy;exact Sy y (zL hy)
   rw[this]at hk;simp at hk
 have HR:Rel N ⟨w,fun _=>False,A,fun _=>none,fun _=>0⟩ 0 A (fun _=>0) (fun _=>0) (.init [] (fun _=>none) 0) zaM w:=
  { size:=rfl,defers:=zdG.nil _ _ _,env:=fun t=>by simp[St.init,zfz,zaM,zbl],loc:=fun t cs h=>by simp[St.init]at h,adr:=fun t b o h=>by simp[St.init]at h,
    heap:=fun k o h=>by simp[St.init]at h,hinj:=fun k k' o o' h=>by simp[St.init]at h,linj:=fun t t' h=>by simp[St.init]at h,lh:=fun t k o h=>by simp[St.init]at h,
    aH:=fun r _=>by rintro⟨k,o,h,_⟩;simp[St.init]at h,aL:=fun r _=>by rintro⟨t,h,_⟩;simp[St.init]at h,alt:=R.alt,afz:=fun k sz rs h=>by simp[St.init]at h,fresh:=fun _ _=>rfl,
    glob:=R.glob,cout:=⟨rfl,rfl⟩,csize:=Nat.le_refl _,ckeep:=fun _ _ _=>rfl,cshp:=fun _ _ h=>h,csub:=fun _ h=>h,canew:=fun _ h=> .inl h,clive:=fun r=>by rintro⟨k,o,h,_⟩;simp[St.init]at h,
    cloc:=fun t h=>by simp[St.init]at h,chp:=fun k o h=>by simp at h }
 have Da:=hc _ A (fun _=>0) (fun _=>0) w _ HR Ae;refine⟨fun _ _=>trivial,?_⟩;rw[o.semAt_eq _ _ (by rw[ho];simp),Sw,Oper.uponIn_enter];refine⟨zhg,zlS (Da.mono ?_)⟩;rintro e0 w' ⟨v,A',μ',lam',rfl,R',DY⟩;have Aq: ∀q,q<w.heap.size->w'.heap[q]? =w.heap[q]? :=fun q hq=>R'.ckeep q hq (fun h=>h)
 have AS:w.heap.size<=w'.heap.size:=R'.csize
 have R1:Rel N c ns A μ lam s a w':=by
  refine R.world AS ?_ (fun r hr _=>Aq r (Nat.lt_of_lt_of_le hr R.csize)) R'.cshp (R.defers.evo (fun r h=>Aq r (Array.getElem?_eq_some_iff.1 h).1) (fun _ _ h=>h)) R'.cout;rintro r (h | ⟨t,h,rfl⟩ | ⟨k,o',h,hl,rfl⟩)
  ·exact Aq r (R.alt r h)
  ·exact Aq _ (R.lt_loc h)
  ·exact Aq _ (R.lt_live h hl)
 unfold zqm at he;split at he
 ·simp only[zA]at he;subst he;have D7:RepT w' A' N.nm v .nils:=DY.t_inv;refine⟨A,μ,lam,R1.put o.dst { val:=.t .nils } v hd Bd rfl rfl rfl ?_ (by simp)⟩
  cases D7 with
  | nils a=>exact(RepC.t (.nils a)).toV
 ·simp only[zA]at he;subst he;have D7:RepT w' A' N.nm v (.sl []):=DY.t_inv;refine⟨A,μ,lam,R1.put o.dst { val:=.t (.sl []) } v hd Bd rfl rfl rfl ?_ (by simp)⟩
  cases D7 with
  | sl0 a cap=>exact(RepC.t (.sl0 a cap)).toV
  | sl _ _ _ _ _ _ h0=>exact absurd h0 (by simp)
 ·rename_i k i n;split at he
  ·rename_i sz rws AB;split at he
   ·rename_i Bw;obtain⟨rfl,rfl,FS⟩:=Bw;simp only[zA]at he;subst he;have GA:=R'.heap k _ AB;have D1:MBH (St.init [] H' n').heap μ' (μ' k):=⟨k,_,AB,by intro sz rs h;simp at h,rfl,rfl⟩
    have OX:w.heap.size<=μ' k:=by
     rcases R'.clive _ D1 with h | h
     ·exact h.elim
     ·exact h
    have hq: ¬A' (μ' k):=fun h=>R'.aH _ h D1
    have R2:=R1.growA (fun q=>A' q/\w.heap.size<=q) (fun q hq t ht=>by have:=R.lt_loc ht;omega) (fun q hq k o hk hl=>by have:=R.lt_live hk hl;omega)
     (fun q hq=> .inr (by have:=R.csize;omega)) (fun q hq=>R'.alt q hq.1) (R.defers.join R1.defers (fun q hq=>hq.2))
    have Rs: ∀q,A' q->A q\/(A' q/\w.heap.size<=q):=by
     intro q hq;rcases R'.canew q hq with h | h | h
     ·exact .inl h
     ·exact h.elim
     ·exact .inr ⟨hq,h⟩
    have Dl:Orphan c (fun q=>A q\/(A' q/\w.heap.size<=q)) μ lam s (μ' k):=by
     refine⟨?_,fun t ht e=> ?_,fun k1 o1 h1 l1 e=> ?_,.inr (by have:=R.csize;omega)⟩
     ·rintro(h | h)
      ·have:=R.alt _ h;omega
      ·exact hq h.1
     ·have:=R.lt_loc ht;omega
     ·have:=R.lt_live h1 l1;omega
    obtain⟨cc,e1,z,g1,g2,g3,g4,g5⟩:=GA
    have MX: ∀(i:Nat) (row:List V) (j:Nat) (x:V),rws[i]? =some row->row[j]? =some x-> ∃y,x= .t y:=by
     intro i row j x hi hj;have h1:=zN.1 FS row (zL hi);have h2:=zN.1 h1 x (zL hj)
     cases x with
     | t y=>exact⟨y,rfl⟩
     | _=>simp[V.isTr]at h2
    have KW:zq3 w' (fun q=>A q\/(A' q/\w.heap.size<=q)) N μ s.heap (μ' k) (.rows sz rws false):=by
     refine⟨cc,e1,z,g1,g2,g3,g4,fun i row j x hi hj=> ?_⟩;obtain⟨y,rfl⟩:=MX i row j x hi hj;obtain⟨u,hu,hr⟩:=g5 i row j _ hi hj;refine⟨u,hu,.t ?_⟩
     cases hr with
     | t h=>exact h.mono (fun _ _=>rfl) Rs
    have R3:=R2.adoptH (k:=s.bas+p) hk hn Dl KW (by intro sz rs h;simp at h)
    have IZ:zbl w' (fun q=>A q\/(A' q/\w.heap.size<=q)) N.nm (upd μ (s.bas+p) (μ' k)) (upd s.heap (s.bas+p) (some (.rows sz rws false))) v (.ms (s.bas+p) 0 rws.length):=by
     cases(DY:RepC w' A' N.nm μ' H' v _)with
     | ms _ _ _ cap sz' rs' fz' a' Ah AK Bz Gd=>
       have:some (O.rows sz' rs' fz')=some (O.rows sz rws false):=Ah.symm.trans AB;cases this;refine RepC.toV (.ms _ _ _ cap sz rws false a' (by simp) AK Bz ?_);rcases Gd with h | ⟨h1,e2,n2,h2,h3⟩
       ·exact .inl h
       ·exact .inr ⟨by rw[zaz];exact h1,e2,n2,by rw[zaz];exact h2,h3⟩
     | dms _ _ _ Ah _=>have:=Ah.symm.trans AB;simp at this
    exact⟨_,_,lam,R3.put o.dst { val:=.ms (s.bas+p) 0 rws.length } v hd Bd rfl rfl rfl IZ (by simp)⟩
   ·simp at he
  ·simp at he
 ·rename_i k i off;split at he
  ·rename_i sz rws AB;split at he
   ·rename_i Bw;obtain⟨rfl,rfl,FS⟩:=Bw;simp only[zA]at he;subst he;have GA:=R'.heap k _ AB;have D1:MBH (St.init [] H' n').heap μ' (μ' k):=⟨k,_,AB,by intro sz rs h;simp at h,rfl,rfl⟩
    have OX:w.heap.size<=μ' k:=by
     rcases R'.clive _ D1 with h | h
     ·exact h.elim
     ·exact h
    have hq: ¬A' (μ' k):=fun h=>R'.aH _ h D1
    have R2:=R1.growA (fun q=>A' q/\w.heap.size<=q) (fun q hq t ht=>by have:=R.lt_loc ht;omega) (fun q hq k o hk hl=>by have:=R.lt_live hk hl;omega)
     (fun q hq=> .inr (by have:=R.csize;omega)) (fun q hq=>R'.alt q hq.1) (R.defers.join R1.defers (fun q hq=>hq.2))
    have Rs: ∀q,A' q->A q\/(A' q/\w.heap.size<=q):=by
     intro q hq;rcases R'.canew q hq with h | h | h
     ·exact .inl h
     ·exact h.elim
     ·exact .inr ⟨hq,h⟩
    have Dl:Orphan c (fun q=>A q\/(A' q/\w.heap.size<=q)) μ lam s (μ' k):=by
     refine⟨?_,fun t ht e=> ?_,fun k1 o1 h1 l1 e=> ?_,.inr (by have:=R.csize;omega)⟩
     ·rintro(h | h)
      ·have:=R.alt _ h;omega
      ·exact hq h.1
     ·have:=R.lt_loc ht;omega
     ·have:=R.lt_live h1 l1;omega
    obtain⟨cc,e1,z,g1,g2,g3,g4,g5⟩:=GA
    have MX: ∀(i:Nat) (row:List V) (j:Nat) (x:V),rws[i]? =some row->row[j]? =some x-> ∃y,x= .t y:=by
     intro i row j x hi hj;have h1:=zN.1 FS row (zL hi);have h2:=zN.1 h1 x (zL hj)
     cases x with
     | t y=>exact⟨y,rfl⟩
     | _=>simp[V.isTr]at h2
    have KW:zq3 w' (fun q=>A q\/(A' q/\w.heap.size<=q)) N μ s.heap (μ' k) (.rows sz rws false):=by
     refine⟨cc,e1,z,g1,g2,g3,g4,fun i row j x hi hj=> ?_⟩;obtain⟨y,rfl⟩:=MX i row j x hi hj;obtain⟨u,hu,hr⟩:=g5 i row j _ hi hj;refine⟨u,hu,.t ?_⟩
     cases hr with
     | t h=>exact h.mono (fun _ _=>rfl) Rs
    have R3:=R2.adoptH (k:=s.bas+p) hk hn Dl KW (by intro sz rs h;simp at h)
    have Ui:zbl w' (fun q=>A q\/(A' q/\w.heap.size<=q)) N.nm (upd μ (s.bas+p) (μ' k)) (upd s.heap (s.bas+p) (some (.rows sz rws false))) v (.mp (s.bas+p) 0 0):=by
     cases(DY:RepC w' A' N.nm μ' H' v _)with
     | mp _ _ _ sz' rs' fz' Ah AK=>
       have:some (O.rows sz' rs' fz')=some (O.rows sz rws false):=Ah.symm.trans AB;cases this;have:=RepC.mp (w:=w') (A:=fun q=>A q\/(A' q/\w.heap.size<=q)) (nm:=N.nm) (μ:=upd μ (s.bas+p) (μ' k)) (H:=upd s.heap (s.bas+p) (some (.rows sz rws false))) (s.bas+p) 0 0 sz rws false (by simp) AK;rw[zaz]at this
       exact this.toV
     | mb _ _ Ah=>have:=Ah.symm.trans AB;simp at this
     | dmp _ _ _ Ah _=>have:=Ah.symm.trans AB;simp at this
    exact⟨_,_,lam,R3.put o.dst { val:=.mp (s.bas+p) 0 0 } v hd Bd rfl rfl rfl Ui (by simp)⟩
   ·simp at he
  ·simp at he
 ·simp at he
theorem zmz {H:Nat->Option O} {n:Nat} (HR:Rel N c 0 A μ lam (.init [] H n) zaM w) {vs:Array Value} {xs:List V} (h:zb1 w A N.nm μ H vs xs) (k:Nat):
 Rel N c (vs++Array.replicate (k-vs.size) undef).size A μ lam (.init xs H n) { tmps:=vs++Array.replicate (k-vs.size) undef,defers:=[] } w where
 size:=rfl
 defers:=zdG.nil _ _ _
 env t:=by
  show zbl w A N.nm μ H ((vs++Array.replicate (k-vs.size) undef).getD t undef) (xs.getD t .undef)
  by_cases ht:t<xs.length
  ·obtain⟨v,hv,hr⟩:=h.2 t xs[t] (zI ht)
   have e1:(vs++Array.replicate (k-vs.size) undef).getD t undef=v:=by
    rw[Array.getD_eq_getD_getElem?,Array.getElem?_append_left (by rw[h.1];exact ht),hv];rfl
   have e2:xs.getD t .undef=xs[t]:=by rw[zK,zI ht];rfl
   rw[e1,e2];exact hr
  ·have e2:xs.getD t .undef= .undef:=by rw[zK,List.getElem?_eq_none (by omega)];rfl
   have e1:(vs++Array.replicate (k-vs.size) undef).getD t undef=undef:=by
    rw[Array.getD_eq_getD_getElem?,Array.getElem?_append_right (by rw[h.1];omega),Array.getElem?_replicate];split<;>rfl
   rw[e1,e2];exact rfl
 loc t cs h:=by simp[St.init]at h
 adr t b o h:=by simp[St.init]at h
 heap:=HR.heap
 hinj:=HR.hinj
 linj t t' h:=by simp[St.init]at h
 lh t k o h:=by simp[St.init]at h
 aH:=HR.aH
 aL r _:=by rintro⟨t,h,_⟩;simp[St.init]at h
 alt:=HR.alt
 afz:=HR.afz
 fresh:=HR.fresh
 glob:=HR.glob
 cout:=HR.cout
 csize:=HR.csize
 ckeep:=HR.ckeep
 cshp:=HR.cshp
 csub:=HR.csub
 canew:=HR.canew
 clive:=HR.clive
 cloc t h:=by simp[St.init]at h
 chp:=HR.chp
theorem zmy (R:Rel N c ns A μ lam s a w):Rel N c 0 A μ lam (.init [] s.heap s.nxt) zaM w where
 size:=rfl
 defers:=zdG.nil _ _ _
 env t:=by simp[St.init,zfz,zaM,zbl]
 loc t cs h:=by simp[St.init]at h
 adr t b o h:=by simp[St.init]at h
 heap:=R.heap
 hinj:=R.hinj
 linj t t' h:=by simp[St.init]at h
 lh t k o h:=by simp[St.init]at h
 aH:=R.aH
 aL r _:=by rintro⟨t,h,_⟩;simp[St.init]at h
 alt:=R.alt
 afz:=R.afz
 fresh:=R.fresh
 glob:=R.glob
 cout:=R.cout
 csize:=R.csize
 ckeep:=R.ckeep
 cshp:=R.cshp
 csub:=R.csub
 canew:=R.canew
 clive:=R.clive
 cloc t h:=by simp[St.init]at h
 chp:=R.chp
def zo4 (P:Program):ResultVar->Res->Prop
 | .tmp t,.s t'=>t=t'
 | .cell a ty,.l a' ag n=>a=a'/\typ P ty=some (ag,n)
 | .cell a ty,.h a' ag n=>a=a'/\typ P ty=some (ag,n)
 | _,_=>False
def zks (tmps:Array Value):ResultVar->Sem Value
 | .tmp t=>pure (tmps.getD t undef)
 | .cell a t=>do loadVar t (<- asAddr (tmps.getD a undef))
theorem zwp (R:Rel N c ns A μ lam s a w) {rv:ResultVar} {rs:Res} {v:V} (hr:zo4 P rv rs) (hv:zer s rs=some v): ∃v',(zks a.tmps rv).run P w= .ok v' w/\zcl w A N.nm μ s.heap v' v:=by
 cases rv with
 | tmp t=>
   cases rs with
   | s t'=>
     cases(hr:t=t');have he:=R.env t;simp only[zer]at hv;split at hv<;>first | (simp at hv;done) | skip
     simp only[zA]at hv;subst hv;refine⟨_,rfl,?_⟩;rename_i h1 h2 h3
     revert he h1 h2 h3
     generalize s.env t=x
     intro he h1 h2 h3
     cases x<;>first | exact he | exact absurd rfl h1 | exact absurd rfl h2 | exact absurd rfl (h3 _)
   | l _ _ _=>exact hr.elim
   | h _ _ _=>exact hr.elim
 | cell ad ty=>
   cases rs with
   | s t'=>exact hr.elim
   | l b ag n=>
     obtain⟨rfl,A6⟩:=hr;simp only[zer,zC,zB]at hv;obtain⟨cs,hb,r,BK,hw⟩:=hv;obtain⟨hp,cc,e0,h1,h2⟩:=R.loc ad cs hb;obtain⟨h3,h4,h5⟩:=h2.rd BK
     have hl:=zdZ (w:=w) A6 (lam ad) 0 ((cc.toList.drop 0).take n) (by simp at h4⊢;omega) (fun j v hj=>by
      simp only[List.drop_zero,zO,Array.getElem?_toList]at hj;split at hj
      ·simp[World.cell?,h1,hj]
      ·simp at hj)
     exact⟨zgJ ag ((cc.toList.drop 0).take n),by simp only[zks,Sem.run_bind,hp,asAddr,Sem.run_pure,Result.andThen_ok,hl],h3.wrap1 hw⟩
   | h b ag n=>
     obtain⟨rfl,A6⟩:=hr;have he:=R.env ad;simp only[zer]at hv;split at hv
     ·rename_i k i off CK;rw[CK]at he;split at hv
      ·rename_i sz rs frz hk;simp only[zC,zB]at hv;obtain⟨row,Ap,r,BK,hw⟩:=hv;obtain⟨hp,_⟩:=zbl.mp_inv he hk;obtain⟨vs,h1,h2⟩:=zmt R hk Ap;obtain⟨h3,h4,h5⟩:=h1.rd BK
       have hl:=zdZ (w:=w) A6 (μ k) (i*sz+off) ((vs.drop off).take n) (by simp;omega) (fun j v hj=>by
        simp only[zO,List.getElem?_drop]at hj;split at hj
        ·rw[Nat.add_assoc];exact h2 _ v hj
        ·simp at hj)
       exact⟨zgJ ag ((vs.drop off).take n),by simp only[zks,Sem.run_bind,hp,asAddr,Sem.run_pure,Result.andThen_ok,hl],h3.wrap1 hw⟩
      ·simp at hv
     ·simp at hv
theorem zrM (R:Rel N c ns A μ lam s a w) {rf:Func} {rs:List Res} {v:V} (hl:rf.results.toList.length=rs.length) (hr: ∀(i:Nat) (x:ResultVar) (y:Res),rf.results.toList[i]? =some x->rs[i]? =some y->zo4 P x y)
 (hv:zeM s rs=some v): ∃v',(results rf a.tmps).run P w= .ok v' w/\zbl w A N.nm μ s.heap v' v:=by
 simp only[zeM,zC,zB]at hv;obtain⟨vs,Au,hv⟩:=hv
 have key: ∀(l:List ResultVar) (rs:List Res) (vs:List V),l.length=rs.length->(∀(i:Nat) (x:ResultVar) (y:Res),l[i]? =some x->rs[i]? =some y->zo4 P x y)->rs.mapM (zer s)=some vs->
  ∃us:List Value,(l.mapM (m:=Sem) (zks a.tmps)).run P w= .ok us w/\us.length=vs.length/\ ∀(i:Nat) (x:V),vs[i]? =some x-> ∃u,us[i]? =some u/\zcl w A N.nm μ s.heap u x:=by
  intro l
  induction l with
  | nil=>
    intro rs vs h1 _ h3;have:rs=[]:=List.length_eq_zero_iff.1 (by simpa using h1.symm);subst this;simp at h3;subst h3
    exact⟨[],by simp,rfl,by simp⟩
  | cons x l ih=>
    intro rs vs h1 h2 h3
    cases rs with
    | nil=>simp at h1
    | cons y rs=>
      simp only[List.mapM_cons,zC,zB,Option.pure_def,zA]at h3;obtain⟨z,hz,zs,Io,rfl⟩:=h3;obtain⟨u,hu,DU⟩:=zwp (P:=P) R (h2 0 x y rfl rfl) hz;obtain⟨us,Kh,Ac,Ag⟩:=ih rs zs (by simpa using h1) (fun i x' y' a1 a2=>h2 (i+1) x' y' (by simpa using a1) (by simpa using a2)) Io;refine⟨u::us,by simp only[List.mapM_cons,Sem.run_bind,hu,Kh,Result.andThen_ok,Sem.run_pure],by simp[Ac],fun i q hq=> ?_⟩
      cases i with
      | zero=>simp at hq;subst hq;exact⟨u,rfl,DU⟩
      | succ i=>simp at hq;simpa using Ag i q hq
 obtain⟨us,Kh,Ac,Ag⟩:=key _ rs vs hl hr Au
 have Am:(results rf a.tmps).run P w= .ok (if h:us.toArray.size=1 then us.toArray[0]else .tuple us.toArray) w:=by
  have:(rf.results.mapM (m:=Sem) (zks a.tmps)).run P w= .ok us.toArray w:=by
   rw[Array.mapM_eq_mapM_toList];simp only[Sem.run_map,Kh,Result.andThen_ok]
  have h2:results rf a.tmps=(do let vs<- rf.results.mapM (m:=Sem) (zks a.tmps);pure (if h:vs.size=1 then vs[0]else .tuple vs)):=by
   unfold results
   congr 1
  rw[h2];simp only[Sem.run_bind,this,Result.andThen_ok,Sem.run_pure]
 refine⟨_,Am,?_⟩;split at hv
 ·rename_i x;simp only[zA]at hv;subst hv;obtain⟨u,hu,DU⟩:=Ag 0 _ rfl
  match us,Ac,hu with
  | [u'],_,hu=>simp at hu;subst hu;simpa using DU.toV
 ·rename_i Az;simp only[zA]at hv;subst hv
  have Js:us.length≠1:=by
   intro h;rw[Ac]at h
   match vs,h,Az with
   | [x],_,Az=>exact Az x rfl
  rw[dif_neg (by simpa using Js)];exact⟨us.toArray,rfl,by simpa using Ac,fun i q hq=>by simpa using Ag i q hq⟩
end
end Rg
end
section
namespace Rg
open Go
def Ex.jump:Ex->Option Code
 | .normal=>none
 | .exit id=>some (.exit id)
 | .ret=>some .ret
theorem Ex.toL_rel (e:Ex):e.toL.rel (if e.jump.isNone then .ready else .done) e.jump:=by
 cases e<;>simp[Ex.toL,LSt.rel,Ex.jump]
theorem Ex.jump_none (e:Ex):e.jump.isNone=decide (e=Ex.normal):=by
 cases e<;>simp[Ex.jump]
theorem zhP {w:World} {r:Nat} {L:Go.Loop} (o:Go.Obj) (h:w.heap[r]? =some (.loop L)) (q:Nat) (x:TypeId×Nat) (hq:w.shape? q=some x):(w.putObj r o).shape? q=some x:=by
 by_cases e:q=r
 ·subst e;simp[World.shape?,h]at hq
 ·simpa[World.shape?,World.putObj_heap_other e]using hq
theorem zmu {Rp:Value->V->Prop}: ∀(ps:List Nat) (us:List Value) (vs:List V) (tmps:Array Value) (env:Nat->V),us.length=ps.length->vs.length=ps.length->(∀t∈ps,t<tmps.size)->
 (∀(i:Nat) (v:V),vs[i]? =some v-> ∃u,us[i]? =some u/\Rp u v)->(∀t,Rp (tmps.getD t undef) (env t))->
 ((ps.zip us).foldl (fun(tmps:Array Value) (x:Nat×Value)=>tmps.setIfInBounds x.1 x.2) tmps).size=tmps.size/\
   ∀t,Rp (((ps.zip us).foldl (fun(tmps:Array Value) (x:Nat×Value)=>tmps.setIfInBounds x.1 x.2) tmps).getD t undef) (zhB env ps vs t)
 | [],us,vs,tmps,env,_,hv,_,_,he=>by
   have:vs=[]:=List.length_eq_zero_iff.1 (by simpa using hv);subst this
   exact⟨rfl,fun t=>by simpa[zhB]using he t⟩
 | p::ps,u::us,v::vs,tmps,env,hu,hv,hl,hr,he=>by
   have hp:p<tmps.size:=hl p List.mem_cons_self;obtain⟨u',TI,Nj⟩:=hr 0 v rfl;simp only[List.getElem?_cons_zero,zA]at TI;subst TI
   have h:=zmu ps us vs (tmps.setIfInBounds p u) (upd env p v) (by simpa using hu) (by simpa using hv) (fun t ht=>by simpa using hl t (List.mem_cons_of_mem _ ht))
    (fun i x hi=>by simpa using hr (i+1) x (by simpa using hi)) (fun t=>by
      by_cases e:t=p
      ·subst e;simpa[Array.getD_eq_getD_getElem?,hp]using Nj
      ·rw[zad _ _ e];have:(tmps.setIfInBounds p u).getD t undef=tmps.getD t undef:=by simp[Array.getD_eq_getD_getElem?,Ne.symm e]
       rw[this];exact he t)
   exact⟨by simpa using h.1,fun t=>by simpa[zhB]using h.2 t⟩
 | p::ps,[],vs,tmps,env,hu,_,_,_,_=>by simp at hu
 | p::ps,u::us,[],tmps,env,_,hv,_,_,_=>by simp at hv
section
variable {P:Program} {N:Nam} {I:Inv} {c:Ctx} {ns p:Nat} {A:Nat->Prop} {μ lam:Nat->Nat} {s:St} {a:Act} {w:World} {e:Eff} {o:Oper} {ro:Option Nat}
theorem zrP {H:Nat->Option O} {n m:Nat} (HR:Rel N c 0 A μ lam (.init [] H n) zaM w) {tmps:Array Value} {env:Nat->V} (hm:tmps.size=m) (h: ∀t,zbl w A N.nm μ H (tmps.getD t undef) (env t)):
 Rel N c m A μ lam { env:=env,loc:=fun _=>none,adr:=fun _=>none,used:=fun _=>false,heap:=H,nxt:=n,bas:=n } { tmps:=tmps,defers:=[] } w where
 size:=hm
 defers:=zdG.nil _ _ _
 env t:=h t
 loc t cs h:=by simp at h
 adr t b o h:=by simp at h
 heap:=HR.heap
 hinj:=HR.hinj
 linj t t' h:=by simp at h
 lh t k o h:=by simp at h
 aH:=HR.aH
 aL r _:=by rintro⟨t,h,_⟩;simp at h
 alt:=HR.alt
 afz:=HR.afz
 fresh:=HR.fresh
 glob:=HR.glob
 cout:=HR.cout
 csize:=HR.csize
 ckeep:=HR.ckeep
 cshp:=HR.cshp
 csub:=HR.csub
 canew:=HR.canew
 clive:=HR.clive
 cloc t h:=by simp at h
 chp:=HR.chp
theorem Rel.setLoop (R:Rel N c ns A μ lam s a w) {k:Nat} {env:Nat->V} {ps:List Nat} {bd:C} {st st':LSt} (hk:s.heap k=some (.loop env ps bd st)) {L:Go.Loop} (hL:w.heap[μ k]? =some (.loop L))
 (state:LoopState) (pending:Option Code) (AE:st'.rel state pending):
 Rel N c ns A μ lam { s with heap:=upd s.heap k (some (.loop env ps bd st')) } a (w.putObj (μ k) (.loop { L with state:=state,pending:=pending })):=by
 obtain⟨L',Gg,h1,h2,h3,_,h5,h6⟩:=R.heap k _ hk;have:L'=L:=by rw[hL]at Gg;cases Gg;rfl
 subst this;refine R.changeH (k:=k) (o:=.loop env ps bd st) hk trivial rfl (by simp) (by simp) rfl (by simp) (fun r hr=>World.putObj_heap_other hr) (fun q x hq=>zhP _ hL q x hq) (fun E=> ?_);exact⟨{ L' with state:=state,pending:=pending },World.putObj_heap_same (Array.getElem?_eq_some_iff.1 hL).1,h1,h2,h3,AE,h5,fun t=>(h6 t).evo E⟩
theorem Rel.relabel (R:Rel N c ns A μ lam s a w) {k:Nat} {env:Nat->V} {ps:List Nat} {bd:C} {st st':LSt} (hk:s.heap k=some (.loop env ps bd st)) (h: ∀x y,st.rel x y->st'.rel x y):
 Rel N c ns A μ lam { s with heap:=upd s.heap k (some (.loop env ps bd st')) } a w:=by
 refine R.changeH (k:=k) (o:=.loop env ps bd st) hk trivial rfl (by simp) (by simp) rfl rfl (fun _ _=>rfl) (fun _ _ h=>h) (fun E=> ?_);obtain⟨L,hL,h1,h2,h3,h4,h5,h6⟩:=R.heap k _ hk;exact⟨L,hL,h1,h2,h3,h _ _ h4,h5,fun t=>(h6 t).evo E⟩
theorem zpX (hI:I.Ok N) (R:Rel N c ns A μ lam s a w) {cl:Call} {f':Opd} {args':List Opd} {k:Nat} {vs:List V} {env env1 env':Nat->V} {ps ps1 ps':List Nat} {ca cb bd1 bd':C} {e:Ex} {s1 s2:St} {Q:Exit->Act->World->Prop}
 (ho:o.op= .call cl) (SL:zH5 P I cl f') (B0:opds I cl.args=some args') (As:evl N.G s f'=some (.yl k))
 (hk:s.heap k=some (.loop env ps (.round ca cb) .ready)) (Au:zgE N.G s args'=some vs) (Ac:vs.length=ps.length)
 (Bi:zk5 P N ca (zht s.heap s.nxt k env ps (.round ca cb) vs) .normal s1) (A3:s1.heap k=some (.loop env1 ps1 bd1 .enter))
 (RK:zk5 P N cb { s1 with heap:=upd s1.heap k (some (.loop env1 ps1 bd1 .busy)) } e s2) (AF:s2.heap k=some (.loop env' ps' bd' .busy)) (hd: ∀x,o.dst=some x->x<ns) (Bd:s.free o.dst {}):
 o.wpIn (FW ro) 0 P a w (fun a' w'=> ∃A' μ' lam',Rel N c ns A' μ' lam' ({ s with heap:=upd s2.heap k (some (.loop env' ps' bd' e.toL)),nxt:=s2.nxt }.apply o.dst { val:=.t (.bool (decide (e=Ex.normal))) }) a' w') Q:=by
 obtain⟨f,hb,hf⟩: ∃f0,cl.callee= .value f0/\opd I f0=some f':=by
  rcases SL with h | ⟨t,name,mt,_,rfl,_⟩
  ·exact h
  ·simp only[evl]at As;split at As
   ·simp only[zE]at As;obtain⟨_,_,h⟩:=As;cases h
   ·cases As
 have hv:a.eval f= .func (.yield (μ k)) #[] #[]:=by
  have h:RepC w A N.nm μ s.heap (a.eval f) (.yl k):=zat hI R hf As
  generalize a.eval f=u at h⊢
  cases h with
  | yl _ env ps b st Ah=>rfl
  | dyl _ Ah=>rw[hk]at Ah;cases Ah
 obtain⟨L,hL,Cd,Hf,Gc,AE,Ad,Cm⟩:=R.heap k _ hk;obtain⟨_,_,NY,Hf⟩:=Hf;obtain⟨_,_,NX,Gc⟩:=Gc;cases NY;cases NX;have BE:zb1 w A N.nm μ s.heap (cl.args.map a.eval) vs:=zdz hI R B0 Au;refine⟨fun _ _=>trivial,?_⟩
 have Am:(o.semAt (FW ro).round a.eval).run P w= .ok (.round (μ k) L.fn ((L.params.zip (cl.args.map a.eval)).foldl (fun tmps (t,a)=>tmps.setIfInBounds t a) L.tmps) L.assign L.body) w:=by
  rw[o.semAt_eq _ _ (by rw[ho];simp)];have hy:=run_yield (P:=P) (args:=cl.args.map a.eval) hL (by rw[BE.1,Ac,Cd];simp);simp only[execOp,ho,resolve,hb,Sem.run_bind,hv,Deferred.ofValue,Sem.run_pure,Result.andThen_ok,invoke,Array.empty_append];exact hy
 rw[Am,Oper.uponIn_round];refine⟨zhg,roundIn_of_wpIn (F:=FW ro) trivial ?_⟩;have R1:=R.bare.relabel (st':= .enter) hk (fun _ _ h=>h.1)
 have E:Evo w A μ s.heap w A μ (upd s.heap k (some (.loop env ps (.round ca cb) .enter))):=by
  refine⟨fun r h=>rfl,fun _ h=>h,fun q o h=> ?_,fun q x hq=>hq⟩
  by_cases e:q=k
  ·subst e;rw[hk]at h;cases h;exact⟨.loop env ps (.round ca cb) .enter,by simp,trivial,fun _=>rfl⟩
  ·exact⟨o,by rw[zad _ _ e];exact h,O.le_refl o,fun _=>rfl⟩
 have IA:=zmu (Rp:=fun v x=>zbl w A N.nm μ (upd s.heap k (some (.loop env ps (.round ca cb) .enter))) v x) ps (cl.args.map a.eval).toList vs L.tmps env
  (by rw[Array.length_toList,BE.1,Ac]) Ac Ad (fun i x hi=>let⟨v,hv,hr⟩:=BE.2 i x hi;⟨v,by simpa using hv,hr.evo E⟩) (fun t=>(Cm t).evo E)
 have LC:(L.params.zip (cl.args.map a.eval)).foldl (fun tmps (t,a)=>tmps.setIfInBounds t a) L.tmps=(ps.zip (cl.args.map a.eval).toList).foldl (fun(tmps:Array Value) (x:Nat×Value)=>tmps.setIfInBounds x.1 x.2) L.tmps:=by
  rw[Cd,<- Array.foldl_toList,Array.toList_zip]
 rw[LC];refine wpIn_mono (Bi L.assign L.tmps.size Hf (μ k) _ A μ lam _ _ (zrP R1 IA.1 IA.2)) ?_;rintro e1 a1 w1 ⟨rfl,A1,μ1,lam1,Ra⟩
 have hμ1:μ1 k=μ k:=by
  obtain⟨o',AR,_,hm⟩:=Ra.chp k _ hk;have:some o'=some (O.loop env1 ps1 bd1 .enter):=AR.symm.trans A3;cases this;exact hm rfl
 obtain⟨L1,Pv,_,_,_,Nc,_,_⟩:=Ra.heap k _ A3;have LR:=run_beginRound (P:=P) Pv Nc;rw[hμ1]at LR;refine⟨_,LR,?_⟩;have Rb:=Ra.setLoop (st':= .busy) A3 Pv .busy L1.pending rfl;rw[hμ1]at Rb;refine wpIn_mono (RK L.body L.tmps.size Gc (μ k) _ A1 μ1 lam1 _ _ Rb) ?_;rintro e' a' w' ⟨rfl,A',μ',lam',R'⟩;have R2:=zmy R'
 have hμ:μ' k=μ k:=by
  obtain⟨o',AR,_,hm⟩:=R2.chp k _ hk;have:some o'=some (O.loop env' ps' bd' .busy):=AR.symm.trans AF;cases this;exact hm rfl
 obtain⟨L',Gg,_⟩:=R2.heap k _ AF;have CX:=run_endRound (P:=P) e.jump Gg;have R3:=R2.setLoop AF Gg _ _ e.toL_rel;obtain⟨_,R4⟩:=R.back R3;have R5:=R4.put o.dst { val:=.t (.bool (decide (e=Ex.normal))) } (.bool e.jump.isNone) hd Bd rfl rfl rfl (by rw[e.jump_none];exact(RepC.t (.bool _)).toV) (by simp);rw[hμ]at CX
 cases e with
 | normal=>exact⟨_,_,CX,A',μ',lam,by rw[<- hμ];exact R5⟩
 | exit id=>exact⟨_,_,CX,A',μ',lam,by rw[<- hμ];exact R5⟩
 | ret=>exact⟨_,_,CX,A',μ',lam,by rw[<- hμ];exact R5⟩
theorem znT (hI:I.Ok N) (R:Rel N c ns A μ lam s a w) {f:Operand} {x:Opd} {ps:Array Nat} {asg body:Code} {ca cb bd':C} {fv:V} {g:Nat} {as bs:List V} {rf:Func} {r:V} {h':Nat->Option O} {n':Nat}
 {env':Nat->V} {ps':List Nat} {st:LSt} {e:Ex} (hf:opd I f=some x) (As:evl N.G s x=some fv) (Ax:zfC fv=some (g,as,bs)) (An:Real P (N.nm g) rf) (Bi:N.cr asg ns ca) (Gc:N.cr body ns cb) (Ad: ∀t∈ps.toList,t<ns)
 (hc:zns P N g (as++[.yl s.nxt]++bs) (upd s.heap s.nxt (some (.loop s.env ps.toList (.round ca cb) .ready))) (s.nxt+1) r h' n')
 (hl:h' s.nxt=some (.loop env' ps' bd' st)) (he:st.ends=some e):
 (Code.rangeFunc f ps asg body).wpIn (FW none) 0 P (ztw N c ns e { s with heap:=upd h' s.nxt (some .dead),nxt:=n' }) a w:=by
 refine wpIn_rangeFunc fun fn _=> ?_
 generalize CQ:Loop.mk .ready none fn a.tmps ps asg body w.heap.size=rec
 have Oa:=run_enterLoop_outer (P:=P) (w:=w) fn a.tmps ps asg body;rw[CQ]at Oa;have Gv:(w.alloc (Obj.deferred (some []))).heap.size=w.heap.size+1:=by simp
 generalize BO:(w.alloc (Obj.deferred (some []))).alloc (.loop rec)=w2 at Oa
 have BM: ∀q,q<w.heap.size->w2.heap[q]? =w.heap[q]? :=by
  intro q hq;rw[<- BO];simp only[World.alloc,Array.getElem?_push,Array.size_push];simp[Nat.ne_of_lt hq,Nat.ne_of_lt (Nat.lt_succ_of_lt hq)]
 have OC:w2.heap[w.heap.size]? =some (Obj.deferred (some [])):=by
  rw[<- BO];simp only[World.alloc,Array.getElem?_push,Array.size_push];simp
 have C7:w2.heap[w.heap.size+1]? =some (.loop rec):=by
  rw[<- BO,<- Gv];exact World.alloc_heap_new _ _
 have Ra:=R.alloc (Obj.deferred (some []));have Rb:Rel N c ns A μ lam s a w2:=by rw[<- BO];exact Ra.alloc _
 have Rm:Rel N c ns A μ lam { s with nxt:=s.nxt+1 } a w2:={ Rb with fresh:=fun k h=>Rb.fresh k (by simp only at h;omega) }
 have Dl:Orphan c A μ lam { s with nxt:=s.nxt+1 } (w.heap.size+1):=by
  have:=Ra.orphan_new;rw[Gv]at this;exact⟨this.a,this.l,this.h,this.x⟩
 have GA:zq3 w2 A N μ s.heap (w.heap.size+1) (.loop s.env ps.toList (.round ca cb) .ready):=by
  refine⟨rec,C7,by rw[<- CQ],⟨ca,cb,rfl,by rw[<- CQ];simp only;rw[R.size];exact Bi⟩,⟨ca,cb,rfl,by rw[<- CQ];simp only;rw[R.size];exact Gc⟩,by rw[<- CQ];exact⟨rfl,rfl⟩,by rw[<- CQ];simp only;rw[R.size];exact Ad,fun t=> ?_⟩;rw[<- CQ];exact Rb.env t
 have Rd:=Rm.adoptH (k:=s.nxt) (R.fresh _ (Nat.le_refl _)) (Nat.lt_succ_self _) Dl GA (by simp)
 have AY:evl N.G { s with heap:=upd s.heap s.nxt (some (.loop s.env ps.toList (.round ca cb) .ready)),nxt:=s.nxt+1 } x=some fv:=by
  cases x<;>exact As
 obtain⟨va,vb,hv,ha,Bf⟩:=zpw (zat hI Rd hf AY) Ax
 have Jv:zdG c A w2 ({ target:=.collected w.heap.size,args:= #[] }::a.defers):=by
  obtain⟨rs,g1,g2,g3⟩:=R.defers;have Ad: ∀r∈rs,r<w.heap.size:=fun r hr=>(Array.getElem?_eq_some_iff.1 (g3 r hr).1).1
  refine⟨w.heap.size::rs,List.nodup_cons.2 ⟨fun h=>Nat.lt_irrefl _ (Ad _ h),g1⟩,by rw[List.map_cons,<- g2],fun r hr=> ?_⟩;rcases List.mem_cons.1 hr with rfl | hr
  ·exact⟨OC,fun h=>Nat.lt_irrefl _ (R.alt _ h),R.csize⟩
  ·obtain⟨q1,q2,q3⟩:=g3 r hr;exact⟨by rw[BM r (Ad r hr)];exact q1,q2,q3⟩
 have Re:Rel N c ns A (upd μ s.nxt (w.heap.size+1)) lam { s with heap:=upd s.heap s.nxt (some (.loop s.env ps.toList (.round ca cb) .ready)),nxt:=s.nxt+1 } { a with defers:={ target:=.collected w.heap.size,args:= #[] }::a.defers } w2:=
  { Rd with defers:=Jv }
 have hy:zb1 w2 A N.nm (upd μ s.nxt (w.heap.size+1)) (upd s.heap s.nxt (some (.loop s.env ps.toList (.round ca cb) .ready))) #[.func (.yield (w.heap.size+1)) #[] #[]] [.yl s.nxt]:=by
  refine⟨rfl,fun i z hi=> ?_⟩
  cases i with
  | succ i=>simp at hi
  | zero=>
    simp only[List.getElem?_cons_zero,zA]at hi;subst hi;refine⟨_,rfl,RepC.toV ?_⟩;have:=RepC.yl (w:=w2) (A:=A) (nm:=N.nm) (μ:=upd μ s.nxt (w.heap.size+1)) (H:=upd s.heap s.nxt (some (.loop s.env ps.toList (.round ca cb) .ready))) s.nxt s.env ps.toList (.round ca cb) .ready (by simp);rwa[zaz]at this
 have Da:=hc _ A (upd μ s.nxt (w.heap.size+1)) lam w2 _ Re.bare ((ha.append hy).append Bf);have H8:rf.body.isNone=false:=by have:=An.b;cases h:rf.body<;>simp_all
 have hn:=An.n;refine⟨w.heap.size+1,[{ target:=.collected w.heap.size,args:= #[] }],w2,{ target:=.fn (.func (N.nm g)) vb,args:=va++ #[.func (.yield (w.heap.size+1)) #[] #[]] },w2,N.nm g,_,w2,Oa,?_,fun _ _=>trivial,?_,zhg,zlS (Da.mono ?_)⟩
 ·have Ob:a.eval (.const (.func (.yield (w.heap.size+1)) #[] #[]))= .func (.yield (w.heap.size+1)) #[] #[]:=rfl;simp only[resolve,hv,Deferred.ofValue,List.map_toArray,List.map_cons,List.map_nil,Ob,Sem.run_pure]
 ·simp only[invoke,callFunc,run_program,An.f,hn,H8,Sem.run_bind,Sem.run_pure,Result.andThen_ok,zG,if_false]
 ·rintro e' w' ⟨v,A',μ',lam',rfl,R',_⟩;obtain⟨_,R1⟩:=Re.back R'
  have hμ:μ' s.nxt=w.heap.size+1:=by
   obtain⟨o',AR,_,hm⟩:=R'.chp s.nxt _ (zaz _ _ _);have:some o'=some (O.loop env' ps' bd' st):=AR.symm.trans hl;cases this;rw[hm rfl];exact zaz _ _ _
  obtain⟨L',Gg,_,_,_,Dk,_,_⟩:=R1.heap s.nxt _ hl
  have hb:L'.state≠ .busy:=by
   cases st with
   | ready=>rw[Dk.1];simp
   | enter=>simp[LSt.ends]at he
   | busy=>simp[LSt.ends]at he
   | done e0=>cases e0 with
     | normal=>exact Dk.elim
     | exit id=>rw[Dk.1];simp
     | ret=>rw[Dk.1];simp
  have CX:=run_endLoop (P:=P) Gg hb;have Dl:=R1.orphan_kill hl rfl (by simp);have R2:=R1.kill hl
  have Rf:Rel N c ns A' μ' lam { s with heap:=upd h' s.nxt (some .dead),nxt:=n' } { a with defers:={ target:=.collected w.heap.size,args:= #[] }::a.defers } (w'.putObj (μ' s.nxt) (.loop { L' with state:=.exhausted })):=by
   refine R2.world (by simp) ?_ ?_ (fun q x hq=>zhP _ Gg q x hq) (R2.defers.evo (fun r h=>World.putObj_heap_other (fun e=>by subst e;rw[Gg]at h;simp at h)) (fun _ _ h=>h))
   ·rintro r (h | ⟨t,h,rfl⟩ | ⟨k,o',h,F8,rfl⟩)
    ·exact World.putObj_heap_other (fun e=>Dl.a (e▸h))
    ·exact World.putObj_heap_other (Dl.l t h)
    ·exact World.putObj_heap_other (Dl.h k o' h F8)
   ·intro r h1 h2;refine World.putObj_heap_other (fun e=> ?_);subst e;rcases Dl.x with h | h
    ·exact h2 h
    ·omega
  rw[hμ]at CX Rf
  generalize w'.putObj (w.heap.size+1) (.loop { L' with state:=.exhausted })=w4 at CX Rf
  refine⟨L'.pending,w4,CX,?_⟩
  cases st with
  | ready=>
    simp only[LSt.ends,zA]at he;subst he;rw[Dk.2]
    exact⟨rfl,A',μ',lam,Rf⟩
  | enter=>simp[LSt.ends]at he
  | busy=>simp[LSt.ends]at he
  | done e0=>
    simp only[LSt.ends,zA]at he;subst he
    cases e0 with
    | normal=>exact Dk.elim
    | exit id=>
      rw[Dk.2]
      exact wpIn_exit ⟨rfl,A',μ',lam,Rf⟩
    | ret=>
      rw[Dk.2];exact wpIn_ret ⟨rfl,A',μ',lam,Rf⟩
theorem zjd {fn:Func} {tmps:Array Value} {Rr:Ending->World->Prop} (hw: ∀w',Rel N c ns A μ lam s { tmps:=tmps,defers:=[] } w'->LeavesIn (FW none) 0 P fn tmps Rr [] .returning w'):
 ∀(rs:List Nat) (w:World),rs.Nodup->(∀r∈rs,w.heap[r]? =some (Obj.deferred (some []))/\ ¬A r/\c.w0.heap.size<=r)->Rel N c ns A μ lam s { tmps:=tmps,defers:=[] } w->
  LeavesInM (FW none) 0 P fn tmps Rr (rs.map fun r=>{ target:=.collected r,args:= #[] }) .returning w
 | [],w,_,_,R=>hw w R
 | r::rs,w,Bt,h,R=>by
   obtain⟨h1,h2,h3⟩:=h r List.mem_cons_self;obtain⟨n1,n2⟩:=List.nodup_cons.1 Bt;refine⟨by simp,.inl ⟨r,w.putObj r (.deferred none),rfl,run_takeDeferred h1,zjd hw rs _ n2 (fun q hq=> ?_) ?_⟩⟩
   ·obtain⟨q1,q2,q3⟩:=h q (List.mem_cons_of_mem _ hq);have Jg:q≠r:=fun e=>n1 (e▸hq)
    exact⟨by rw[World.putObj_heap_other Jg];exact q1,q2,q3⟩
   ·refine R.world (by simp) ?_ ?_ ?_ (zdG.nil _ _ _)
    ·rintro q (g | ⟨t,g,rfl⟩ | ⟨k,o',g,F8,rfl⟩)
     ·exact World.putObj_heap_other (fun e=>h2 (e▸g))
     ·exact World.putObj_heap_other (fun e=>R.ndef_loc g (e▸h1))
     ·exact World.putObj_heap_other (fun e=>R.ndef g F8 (e▸h1))
    ·intro q g1 _;exact World.putObj_heap_other (by omega)
    ·intro q x hq
     by_cases e:q=r
     ·subst e;simp[World.shape?,h1]at hq
     ·simpa[World.shape?,World.putObj_heap_other e]using hq
theorem zhb {g:Nat} {rf:Func} {body:Code} {args:Array Value} {Rr:Ending->World->Prop} (hf:P.funcs[g]? =some rf) (hb:rf.body=some body) {ex:Ex} {s':St} (hx: ∀id,ex≠ .exit id)
 (h:body.wpIn (FW none) 0 P (ztw N c ns ex s') { tmps:=args++Array.replicate (rf.ntmps-args.size) undef,defers:=[] } w)
 (hR: ∀A μ lam tmps w',Rel N c ns A μ lam s' { tmps:=tmps,defers:=[] } w'-> ∃v,(results rf tmps).run P w'= .ok v w'/\Rr (.returned v) w'):
 Calls P g args w Rr:=by
 refine(callsIn_wide (n:=0)).1 (callsIn_of_wp_marks (F:=FW none) hf hb trivial (wpIn_mono h ?_));rintro e' a' w' ⟨rfl,A',μ',lam',R'⟩;obtain⟨rs,g1,g2,g3⟩:=R'.defers;have R'':Rel N c ns A' μ' lam' s' { tmps:=a'.tmps,defers:=[] } w':= { R' with defers:=zdG.nil _ _ _ };have Cf:=zjd (P:=P) (fn:=rf) (Rr:=Rr) (fun w'' R=>hR A' μ' lam' a'.tmps w'' R) rs w' g1 g3 R'';rw[<- g2]at Cf
 cases ex with
 | normal=>exact Cf
 | ret=>exact Cf
 | exit id=>exact absurd rfl (hx id)
end
end Rg
end
section
namespace Rg
open Go
section
variable (P:Program) (I:Inv)
def zeR (ops:Array Oper) (ns:Nat):Option (Nat×Bool)->Option (Option (Nat×Bool))
 | none=>some none
 | some (j,want)=>match(ops[j]?).bind (·.dst)with
   | some d=>if d<ns then some (some (d,want))else none
   | none=>none
def zyT (ns:Nat):Option Nat->Bool
 | none=>true
 | some d=>decide (d<ns)
def zj2:AOp->Bool
 | .faddrL _ _=>true
 | .iaddrAL _ _ _ _=>true
 | _=>false
def isCall:AOp->Bool
 | .call _ _ _=>true
 | .fcall _ _=>true
 | _=>false
structure Raws where
 fns:List Nat
 slots:List Nat
 own:List Nat:=[]
def Raws.raw (r:Raws) (dst:Option Nat):Opd->Bool
 | .c (.t (.fn k _ _))=>r.fns.contains k||(match dst with | some d=>r.slots.contains d | none=>false)
 | _=>match dst with
   | some d=>r.slots.contains d
   | none=>true
def Raws.fresh (r:Raws):Opd->Bool
 | .c (.t (.fn k _ _))=>r.own.contains k
 | _=>false
def zJC (name:String):List (Nat×Nat):=
 I.tys.filterMap fun q=>(zHv P q.2 name).bind fun F=>(I.fi F).map fun g=>(q.1,g)
def zey (rw:Raws) (isL:Nat->Bool) (dst:Option Nat) (op:Op):Option AOp:=
 match op with
 | .call c=>match c.callee with
   | .value f=>do
     let f<- opd I f
     let args<- opds I c.args
     some (if rw.fresh f then .fcall f args else .call (rw.raw dst f) f args)
   | .invoke (.tmp t) name=>do
     let args<- opds I c.args
     some (.call true (.m (zJC P I name) t) args)
   | _=>do
     let x<- zbq P I isL dst op
     if isCall x then none else some x
 | _=>do
   let x<- zbq P I isL dst op
   if isCall x then none else some x
def zgG (rw:Raws) (L:List Nat) (ns:Nat) (ops:Array Oper):List Nat->List Oper->Option (List ROp)
 | _,[]=>some []
 | adrs,o::os=>do
   let op<- zey P I rw (fun t=>L.contains t||adrs.contains t) o.dst o.op
   let g<- zeR ops ns o.guard
   let rest<- zgG rw L ns ops (if zj2 op then o.dst.toList++adrs else adrs) os
   if zyT ns o.dst then some ({ guard:=g,dst:=o.dst,op:=op }::rest)else none
structure OpRel (ns:Nat) (ops:Array Oper) (o:Oper) (r:ROp):Prop where
 dst:r.dst=o.dst
 op: ∃rw isL,zey P I rw isL o.dst o.op=some r.op
 lt: ∀x,o.dst=some x->x<ns
 guard:zeR ops ns o.guard=some r.guard
theorem zfK {rw:Raws} {L:List Nat} {ns:Nat} {ops:Array Oper}: ∀{os:List Oper} {adrs:List Nat} {l:List ROp},zgG P I rw L ns ops adrs os=some l->
 os.length=l.length/\ ∀(i:Nat) (r:ROp),l[i]? =some r-> ∃o,os[i]? =some o/\OpRel P I ns ops o r
 | [],adrs,l,h=>by simp[zgG]at h;subst h;simp
 | o::os,adrs,l,h=>by
   simp only[zgG,zC,zB]at h;obtain⟨op,Ao,g,hg,rest,CP,h⟩:=h;split at h
   ·rename_i hd;simp only[zA]at h;subst h;obtain⟨h1,h2⟩:=zfK CP;refine⟨by simp[h1],fun i r hi=> ?_⟩
    cases i with
    | zero=>
      simp at hi;subst hi;refine⟨o,rfl,rfl,⟨_,_,Ao⟩,fun x hx=> ?_,hg⟩
      simp[zyT,hx]at hd;exact hd
    | succ i=>simp at hi;simpa using h2 i r hi
   ·simp at h
end
theorem zeD {N:Nam} {c:Ctx} {ns:Nat} {A:Nat->Prop} {μ lam:Nat->Nat} {s:St} {a:Act} {w:World} (R:Rel N c ns A μ lam s a w) {ops:Array Oper} {o:Oper} {g:Option (Nat×Bool)} {b:Bool}
 (hg:zeR ops ns o.guard=some g) (hw:zcs s g=some b):Region.wanted o (yielded ops a.tmps)=b:=by
 unfold zeR at hg;split at hg
 ·rename_i hn;simp only[zA]at hg;subst hg;simp only[zcs,zA]at hw;subst hw;simp[Region.wanted,hn]
 ·rename_i j want hj;split at hg
  ·rename_i d hd;split at hg
   ·rename_i Ad;simp only[zA]at hg;subst hg;have he:=R.env d
    have Ag:a.tmps[d]? =some (a.tmps.getD d undef):=by
     have:d<a.tmps.size:=by rw[R.size];exact Ad
     rw[Array.getD_eq_getD_getElem?,Array.getElem?_eq_getElem this];rfl
    simp only[zcs]at hw;simp only[Region.wanted,hj,yielded,hd,zD];split at hw
    ·rename_i b' hb;rw[hb]at he;simp only[zA]at hw;subst hw;rw[Ag,he.bool_inv];cases b'<;>cases want<;>rfl
    ·rename_i hb;rw[hb]at he;simp only[zA]at hw;subst hw;rw[Ag,show a.tmps.getD d undef=undef from he];rfl
    ·simp at hw
   ·simp at hg
  ·simp at hg
theorem zsy {G:Nat->List T} {p:Nat} {s:St} {op:AOp} {e:Eff} (h:zaj G p s op=some e): ∀x∈e.hp,x.1=s.bas+p\/(s.heap x.1).isSome=true:=by
 intro x hx;cases op
 all_goals simp only[zaj,zC,zB,zA,Prod.exists]at h
 all_goals(try(repeat(first | (obtain⟨_,_,h⟩:=h) | split at h | (simp only[zB,zA]at h))))
 all_goals(try(repeat(first | (obtain⟨_,_,h⟩:=h) | split at h | (simp only[zB,zA]at h))))
 all_goals(try(repeat(first | (obtain⟨_,_,h⟩:=h) | split at h | (simp only[zB]at h))))
 all_goals(try(repeat(first | (obtain⟨_,_,h⟩:=h) | split at h | (simp only[zB]at h))))
 all_goals(try(simp at h;done))
 all_goals(try(subst h;simp at hx;done))
 all_goals(try subst h)
 all_goals(try(simp at hx;done))
 all_goals(try(simp at h;done))
 all_goals(try(simp only[List.mem_cons,List.not_mem_nil,or_false]at hx))
 all_goals(try(rcases hx with rfl | rfl<;>simp[*];done))
 all_goals(try(subst hx;simp[*];done))
inductive StepG (P:Program) (N:Nam) (d:Bool) (p:Nat) (o:ROp) (s:St):St->Prop where
 | skip (hw:zcs s o.guard=some false) (hf:s.free o.dst {}):StepG P N d p o s (s.apply o.dst {})
 | eff {e:Eff} (hw:zcs s o.guard=some true) (hf:s.free o.dst e) (he:zaj N.G p s o.op=some e):StepG P N d p o s (s.apply o.dst e)
 | pure {f:Opd} {args:List Opd} {fv:V} {g:Nat} {a b vs rs:List V} {r:V} {rf:Func} (hw:zcs s o.guard=some true) (hf:s.free o.dst {}) (ho:o.op= .call false f args) (As:evl N.G s f=some fv)
    (Ax:zfC fv=some (g,a,b)) (An:Real P (N.nm g) rf) (Au:zgE N.G s args=some vs) (AD:(a++vs++b).mapM (toT1 s.heap)=some rs) (hc:zjO P N g rs r) (hd:d=true->r.scalar=true\/(a++vs++b).flatMap (zba s.heap)=[]):
    StepG P N d p o s (s.apply o.dst { val:=r,hp:=if r.scalar then []else freezes s.heap ((a++vs++b).flatMap (zba s.heap)) })
 | raw {f:Opd} {args:List Opd} {fv:V} {g:Nat} {a b vs:List V} {r:V} {rf:Func} {H':Nat->Option O} {n':Nat} (hw:zcs s o.guard=some true) (hf:s.free o.dst {}) (ho:o.op= .call true f args) (As:evl N.G s f=some fv)
    (Ax:zfC fv=some (g,a,b)) (An:Real P (N.nm g) rf) (Au:zgE N.G s args=some vs) (hc:zns P N g (a++vs++b) s.heap s.nxt r H' n') (hn:s.nxt<=n') (AG: ∀k,k<s.nxt->s.heap k=none->H' k=none):
    StepG P N d p o s ({ s with heap:=H',nxt:=n' }.apply o.dst { val:=r })
 | fresh {f:Opd} {args:List Opd} {fv:V} {g:Nat} {a b vs rs:List V} {r:V} {rf:Func} {H':Nat->Option O} {n':Nat} {e:Eff} (hw:zcs s o.guard=some true) (hf:s.free o.dst {}) (ho:o.op= .fcall f args) (As:evl N.G s f=some fv)
    (Ax:zfC fv=some (g,a,b)) (An:Real P (N.nm g) rf) (Au:zgE N.G s args=some vs) (AD:(a++vs++b).mapM (toT1 s.heap)=some rs) (hd:(a++vs++b).flatMap (zba s.heap)=[])
    (hc:zns P N g rs (fun _=>none) 0 r H' n') (he:zqm (s.bas+p) r H'=some e):StepG P N d p o s (s.apply o.dst e)
 | yld {f:Opd} {args:List Opd} {k:Nat} {vs:List V} {env env1 env':Nat->V} {ps ps1 ps':List Nat} {ca cb bd1 bd':C} {e:Ex} {s1 s2:St} (hw:zcs s o.guard=some true) (hf:s.free o.dst {}) (ho:o.op= .call true f args)
    (As:evl N.G s f=some (.yl k)) (hk:s.heap k=some (.loop env ps (.round ca cb) .ready)) (Au:zgE N.G s args=some vs) (Ac:vs.length=ps.length) (Bi:zk5 P N ca (zht s.heap s.nxt k env ps (.round ca cb) vs) .normal s1)
    (A3:s1.heap k=some (.loop env1 ps1 bd1 .enter)) (RK:zk5 P N cb { s1 with heap:=upd s1.heap k (some (.loop env1 ps1 bd1 .busy)) } e s2)
    (AF:s2.heap k=some (.loop env' ps' bd' .busy)) (AG:s.nxt<=s2.nxt/\ ∀k',k'<s.nxt->s.heap k'=none->s2.heap k'=none):
    StepG P N d p o s ({ s with heap:=upd s2.heap k (some (.loop env' ps' bd' e.toL)),nxt:=s2.nxt }.apply o.dst { val:=.t (.bool (decide (e=Ex.normal))) })
section
variable {P:Program} {N:Nam} {I:Inv} {c:Ctx} {d:Bool} {ns p:Nat} {A:Nat->Prop} {μ lam:Nat->Nat} {s s' : St} {a:Act} {w:World} {e:Eff} {o:Oper} {ro:Option Nat} {r:ROp} {ops:Array Oper}
theorem zJB {name:String} {k g:Nat} (h:(k,g)∈zJC P I name): ∃ty F,(k,ty)∈I.tys/\zHv P ty name=some F/\I.fi F=some g:=by
 simp only[zJC,List.mem_filterMap,zB,zE,Prod.mk.injEq]at h;obtain⟨q,hq,F,hF,g',hg,rfl,rfl⟩:=h;exact⟨q.2,F,hq,hF,hg⟩
theorem zpK {rw:Raws} {isL:Nat->Bool} {dst:Option Nat} {op:Op} {x:AOp} (hx:isCall x=true) (h:zey P I rw isL dst op=some x):
 ∃cl f args,op= .call cl/\zH5 P I cl f/\opds I cl.args=some args/\(x= .fcall f args\/ ∃b,x= .call b f args):=by
 have Be: ∀{y:Option AOp},(do let z<- y;if isCall z then none else some z)=some x->False:=by
  intro y hy;simp only[zC,zB]at hy;obtain⟨z,_,hz⟩:=hy;split at hz
  ·simp at hz
  ·rename_i hc;simp only[zA]at hz;subst hz;exact hc hx
 unfold zey at h;split at h
 ·rename_i cl;split at h
  ·rename_i f0 hb;simp only[zC,zB,zA]at h;obtain⟨f1,H6,as,Dt,h⟩:=h;refine⟨cl,f1,as,rfl,.inl ⟨f0,hb,H6⟩,Dt,?_⟩;split at h
   ·exact .inl h.symm
   ·exact .inr ⟨_,h.symm⟩
  ·rename_i t name hb;simp only[zC,zB,zA]at h;obtain⟨as,Dt,h⟩:=h;exact⟨cl,_,as,rfl,.inr ⟨t,name,_,hb,rfl,fun k g hm=>zJB hm⟩,Dt,.inr ⟨_,h.symm⟩⟩
  ·exact(Be h).elim
 ·exact(Be h).elim
theorem zjA {rw:Raws} {isL:Nat->Bool} {dst:Option Nat} {op:Op} {b:Bool} {f:Opd} {args:List Opd} (h:zey P I rw isL dst op=some (.call b f args)):
 ∃cl,op= .call cl/\zH5 P I cl f/\opds I cl.args=some args:=by
 obtain⟨cl,f1,as1,h1,h2,h4,hx⟩:=zpK rfl h;rcases hx with hx | ⟨b',hx⟩
 ·simp at hx
 ·simp only[AOp.call.injEq]at hx;obtain⟨_,rfl,rfl⟩:=hx;exact⟨cl,h1,h2,h4⟩
theorem zqQ {rw:Raws} {isL:Nat->Bool} {dst:Option Nat} {op:Op} {f:Opd} {args:List Opd} (h:zey P I rw isL dst op=some (.fcall f args)):
 ∃cl,op= .call cl/\zH5 P I cl f/\opds I cl.args=some args:=by
 obtain⟨cl,f1,as1,h1,h2,h4,hx⟩:=zpK rfl h;rcases hx with hx | ⟨b',hx⟩
 ·simp only[AOp.fcall.injEq]at hx;obtain⟨rfl,rfl⟩:=hx;exact⟨cl,h1,h2,h4⟩
 ·simp at hx
theorem zve {G:Nat->List T} {rw:Raws} {isL:Nat->Bool} {dst:Option Nat} {op:Op} {x:AOp} (h:zey P I rw isL dst op=some x) (he:zaj G p s x=some e):zbq P I isL dst op=some x:=by
 have K6: ∀{y:Option AOp},(do let x<- y;if isCall x then none else some x)=some x->y=some x:=by
  intro y hy;simp only[zC,zB]at hy;obtain⟨z,hz,hx⟩:=hy;split at hx
  ·simp at hx
  ·simp only[zA]at hx;subst hx;exact hz
 unfold zey at h;split at h
 ·split at h
  ·simp only[zC,zB,zA]at h;obtain⟨f1,H6,as,Dt,h⟩:=h;split at h<;>(subst h;simp[zaj]at he)
  ·simp only[zC,zB,zA]at h;obtain⟨as,Dt,h⟩:=h;subst h;simp[zaj]at he
  ·exact K6 h
 ·exact K6 h
theorem zmc {K K':Act->World->Prop} {Q:Exit->Act->World->Prop} (h:o.wpIn (FW ro) 0 P a w K Q) (hk: ∀a w,K a w->K' a w):o.wpIn (FW ro) 0 P a w K' Q:=by
 obtain⟨h0,h⟩:=h;refine⟨h0,?_⟩
 generalize(o.semAt (FW ro).round a.eval).run P w=r at *
 unfold Oper.uponIn at *;split at h
 ·exact hk _ _ h
 ·exact hk _ _ h
 ·exact hk _ _ h
 ·refine⟨h.1,h.2.mono ?_⟩;intro e w' he;split at he
  ·exact hk _ _ he
  ·exact he
  ·exact he
 ·exact⟨h.1,h.2.mono fun v w' he=>hk _ _ he⟩
 ·refine⟨h.1,h.2.mono ?_⟩;intro e w' he;split at he
  ·exact hk _ _ he
  ·exact he
  ·exact he
 ·exact h
 ·exact h.elim
theorem zs7 {rw:Raws} {isL:Nat->Bool} {dst:Option Nat} {op:Op} {x:AOp} (h:zey P I rw isL dst op=some x): ∀cl,op≠ .defer cl:=by
 rintro cl rfl;simp[zey,zbq]at h
theorem zhn (hI:I.Ok N) (AE:StepG P N d p r s s') (hr:OpRel P I ns ops o r) (R:Rel N c ns A μ lam s a w) (hk:s.heap (s.bas+p)=none) (hn:s.bas+p<s.nxt) (Q:Exit->Act->World->Prop):
 if Region.wanted o (yielded ops a.tmps)then o.wpIn (FW ro) 0 P a w (fun a' w'=> ∃A' μ' lam',Rel N c ns A' μ' lam' s' a' w') Q
 else ∃A' μ' lam',Rel N c ns A' μ' lam' s' (a.put o.dst undef) w:=by
 have AI:=hr.dst
 cases AE with
 | skip hw hf=>
   rw[zeD R hr.guard hw,if_neg (by simp),AI]at *
   exact⟨A,μ,lam,R.put o.dst {} undef hr.lt hf rfl rfl rfl rfl (by simp)⟩
 | eff hw hf he=>
   rw[zeD R hr.guard hw,if_pos rfl,AI]at *;obtain⟨rw',isL,Ao⟩:=hr.op;obtain⟨v,w',A',μ',lam',Am,R'⟩:=zsX hI R (zve Ao he) he hr.lt hf hk hn;refine⟨fun _ _=>trivial,?_⟩;rw[o.semAt_eq _ _ (zs7 Ao)];rcases Am with h | ⟨h,rfl⟩
   ·rw[h];exact⟨A',μ',lam',R'⟩
   ·rw[h];exact⟨A',μ',lam',R'⟩
 | pure hw hf ho As Ax An Au AD hc _=>
   rw[zeD R hr.guard hw,if_pos rfl,AI]at *;obtain⟨rw',isL,Ao⟩:=hr.op;rw[ho]at Ao;obtain⟨cl,h1,h2,h4⟩:=zjA Ao
   exact zrY hI R h1 h2 h4 As Ax An Au AD hc hr.lt hf
 | raw hw hf ho As Ax An Au hc hn AG=>
   rw[zeD R hr.guard hw,if_pos rfl,AI]at *;obtain⟨rw',isL,Ao⟩:=hr.op;rw[ho]at Ao;obtain⟨cl,h1,h2,h4⟩:=zjA Ao
   exact zul hI R h1 h2 h4 As Ax An Au hc hr.lt hf
 | fresh hw hf ho As Ax An Au AD hd hc he=>
   rw[zeD R hr.guard hw,if_pos rfl,AI]at *;obtain⟨rw',isL,Ao⟩:=hr.op;rw[ho]at Ao;obtain⟨cl,h1,h2,h4⟩:=zqQ Ao
   exact zqD hI R h1 h2 h4 As Ax An Au AD hd hc he hr.lt hf hk hn
 | yld hw hf ho As AB Au Ac Bi A3 RK AF AG=>
   rw[zeD R hr.guard hw,if_pos rfl,AI]at *;obtain⟨rw',isL,Ao⟩:=hr.op;rw[ho]at Ao;obtain⟨cl,h1,h2,h4⟩:=zjA Ao;exact zpX hI R h1 h2 h4 As AB Au Ac Bi A3 RK AF hr.lt hf
theorem StepG.free (AE:StepG P N d p r s s'):s'.bas=s.bas/\s.nxt<=s'.nxt/\ ∀k,k<s.nxt->k≠s.bas+p->s.heap k=none->s'.heap k=none:=by
 have MS: ∀(l:List (Nat×O)) (h:Nat->Option O) (k:Nat),(∀x∈l,x.1≠k)->zbf h l k=h k:=by
  intro l
  induction l with
  | nil=>intro h k _;rfl
  | cons x l ih=>
    intro h k hx;obtain⟨q,o⟩:=x;simp only[zbf];rw[ih _ k (fun y hy=>hx y (List.mem_cons_of_mem _ hy)),zad _ _ (Ne.symm (hx (q,o) (List.mem_cons_self)))]
 cases AE with
 | skip=>exact⟨rfl,Nat.le_refl _,fun k _ _ h=>h⟩
 | eff hw hf he=>
   refine⟨rfl,Nat.le_refl _,fun k hk Az h=> ?_⟩;show zbf s.heap _ k=none;rw[MS,h];intro x hx e;rcases zsy he x hx with h1 | h1
   ·exact Az (e▸h1)
   ·rw[e,h]at h1;simp at h1
 | pure hw hf ho As Ax An Au AD hc _=>
   refine⟨rfl,Nat.le_refl _,fun k hk Az h=> ?_⟩;show zbf s.heap _ k=none;rw[MS,h];intro x hx e;split at hx
   ·simp at hx
   ·simp only[freezes,List.mem_filterMap]at hx;obtain⟨q,_,hq⟩:=hx;split at hq
    ·rename_i HN;simp only[zA]at hq;subst hq;simp only at e;subst e;rw[h]at HN;simp at HN
    ·simp at hq
 | raw hw hf ho As Ax An Au hc hn AG=>exact⟨rfl,hn,fun k hk _ h=>AG k hk h⟩
 | fresh hw hf ho As Ax An Au AD hd hc he=>
   refine⟨rfl,Nat.le_refl _,fun k hk Az h=> ?_⟩;show zbf s.heap _ k=none;rw[MS,h];intro x hx e
   exact Az (e▸(zlq he x hx))
 | yld hw hf ho As AB Au Ac Bi A3 RK AF AG=>
   rename_i f args k vs env env1 env' ps ps1 ps' ca cb bd1 bd' e s1 s2;refine⟨rfl,AG.1,fun q hq _ h=> ?_⟩;have h2:=AG.2 q hq h;show upd s2.heap k _ q=none;rw[zad];exact h2;rintro rfl;rw[AB]at h;cases h
inductive Run (P:Program) (N:Nam) (d:Bool) (l:List ROp):List Nat->St->St->Prop where
 | nil {s:St}:Run P N d l [] s s
 | cons {i:Nat} {is:List Nat} {s s1 s2:St} {r:ROp} (hr:l[i]? =some r) (h1:StepG P N d i r s s1) (h2:Run P N d l is s1 s2):Run P N d l (i::is) s s2
theorem zrG (hI:I.Ok N) {l:List ROp} (hl:ops.toList.length=l.length/\ ∀(i:Nat) (r:ROp),l[i]? =some r-> ∃o,ops.toList[i]? =some o/\OpRel P I ns ops o r) (Q:Exit->Act->World->Prop):
 ∀{is:List Nat} {s s':St} {A:Nat->Prop} {μ lam:Nat->Nat} {a:Act} {w:World},Run P N d l is s s'->is.Nodup->(∀i∈is,s.heap (s.bas+i)=none/\s.bas+i<s.nxt)->Rel N c ns A μ lam s a w->
  (∀a' w' A' μ' lam',Rel N c ns A' μ' lam' s' a' w'->Q .normal a' w')->wpOpsIn (FW ro) 0 P ops Q is a w:=by
 intro is
 induction is with
 | nil=>
   intro s s' A μ lam a w Am _ _ R hQ;cases Am
   exact hQ a w A μ lam R
 | cons i is ih=>
   intro s s' A μ lam a w Am Bt BD R hQ
   cases Am with
   | cons hr h1 h2=>
     rename_i s1 r;obtain⟨o,ho,Jd⟩:=hl.2 i r hr;obtain⟨f1,f2⟩:=BD i List.mem_cons_self;have hs:=zhn (ro:=ro) hI h1 Jd R f1 f2 Q;obtain⟨g1,g2,g3⟩:=h1.free;have EE:=List.nodup_cons.1 Bt
     have Fo: ∀j∈is,s1.heap (s1.bas+j)=none/\s1.bas+j<s1.nxt:=by
      intro j hj;obtain⟨e1,e2⟩:=BD j (List.mem_cons_of_mem _ hj);rw[g1]
      exact⟨g3 _ e2 (fun e=>EE.1 (by have:j=i:=by omega
                                     exact this▸hj)) e1,by omega⟩
     simp only[Array.getElem?_toList]at ho;simp only[wpOpsIn,ho];split
     ·rename_i hw;rw[if_pos hw]at hs;refine zmc hs ?_;rintro a' w' ⟨A',μ',lam',R'⟩;exact ih h2 EE.2 Fo R' hQ
     ·rename_i hw;rw[if_neg hw]at hs;obtain⟨A',μ',lam',R'⟩:=hs;exact⟨fun _ _=>trivial,ih h2 EE.2 Fo R' hQ⟩
end
end Rg
end
section
namespace Rg
open Go
def AOp.rdH:AOp->Bool
 | .load _ _ _ | .bstr _ | .nilchk _ | .faddr _ _ | .iaddrS _ _ _ | .iaddrA _ _ _ _ | .slice _ _ _ _ _ | .slicA _ _ _ _ | .len _ | .lookup _ _ _ _ _ | .store _ _ _ | .storeA _ _ _ | .append _ _ _ _ | .copy _ _ _ | .clear _ _ _ | .mapupd _ _ _ _ | .call _ _ _ | .fcall _ _ | .mkfnT _ _=>true
 | _=>false
def AOp.rdL:AOp->Bool
 | .loadL _ _ _ | .storeL _ _ _ | .faddrL _ _ | .iaddrAL _ _ _ _=>true
 | _=>false
def AOp.wrH:AOp->Bool
 | .store _ _ _ | .storeA _ _ _ | .append _ _ _ _ | .copy _ _ _ | .clear _ _ _ | .mapupd _ _ _ _ | .mkfnT _ _=>true
 | _=>false
def AOp.wrL:AOp->Bool
 | .storeL _ _ _=>true
 | _=>false
def AOp.mkL:AOp->Bool
 | .allocL _ | .boxL _ _=>true
 | _=>false
section
variable {G:Nat->List T} {s u:St}
theorem zbH {x:Opd} (h:evl G s x=evl G u x):zex G s x=zex G u x:=by simp only[zex,h]
theorem zfG {x:Opd} (h:evl G s x=evl G u x):zd5 G s x=zd5 G u x:=by simp only[zd5,h]
theorem zbZ: ∀{l:List Opd},(∀x∈l,evl G s x=evl G u x)->zgE G s l=zgE G u l
 | [],_=>rfl
 | x::l,h=>by
   simp only[zgE,h x List.mem_cons_self,zbZ (fun y hy=>h y (List.mem_cons_of_mem _ hy))]
theorem zfa {d:Nat} {x:Option Opd} (h: ∀y∈x.toList,evl G s y=evl G u y):zew G s d x=zew G u d x:=by
 cases x with
 | none=>rfl
 | some y=>simp only[zew,zbH (h y (by simp))]
theorem zfE: ∀{l:List (Nat×Nat×Opd)} {cs:List V},(∀x∈l.map (·.2.2),evl G s x=evl G u x)->zbY G cs s l=zbY G cs u l
 | [],_,_=>rfl
 | (a,b,x)::l,cs,h=>by
   have h1:=h x (by simp);have h2: ∀cs,zbY G cs s l=zbY G cs u l:=fun cs=>zfE (fun y hy=>h y (by simp at hy⊢;exact .inr hy))
   simp only[zbY,h1,h2]
theorem zgk: ∀{l:List (Nat×Opd)} {rs:List (List V)} {sz:Nat},(∀x∈l.map (·.2),evl G s x=evl G u x)->zcH G rs sz s l=zcH G rs sz u l
 | [],_,_,_=>rfl
 | (a,x)::l,rs,sz,h=>by
   have h1:=h x (by simp);have h2: ∀rs,zcH G rs sz s l=zcH G rs sz u l:=fun rs=>zgk (fun y hy=>h y (by simp at hy⊢;exact .inr hy))
   simp only[zcH,h1,h2]
theorem zee {v:V} (h: ∀k∈v.top,s.heap k=u.heap k):zdw s v=zdw u v:=by
 cases v with
 | ms k i l=>simp only[zdw];rw[h k (by simp[V.top])]
 | t x=>cases x<;>rfl
 | _=>rfl
theorem zjc {v:V} (h: ∀k∈v.top,s.heap k=u.heap k):lenOf s v=lenOf u v:=by
 cases v with
 | ms k i l=>simp only[lenOf];rw[h k (by simp[V.top])]
 | t x=>cases x<;>rfl
 | _=>rfl
theorem zfg {p:Nat} {op:AOp} (Ak: ∀x∈op.opds,evl G s x=evl G u x) (BB: ∀x∈op.opds,zd8 s x=zd8 u x)
 (F9:op.rdL=true-> ∀x∈op.opds,∀b o,zd8 s x=some (b,o)->s.loc b=u.loc b)
 (Ar:op.rdH=true-> ∀x∈op.opds,∀v,evl G s x=some v-> ∀k∈v.top,s.heap k=u.heap k) (En:s.bas=u.bas):zaj G p s op=zaj G p u op:=by
 cases op with
 | mv x=>simp only[zaj,Ak x (by simp[AOp.opds])]
 | pick c a b=>
   have h1:=zfG (Ak c (by simp[AOp.opds]));have h2:=Ak a (by simp[AOp.opds]);have h3:=Ak b (by simp[AOp.opds]);simp only[zaj,h1]
   congr 1;funext t
   cases t<;>simp[h2,h3]
 | allocL c=>rfl
 | allocH c=>simp only[zaj,En]
 | allocB=>simp only[zaj,En]
 | bstr x=>
   simp only[zaj,<- Ak x (by simp[AOp.opds])]
   cases hv:evl G s x with
   | none=>rfl
   | some v=>simp only[zC,zD,zee (Ar rfl x (by simp[AOp.opds]) v hv)]
 | boxL n x=>simp only[zaj,Ak x (by simp[AOp.opds])]
 | boxH n x=>simp only[zaj,Ak x (by simp[AOp.opds]),En]
 | boxA n x=>simp only[zaj,Ak x (by simp[AOp.opds]),En]
 | allocA c=>simp only[zaj,En]
 | storeA n a x=>
   simp only[zaj,<- Ak a (by simp[AOp.opds]),Ak x (by simp[AOp.opds])]
   cases hv:evl G s a with
   | none=>rfl
   | some v=>
     have:=Ar rfl a (by simp[AOp.opds]) v hv;simp only[zC,zD]
     cases v with
     | mp k i off=>
       cases i with
       | zero=>cases off with
         | zero=>simp only;rw[this k (by simp[V.top])]
         | succ _=>rfl
       | succ _=>rfl
     | _=>rfl
 | slicA n x lo hi=>
   simp only[zaj,<- Ak x (by simp[AOp.opds])]
   cases hv:evl G s x with
   | none=>rfl
   | some v=>
     have:=Ar rfl x (by simp[AOp.opds]) v hv;have h1: ∀d,zew G s d hi=zew G u d hi:=fun d=>zfa (fun y hy=>Ak y (by simp only[AOp.opds];simp at hy⊢;simp[hy]))
     have h2: ∀d,zew G s d lo=zew G u d lo:=fun d=>zfa (fun y hy=>Ak y (by simp only[AOp.opds];simp at hy⊢;simp[hy]))
     simp only[zC,zD,h1,h2]
     cases v with
     | mp k i off=>
       cases i with
       | zero=>cases off with
         | zero=>simp only;rw[this k (by simp[V.top])]
         | succ _=>rfl
       | succ _=>rfl
     | _=>rfl
 | build z ps=>simp only[zaj,zfE (s:=s) (u:=u) (l:=ps) Ak]
 | bslice sz len z ps=>simp only[zaj,zgk (s:=s) (u:=u) (l:=ps) Ak,En]
 | lit sz len z ps=>simp only[zaj,zgk (s:=s) (u:=u) (l:=ps) Ak]
 | loadL ag n a=>
   simp only[zaj,<- BB a (by simp[AOp.opds])]
   cases hr:zd8 s a with
   | none=>rfl
   | some bo=>obtain⟨b,o⟩:=bo;simp only[zC,zD,F9 rfl a (by simp[AOp.opds]) b o hr]
 | load ag n a=>
   simp only[zaj,<- Ak a (by simp[AOp.opds])]
   cases hv:evl G s a with
   | none=>rfl
   | some v=>
     have:=Ar rfl a (by simp[AOp.opds]) v hv
     cases v with
     | mp k i off=>simp only[zC,zD];rw[this k (by simp[V.top])]
     | ms k i off=>simp only[zC,zD];try rw[this k (by simp[V.top])]
     | t x=>cases x<;>rfl
     | _=>rfl
 | storeL n a v=>
   simp only[zaj,<- BB a (by simp[AOp.opds]),Ak v (by simp[AOp.opds])]
   cases hr:zd8 s a with
   | none=>rfl
   | some bo=>obtain⟨b,o⟩:=bo;simp only[zC,zD,F9 rfl a (by simp[AOp.opds]) b o hr]
 | store n a x=>
   simp only[zaj,<- Ak a (by simp[AOp.opds]),Ak x (by simp[AOp.opds])]
   cases hv:evl G s a with
   | none=>rfl
   | some v=>
     have:=Ar rfl a (by simp[AOp.opds]) v hv
     cases v with
     | mp k i off=>simp only[zC,zD];rw[this k (by simp[V.top])]
     | ms k i off=>simp only[zC,zD];try rw[this k (by simp[V.top])]
     | t x=>cases x<;>rfl
     | _=>rfl
 | nilchk a=>
   simp only[zaj,<- Ak a (by simp[AOp.opds])]
   cases hv:evl G s a with
   | none=>rfl
   | some v=>
     have:=Ar rfl a (by simp[AOp.opds]) v hv
     cases v with
     | mp k i off=>simp only[zC,zD];rw[this k (by simp[V.top])]
     | ms k i off=>simp only[zC,zD];try rw[this k (by simp[V.top])]
     | t x=>cases x<;>rfl
     | _=>rfl
 | bin op x y=>simp only[zaj,Ak x (by simp[AOp.opds]),Ak y (by simp[AOp.opds])]
 | mx mn x y=>simp only[zaj,Ak x (by simp[AOp.opds]),Ak y (by simp[AOp.opds])]
 | eqb n x y=>simp only[zaj,zfG (Ak x (by simp[AOp.opds])),zfG (Ak y (by simp[AOp.opds]))]
 | eqa n ks x y=>simp only[zaj,Ak x (by simp[AOp.opds]),Ak y (by simp[AOp.opds])]
 | un op x=>simp only[zaj,Ak x (by simp[AOp.opds])]
 | mkif k x=>simp only[zaj,Ak x (by simp[AOp.opds])]
 | tassert k z ok x=>simp only[zaj,Ak x (by simp[AOp.opds])]
 | conv k x=>simp only[zaj,zbH (Ak x (by simp[AOp.opds]))]
 | mkfn f a b=>simp only[zaj,zbZ (s:=s) (u:=u) (l:=a) (fun x hx=>Ak x (by simp[AOp.opds,hx])),zbZ (s:=s) (u:=u) (l:=b) (fun x hx=>Ak x (by simp[AOp.opds,hx]))]
 | mkfnT f a=>
   simp only[zaj,<- Ak a (by simp[AOp.opds])]
   cases hv:evl G s a with
   | none=>rfl
   | some v=>
     have:=Ar rfl a (by simp[AOp.opds]) v hv
     cases v with
     | mp k i off=>simp only[zC,zD];rw[this k (by simp[V.top])]
     | ms k i off=>simp only[zC,zD];try rw[this k (by simp[V.top])]
     | t x=>cases x<;>rfl
     | _=>rfl
 | mkslice sz by_ z l c=>simp only[zaj,zbH (Ak l (by simp[AOp.opds])),zbH (Ak c (by simp[AOp.opds])),En]
 | slice sz x lo hi mx=>
   simp only[zaj,<- Ak x (by simp[AOp.opds])]
   cases hv:evl G s x with
   | none=>rfl
   | some v=>
     have ht:=Ar rfl x (by simp[AOp.opds]) v hv;have h1: ∀d,zew G s d hi=zew G u d hi:=fun d=>zfa (fun y hy=>Ak y (by simp only[AOp.opds];simp at hy⊢;simp[hy]))
     have h2: ∀d,zew G s d lo=zew G u d lo:=fun d=>zfa (fun y hy=>Ak y (by simp only[AOp.opds];simp at hy⊢;simp[hy]))
     simp only[zC,zD,zjc ht,h1,h2]
     cases mx with
     | none=>
       cases v with
       | ms k i l=>simp only;rw[ht k (by simp[V.top])]
       | t x=>cases x<;>rfl
       | _=>rfl
     | some m=>simp only[zbH (Ak m (by simp[AOp.opds]))]
 | slstr x lo hi=>
   have h1: ∀d,zew G s d hi=zew G u d hi:=fun d=>zfa (fun y hy=>Ak y (by simp only[AOp.opds];simp at hy⊢;simp[hy]))
   have h2: ∀d,zew G s d lo=zew G u d lo:=fun d=>zfa (fun y hy=>Ak y (by simp only[AOp.opds];simp at hy⊢;simp[hy]))
   simp only[zaj,Ak x (by simp[AOp.opds]),h1,h2]
 | faddrL off x=>
   simp only[zaj,<- BB x (by simp[AOp.opds])]
   cases hr:zd8 s x with
   | none=>rfl
   | some bo=>obtain⟨b,o⟩:=bo;simp only[zC,zD,F9 rfl x (by simp[AOp.opds]) b o hr]
 | faddr off a=>
   simp only[zaj,<- Ak a (by simp[AOp.opds])]
   cases hv:evl G s a with
   | none=>rfl
   | some v=>
     have:=Ar rfl a (by simp[AOp.opds]) v hv
     cases v with
     | mp k i off=>simp only[zC,zD];rw[this k (by simp[V.top])]
     | ms k i off=>simp only[zC,zD];try rw[this k (by simp[V.top])]
     | t x=>cases x<;>rfl
     | _=>rfl
 | field ag off n x=>simp only[zaj,Ak x (by simp[AOp.opds])]
 | iaddrS sz x i=>
   simp only[zaj,<- Ak x (by simp[AOp.opds]),zbH (Ak i (by simp[AOp.opds]))]
   cases hv:evl G s x with
   | none=>rfl
   | some v=>
     have:=Ar rfl x (by simp[AOp.opds]) v hv
     cases v with
     | mp k i off=>simp only[zC,zD];try rw[this k (by simp[V.top])]
     | ms k i off=>simp only[zC,zD];try rw[this k (by simp[V.top])]
     | t x=>cases x<;>rfl
     | _=>rfl
 | iaddrAL len sz x i=>
   simp only[zaj,<- BB x (by simp[AOp.opds]),zbH (Ak i (by simp[AOp.opds]))]
   cases hr:zd8 s x with
   | none=>rfl
   | some bo=>obtain⟨b,o⟩:=bo;simp only[zC,zD,F9 rfl x (by simp[AOp.opds]) b o hr]
 | iaddrA len sz x i=>
   simp only[zaj,<- Ak x (by simp[AOp.opds]),zbH (Ak i (by simp[AOp.opds]))]
   cases hv:evl G s x with
   | none=>rfl
   | some v=>
     have:=Ar rfl x (by simp[AOp.opds]) v hv
     cases v with
     | mp k i off=>simp only[zC,zD];rw[this k (by simp[V.top])]
     | ms k i off=>simp only[zC,zD];try rw[this k (by simp[V.top])]
     | t x=>cases x<;>rfl
     | _=>rfl
 | idxA ag len sz x i=>simp only[zaj,Ak x (by simp[AOp.opds]),zbH (Ak i (by simp[AOp.opds]))]
 | idxS x i=>simp only[zaj,Ak x (by simp[AOp.opds]),zbH (Ak i (by simp[AOp.opds]))]
 | extr x i=>simp only[zaj,Ak x (by simp[AOp.opds])]
 | len x=>
   simp only[zaj,<- Ak x (by simp[AOp.opds])]
   cases hv:evl G s x with
   | none=>rfl
   | some v=>
     have:=Ar rfl x (by simp[AOp.opds]) v hv
     simp only[zC,zD,zjc this]
 | slen x=>simp only[zaj,Ak x (by simp[AOp.opds])]
 | lenA n=>rfl
 | capN x=>simp only[zaj,Ak x (by simp[AOp.opds])]
 | stop=>rfl
 | appz sz by_ z x l=>simp only[zaj,Ak x (by simp[AOp.opds]),zbH (Ak l (by simp[AOp.opds])),En]
 | append sz by_ x y=>
   simp only[zaj,<- Ak x (by simp[AOp.opds]),<- Ak y (by simp[AOp.opds])]
   cases hv:evl G s x with
   | none=>rfl
   | some v=>
     cases hw:evl G s y with
     | none=>rfl
     | some z=>
       have h1:=Ar rfl x (by simp[AOp.opds]) v hv;have h2:=Ar rfl y (by simp[AOp.opds]) z hw;simp only[zC,zD,zee h1,zee h2,En]
       cases v with
       | ms k i l=>simp only;rw[h1 k (by simp[V.top])]
       | t x=>cases x<;>rfl
       | _=>rfl
 | clear sz z x=>
   simp only[zaj,<- Ak x (by simp[AOp.opds])]
   cases hv:evl G s x with
   | none=>rfl
   | some v=>
     have:=Ar rfl x (by simp[AOp.opds]) v hv
     cases v with
     | ms k i off=>simp only[zC,zD];rw[this k (by simp[V.top])]
     | t x=>cases x<;>rfl
     | _=>rfl
 | copy sz x y=>
   simp only[zaj,<- Ak x (by simp[AOp.opds]),<- Ak y (by simp[AOp.opds])]
   cases hv:evl G s x with
   | none=>rfl
   | some v=>
     cases hw:evl G s y with
     | none=>rfl
     | some z=>
       have h1:=Ar rfl x (by simp[AOp.opds]) v hv;have h2:=Ar rfl y (by simp[AOp.opds]) z hw;simp only[zC,zD,zee h2]
       cases v with
       | ms k i l=>simp only;rw[h1 k (by simp[V.top])]
       | t x=>cases x<;>rfl
       | _=>rfl
 | mkmap=>simp only[zaj,En]
 | lookup kd z ok m k=>
   simp only[zaj,<- Ak m (by simp[AOp.opds]),Ak k (by simp[AOp.opds])]
   cases hv:evl G s m with
   | none=>rfl
   | some v=>
     have h1:=Ar rfl m (by simp[AOp.opds]) v hv
     cases v with
     | mm j=>simp only[zC,zD];rw[h1 j (by simp[V.top])]
     | t x=>cases x<;>rfl
     | _=>rfl
 | mapupd kd m k v=>
   simp only[zaj,<- Ak m (by simp[AOp.opds]),Ak k (by simp[AOp.opds]),Ak v (by simp[AOp.opds])]
   cases hv:evl G s m with
   | none=>rfl
   | some z=>
     have h1:=Ar rfl m (by simp[AOp.opds]) z hv
     cases z with
     | mm j=>simp only[zC,zD];rw[h1 j (by simp[V.top])]
     | t x=>cases x<;>rfl
     | _=>rfl
 | call r f as=>rfl
 | fcall f args=>rfl
end
end Rg
end
