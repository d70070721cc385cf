/- Part of the proof of laws of relyguardlaw36. No condition. -/
import Derived.Test.YtaiokglcgiemnaaGreatDoorCartAD
import Derived.RangeFuncRecord
set_option linter.unusedVariables false
set_option linter.unusedSimpArgs false
section
namespace Rg
open Go
section
variable {P:Program} {N:Nam} {I:Inv} {c:Ctx} {ns p:Nat} {A:Nat->Prop} {μ lam:Nat->Nat} {s:St} {a:Act} {w:World} {e:Eff} {o:Oper} {ro:Option Nat}
theorem Rel.bare (R:Rel N c ns A μ lam s a w):Rel N ⟨w,MBH s.heap μ,A,s.heap,μ⟩ 0 A μ lam (.init [] s.heap s.nxt) zam w where
 size:=rfl
 defers:=zyJ.nil _ _ _
 env t:=by simp[St.init,zza,zam,zxy]
 loc t cs h:=by simp[St.init]at h
 adr t b o h:=by simp[St.init]at h
 heap:=R.heap
 hinj:=R.hinj
 linj t t' h:=by simp[St.init]at h
 lh t k o h:=by simp[St.init]at h
 aH:=R.aH
 aL r _:=by rintro⟨t,h,_⟩;simp[St.init]at h
 alt:=R.alt
 afz:=R.afz
 fresh:=R.fresh
 glob:=R.glob
 cout:=⟨rfl,rfl⟩
 csize:=Nat.le_refl _
 ckeep _ _ _:=rfl
 cshp _ _ h:=h
 csub _ h:=h
 canew _ h:=.inl h
 clive _ h:=.inl h
 cloc t h:=by simp[St.init]at h
 chp k o h:=⟨o,h,O.le_refl o,fun _=>rfl⟩
theorem Rel.back (R:Rel N c ns A μ lam s a w) {A':Nat->Prop} {μ' lam':Nat->Nat} {H':Nat->Option O} {n':Nat} {w':World}
 (R':Rel N ⟨w,MBH s.heap μ,A,s.heap,μ⟩ 0 A' μ' lam' (.init [] H' n') zam w'):
 Evo w A μ s.heap w' A' μ' H'/\Rel N c ns A' μ' lam { s with heap:=H',nxt:=n' } a w':=by
 have E:Evo w A μ s.heap w' A' μ' H':=⟨fun r h=>R'.ckeep r (R.alt r h) (R.aH r h),R'.csub,R'.chp,R'.cshp⟩
 have hX: ∀t r,(s.loc t).isSome=true->MBH s.heap μ r->lam t≠r:=by
  rintro t r ht ⟨k,o,hk,_,hl,rfl⟩;exact R.lh t k o ht hk hl
 have AM:w.heap.size<=w'.heap.size:=R'.csize;have hA: ∀r,A' r->A r\/MBH s.heap μ r\/w.heap.size<=r:=R'.canew
 have Dg: ∀k o,H' k=some o->o.live=true->A' (μ' k)\/MBH s.heap μ (μ' k)\/w.heap.size<=μ' k:=by
  intro k o h hl
  by_cases hf: ∃sz rs,o= .rows sz rs true
  ·obtain⟨sz,rs,rfl⟩:=hf;exact .inl (R'.afz k sz rs h)
  ·exact .inr (R'.clive _ ⟨k,o,h,fun sz rs e=>hf ⟨sz,rs,e⟩,hl,rfl⟩)
 have Hu: ∀r:Nat,w.heap[r]? =some (Obj.deferred (some []))-> ¬MBH s.heap μ r:=by
  rintro r h ⟨k,o,hk,_,hl,rfl⟩;exact R.ndef hk hl h
 have IQ: ∀r:Nat,w.heap[r]? =some (Obj.deferred (some []))->w'.heap[r]? =w.heap[r]? :=fun r h=>R'.ckeep r (Array.getElem?_eq_some_iff.1 h).1 (Hu r h)
 have Pn: ∀r:Nat,w.heap[r]? =some (Obj.deferred (some []))->A' r->A r:=by
  intro r h hr;rcases hA r hr with h1 | h1 | h1
  ·exact h1
  ·exact absurd h1 (Hu r h)
  ·have:=(Array.getElem?_eq_some_iff.1 h).1;omega
 refine⟨E,{ R with defers:=R.defers.evo IQ Pn,env:=fun t=>(R.env t).evo E,loc:= ?_,heap:=R'.heap,hinj:=R'.hinj,lh:= ?_,aH:=R'.aH,aL:= ?_,alt:=R'.alt,afz:=R'.afz,fresh:=R'.fresh,glob:=R'.glob,cout:=⟨R'.cout.1.trans R.cout.1,R'.cout.2.trans R.cout.2⟩,csize:=Nat.le_trans R.csize AM,ckeep:= ?_,cshp:= ?_,csub:= ?_,canew:= ?_,clive:= ?_,chp:= ?_ }⟩
 ·intro t cs h;obtain⟨h1,h2⟩:=R.loc t cs h;have ht:(s.loc t).isSome=true:=by rw[h];rfl
  exact⟨h1,h2.evo E (R'.ckeep _ (R.lt_loc ht) (fun hm=>hX t _ ht hm rfl))⟩
 ·intro t k o ht h hl he;rcases Dg k o h hl with h1 | h1 | h1
  ·rcases hA _ h1 with h2 | h2 | h2
   ·exact R.aL _ h2 ⟨t,ht,he⟩
   ·exact hX t _ ht h2 he
   ·have:=R.lt_loc ht;omega
  ·exact hX t _ ht h1 he
  ·have:=R.lt_loc ht;omega
 ·rintro r hr ⟨t,ht,he⟩;rcases hA r hr with h2 | h2 | h2
  ·exact R.aL _ h2 ⟨t,ht,he⟩
  ·exact hX t _ ht h2 he
  ·have:=R.lt_loc ht;omega
 ·intro r h1 h2;rw[R'.ckeep r (Nat.lt_of_lt_of_le h1 R.csize) ?_]
  ·exact R.ckeep r h1 h2
  ·intro hm;rcases R.clive r hm with h | h
   ·exact h2 h
   ·omega
 ·intro r x h;exact R'.cshp r x (R.cshp r x h)
 ·intro r h;exact R'.csub r (R.csub r h)
 ·intro r h;rcases hA r h with h | h | h
  ·exact R.canew r h
  ·exact .inr (R.clive r h)
  ·exact .inr (.inr (Nat.le_trans R.csize h))
 ·intro r h;rcases R'.clive r h with h | h
  ·exact R.clive r h
  ·exact .inr (Nat.le_trans R.csize h)
 ·intro k o h;obtain⟨o1,h1,h2,h3⟩:=R.chp k o h;obtain⟨o2,h4,h5,h6⟩:=R'.chp k o1 h1;refine⟨o2,h4,O.le_trans h2 h5,fun hl=> ?_⟩
  have AZ:o1.live=true:=by
   cases o1<;>first | rfl | (cases o2<;>simp_all [O.le,O.live])
  have e1:=h6 hl;have e2:=h3 AZ;simp only at e1;rw[e1,e2]
theorem zmG (hI:I.Ok N) (R:Rel N c ns A μ lam s a w) {cl:Call} {f:Operand} {f':Opd} {args':List Opd} {fv:V} {g:Nat} {as bs vs:List V} {r:V} {rf:Func} {H':Nat->Option O} {n':Nat} {Q:Exit->Act->World->Prop}
 (ho:o.op= .call cl) (hb:cl.callee= .value f) (hf:opd I f=some f') (Br:opds I cl.args=some args') (An:evl N.G s f'=some fv) (Au:zze fv=some (g,as,bs))
 (Am:Real P (N.nm g) rf) (Aq:zzo N.G s args'=some vs) (hc:zhR P N g (as++vs++bs) s.heap s.nxt r H' n')
 (hd: ∀x,o.dst=some x->x<ns) (AI:s.free o.dst {}):
 o.wpIn (FW ro) 0 P a w (fun a' w'=> ∃A' μ' lam',Rel N c ns A' μ' lam' ({ s with heap:=H',nxt:=n' }.apply o.dst { val:=r }) a' w') Q:=by
 obtain⟨va,vb,hv,ha,Bi⟩:=zjb (zxc hI R hf An) Au;have B7:zaZ w A N.nm μ s.heap (cl.args.map a.eval) vs:=zbA hI R Br Aq;have BL:=hc _ A μ lam w _ R.bare ((ha.append B7).append Bi);refine⟨fun _ _=>trivial,?_⟩;rw[o.semAt_eq _ _ (by rw[ho];simp),ze6 ho hb hv Am,Oper.uponIn_enter];refine⟨zdR,zgE (BL.mono ?_)⟩;rintro e w' ⟨v,A',μ',lam',rfl,R',hr⟩;obtain⟨_,R1⟩:=R.back R';exact⟨A',μ',lam,R1.put o.dst { val:=r } v hd AI rfl rfl rfl hr (by simp)⟩
theorem zAM {key:Nat} {r:V} {h:Nat->Option O} {e:Eff} (he:zBy key r h=some e): ∀x∈e.hp,x.1=key:=by
 unfold zBy at he;split at he
 ·simp only[zA]at he;subst he;intro x hx;simp at hx
 ·simp only[zA]at he;subst he;intro x hx;simp at hx
 ·split at he
  ·split at he
   ·simp only[zA]at he;subst he;intro x hx;simp only[List.mem_singleton]at hx;rw[hx]
   ·simp at he
  ·simp at he
 ·simp at he
theorem zy3 {key:Nat} {r:V} {h:Nat->Option O} {e:Eff} (he:zBy key r h=some e):e.adr=none/\e.loc=none/\e.wloc=none:=by
 unfold zBy at he;split at he
 ·simp only[zA]at he;subst he;exact⟨rfl,rfl,rfl⟩
 ·simp only[zA]at he;subst he;exact⟨rfl,rfl,rfl⟩
 ·split at he
  ·split at he
   ·simp only[zA]at he;subst he;exact⟨rfl,rfl,rfl⟩
   ·simp at he
  ·simp at he
 ·simp at he
theorem zjU (hI:I.Ok N) (R:Rel N c ns A μ lam s a w) {cl:Call} {f:Operand} {f':Opd} {args':List Opd} {fv:V} {g:Nat} {as bs vs rs:List V} {r:V} {rf:Func} {H':Nat->Option O} {n':Nat} {e:Eff} {Q:Exit->Act->World->Prop}
 (ho:o.op= .call cl) (hb:cl.callee= .value f) (hf:opd I f=some f') (Br:opds I cl.args=some args') (An:evl N.G s f'=some fv) (Au:zze fv=some (g,as,bs))
 (Am:Real P (N.nm g) rf) (Aq:zzo N.G s args'=some vs) (AA:(as++vs++bs).mapM (toT1 s.heap)=some rs) (Fv:(as++vs++bs).flatMap (zxp s.heap)=[]) (hc:zhR P N g rs (fun _=>none) 0 r H' n')
 (he:zBy (s.bas+p) r H'=some e) (hd: ∀x,o.dst=some x->x<ns) (AI:s.free o.dst {}) (hk:s.heap (s.bas+p)=none) (hn:s.bas+p<s.nxt):
 o.wpIn (FW ro) 0 P a w (fun a' w'=> ∃A' μ' lam',Rel N c ns A' μ' lam' (s.apply o.dst e) a' w') Q:=by
 obtain⟨va,vb,hv,ha,Bi⟩:=zjb (zxc hI R hf An) Au;have B7:zaZ w A N.nm μ s.heap (cl.args.map a.eval) vs:=zbA hI R Br Aq;have Aa:=(ha.append B7).append Bi;obtain⟨m1,m2⟩:=zax AA
 have Ad:zaZ w A N.nm (fun _=>0) (fun _=>none) (va++cl.args.map a.eval++vb) rs:=by
  refine⟨by rw[Aa.1,m1],fun i x hi=> ?_⟩;obtain⟨y,hy,ht⟩:=m2 i x hi;obtain⟨v,hv,hr⟩:=Aa.2 i y hy;refine⟨v,hv,((zAH R.heap ht hr (fun _=>0) (fun _=>none)).mono ?_).toV⟩;rintro q (h | ⟨k,hk,h2⟩)
  ·exact h
  ·have:zxp s.heap y=[]:=by
    rw[List.flatMap_eq_nil_iff]at Fv;exact Fv y (zL hy)
   rw[this]at hk;simp at hk
 have HR:Rel N ⟨w,fun _=>False,A,fun _=>none,fun _=>0⟩ 0 A (fun _=>0) (fun _=>0) (.init [] (fun _=>none) 0) zam w:=
  { size:=rfl,defers:=zyJ.nil _ _ _,env:=fun t=>by simp[St.init,zza,zam,zxy],loc:=fun t cs h=>by simp[St.init]at h,adr:=fun t b o h=>by simp[St.init]at h,
    heap:=fun k o h=>by simp[St.init]at h,hinj:=fun k k' o o' h=>by simp[St.init]at h,linj:=fun t t' h=>by simp[St.init]at h,lh:=fun t k o h=>by simp[St.init]at h,
    aH:=fun r _=>by rintro⟨k,o,h,_⟩;simp[St.init]at h,aL:=fun r _=>by rintro⟨t,h,_⟩;simp[St.init]at h,alt:=R.alt,afz:=fun k sz rs h=>by simp[St.init]at h,fresh:=fun _ _=>rfl,
    glob:=R.glob,cout:=⟨rfl,rfl⟩,csize:=Nat.le_refl _,ckeep:=fun _ _ _=>rfl,cshp:=fun _ _ h=>h,csub:=fun _ h=>h,canew:=fun _ h=> .inl h,clive:=fun r=>by rintro⟨k,o,h,_⟩;simp[St.init]at h,
    cloc:=fun t h=>by simp[St.init]at h,chp:=fun k o h=>by simp at h }
 have BL:=hc _ A (fun _=>0) (fun _=>0) w _ HR Ad;refine⟨fun _ _=>trivial,?_⟩;rw[o.semAt_eq _ _ (by rw[ho];simp),ze6 ho hb hv Am,Oper.uponIn_enter];refine⟨zdR,zgE (BL.mono ?_)⟩;rintro e0 w' ⟨v,A',μ',lam',rfl,R',DY⟩;have As: ∀q,q<w.heap.size->w'.heap[q]? =w.heap[q]? :=fun q hq=>R'.ckeep q hq (fun h=>h)
 have AM:w.heap.size<=w'.heap.size:=R'.csize
 have R1:Rel N c ns A μ lam s a w':=by
  refine R.world AM ?_ (fun r hr _=>As r (Nat.lt_of_lt_of_le hr R.csize)) R'.cshp (R.defers.evo (fun r h=>As r (Array.getElem?_eq_some_iff.1 h).1) (fun _ _ h=>h)) R'.cout;rintro r (h | ⟨t,h,rfl⟩ | ⟨k,o',h,hl,rfl⟩)
  ·exact As r (R.alt r h)
  ·exact As _ (R.lt_loc h)
  ·exact As _ (R.lt_live h hl)
 unfold zBy at he;split at he
 ·simp only[zA]at he;subst he;have Dl:RepT w' A' N.nm v .nils:=DY.t_inv;refine⟨A,μ,lam,R1.put o.dst { val:=.t .nils } v hd AI rfl rfl rfl ?_ (by simp)⟩
  cases Dl with
  | nils a=>exact(RepC.t (.nils a)).toV
 ·simp only[zA]at he;subst he;have Dl:RepT w' A' N.nm v (.sl []):=DY.t_inv;refine⟨A,μ,lam,R1.put o.dst { val:=.t (.sl []) } v hd AI rfl rfl rfl ?_ (by simp)⟩
  cases Dl with
  | sl0 a cap=>exact(RepC.t (.sl0 a cap)).toV
  | sl _ _ _ _ _ _ h0=>exact absurd h0 (by simp)
 ·rename_i k i n;split at he
  ·rename_i sz rws A7;split at he
   ·rename_i Bo;obtain⟨rfl,rfl,Fu⟩:=Bo;simp only[zA]at he;subst he;have FO:=R'.heap k _ A7;have Dg:MBH (St.init [] H' n').heap μ' (μ' k):=⟨k,_,A7,by intro sz rs h;simp at h,rfl,rfl⟩
    have Mu:w.heap.size<=μ' k:=by
     rcases R'.clive _ Dg with h | h
     ·exact h.elim
     ·exact h
    have hq: ¬A' (μ' k):=fun h=>R'.aH _ h Dg
    have R2:=R1.growA (fun q=>A' q/\w.heap.size<=q) (fun q hq t ht=>by have:=R.lt_loc ht;omega) (fun q hq k o hk hl=>by have:=R.lt_live hk hl;omega)
     (fun q hq=> .inr (by have:=R.csize;omega)) (fun q hq=>R'.alt q hq.1) (R.defers.join R1.defers (fun q hq=>hq.2))
    have P6: ∀q,A' q->A q\/(A' q/\w.heap.size<=q):=by
     intro q hq;rcases R'.canew q hq with h | h | h
     ·exact .inl h
     ·exact h.elim
     ·exact .inr ⟨hq,h⟩
    have CQ:Orphan c (fun q=>A q\/(A' q/\w.heap.size<=q)) μ lam s (μ' k):=by
     refine⟨?_,fun t ht e=> ?_,fun k1 o1 h1 l1 e=> ?_,.inr (by have:=R.csize;omega)⟩
     ·rintro(h | h)
      ·have:=R.alt _ h;omega
      ·exact hq h.1
     ·have:=R.lt_loc ht;omega
     ·have:=R.lt_live h1 l1;omega
    obtain⟨cc,e1,z,g1,g2,g3,g4,g5⟩:=FO
    have LY: ∀(i:Nat) (row:List V) (j:Nat) (x:V),rws[i]? =some row->row[j]? =some x-> ∃y,x= .t y:=by
     intro i row j x hi hj;have h1:=zN.1 Fu row (zL hi);have h2:=zN.1 h1 x (zL hj)
     cases x with
     | t y=>exact⟨y,rfl⟩
     | _=>simp[V.isTr]at h2
    have Ka:zkf w' (fun q=>A q\/(A' q/\w.heap.size<=q)) N μ s.heap (μ' k) (.rows sz rws false):=by
     refine⟨cc,e1,z,g1,g2,g3,g4,fun i row j x hi hj=> ?_⟩;obtain⟨y,rfl⟩:=LY i row j x hi hj;obtain⟨u,hu,hr⟩:=g5 i row j _ hi hj;refine⟨u,hu,.t ?_⟩
     cases hr with
     | t h=>exact h.mono (fun _ _=>rfl) P6
    have R3:=R2.adoptH (k:=s.bas+p) hk hn CQ Ka (by intro sz rs h;simp at h)
    have HX:zxy w' (fun q=>A q\/(A' q/\w.heap.size<=q)) N.nm (upd μ (s.bas+p) (μ' k)) (upd s.heap (s.bas+p) (some (.rows sz rws false))) v (.ms (s.bas+p) 0 rws.length):=by
     cases(DY:RepC w' A' N.nm μ' H' v _)with
     | ms _ _ _ cap sz' rs' fz' a' Ag AN Bp F3=>
       have:some (O.rows sz' rs' fz')=some (O.rows sz rws false):=Ag.symm.trans A7;cases this;refine RepC.toV (.ms _ _ _ cap sz rws false a' (by simp) AN Bp ?_);rcases F3 with h | ⟨h1,e2,n2,h2,h3⟩
       ·exact .inl h
       ·exact .inr ⟨by rw[zxg];exact h1,e2,n2,by rw[zxg];exact h2,h3⟩
     | dms _ _ _ Ag _=>have:=Ag.symm.trans A7;simp at this
    exact⟨_,_,lam,R3.put o.dst { val:=.ms (s.bas+p) 0 rws.length } v hd AI rfl rfl rfl HX (by simp)⟩
   ·simp at he
  ·simp at he
 ·simp at he
theorem zg9 {H:Nat->Option O} {n:Nat} (HR:Rel N c 0 A μ lam (.init [] H n) zam w) {vs:Array Value} {xs:List V} (h:zaZ w A N.nm μ H vs xs) (k:Nat):
 Rel N c (vs++Array.replicate (k-vs.size) undef).size A μ lam (.init xs H n) { tmps:=vs++Array.replicate (k-vs.size) undef,defers:=[] } w where
 size:=rfl
 defers:=zyJ.nil _ _ _
 env t:=by
  show zxy w A N.nm μ H ((vs++Array.replicate (k-vs.size) undef).getD t undef) (xs.getD t .undef)
  by_cases ht:t<xs.length
  ·obtain⟨v,hv,hr⟩:=h.2 t xs[t] (zI ht)
   have e1:(vs++Array.replicate (k-vs.size) undef).getD t undef=v:=by
    rw[Array.getD_eq_getD_getElem?,Array.getElem?_append_left (by rw[h.1];exact ht),hv];rfl
   have e2:xs.getD t .undef=xs[t]:=by rw[zK,zI ht];rfl
   rw[e1,e2];exact hr
  ·have e2:xs.getD t .undef= .undef:=by rw[zK,List.getElem?_eq_none (by omega)];rfl
   have e1:(vs++Array.replicate (k-vs.size) undef).getD t undef=undef:=by
    rw[Array.getD_eq_getD_getElem?,Array.getElem?_append_right (by rw[h.1];omega),Array.getElem?_replicate];split<;>rfl
   rw[e1,e2];exact rfl
 loc t cs h:=by simp[St.init]at h
 adr t b o h:=by simp[St.init]at h
 heap:=HR.heap
 hinj:=HR.hinj
 linj t t' h:=by simp[St.init]at h
 lh t k o h:=by simp[St.init]at h
 aH:=HR.aH
 aL r _:=by rintro⟨t,h,_⟩;simp[St.init]at h
 alt:=HR.alt
 afz:=HR.afz
 fresh:=HR.fresh
 glob:=HR.glob
 cout:=HR.cout
 csize:=HR.csize
 ckeep:=HR.ckeep
 cshp:=HR.cshp
 csub:=HR.csub
 canew:=HR.canew
 clive:=HR.clive
 cloc t h:=by simp[St.init]at h
 chp:=HR.chp
theorem zg8 (R:Rel N c ns A μ lam s a w):Rel N c 0 A μ lam (.init [] s.heap s.nxt) zam w where
 size:=rfl
 defers:=zyJ.nil _ _ _
 env t:=by simp[St.init,zza,zam,zxy]
 loc t cs h:=by simp[St.init]at h
 adr t b o h:=by simp[St.init]at h
 heap:=R.heap
 hinj:=R.hinj
 linj t t' h:=by simp[St.init]at h
 lh t k o h:=by simp[St.init]at h
 aH:=R.aH
 aL r _:=by rintro⟨t,h,_⟩;simp[St.init]at h
 alt:=R.alt
 afz:=R.afz
 fresh:=R.fresh
 glob:=R.glob
 cout:=R.cout
 csize:=R.csize
 ckeep:=R.ckeep
 cshp:=R.cshp
 csub:=R.csub
 canew:=R.canew
 clive:=R.clive
 cloc t h:=by simp[St.init]at h
 chp:=R.chp
def ziV (P:Program):ResultVar->Res->Prop
 | .tmp t,.s t'=>t=t'
 | .cell a ty,.l a' ag n=>a=a'/\typ P ty=some (ag,n)
 | .cell a ty,.h a' ag n=>a=a'/\typ P ty=some (ag,n)
 | _,_=>False
def zAy (tmps:Array Value):ResultVar->Sem Value
 | .tmp t=>pure (tmps.getD t undef)
 | .cell a t=>do loadVar t (<- asAddr (tmps.getD a undef))
theorem zoa (R:Rel N c ns A μ lam s a w) {rv:ResultVar} {rs:Res} {v:V} (hr:ziV P rv rs) (hv:zyX s rs=some v): ∃v',(zAy a.tmps rv).run P w= .ok v' w/\zx5 w A N.nm μ s.heap v' v:=by
 cases rv with
 | tmp t=>
   cases rs with
   | s t'=>
     cases(hr:t=t');have he:=R.env t;simp only[zyX]at hv;split at hv<;>first | (simp at hv;done) | skip
     simp only[zA]at hv;subst hv;refine⟨_,rfl,?_⟩;rename_i h1 h2 h3
     revert he h1 h2 h3
     generalize s.env t=x
     intro he h1 h2 h3
     cases x<;>first | exact he | exact absurd rfl h1 | exact absurd rfl h2 | exact absurd rfl (h3 _)
   | l _ _ _=>exact hr.elim
   | h _ _ _=>exact hr.elim
 | cell ad ty=>
   cases rs with
   | s t'=>exact hr.elim
   | l b ag n=>
     obtain⟨rfl,Az⟩:=hr;simp only[zyX,zC,zB]at hv;obtain⟨cs,hb,r,BM,hw⟩:=hv;obtain⟨hp,cc,e0,h1,h2⟩:=R.loc ad cs hb;obtain⟨h3,h4,h5⟩:=h2.rd BM
     have hl:=zbQ (w:=w) Az (lam ad) 0 ((cc.toList.drop 0).take n) (by simp at h4⊢;omega) (fun j v hj=>by
      simp only[List.drop_zero,zO,Array.getElem?_toList]at hj;split at hj
      ·simp[World.cell?,h1,hj]
      ·simp at hj)
     exact⟨zzz ag ((cc.toList.drop 0).take n),by simp only[zAy,Sem.run_bind,hp,asAddr,Sem.run_pure,Result.andThen_ok,hl],h3.wrap1 hw⟩
   | h b ag n=>
     obtain⟨rfl,Az⟩:=hr;have he:=R.env ad;simp only[zyX]at hv;split at hv
     ·rename_i k i off CK;rw[CK]at he;split at hv
      ·rename_i sz rs frz hk;simp only[zC,zB]at hv;obtain⟨row,A6,r,BM,hw⟩:=hv;obtain⟨hp,_⟩:=zxy.mp_inv he hk;obtain⟨vs,h1,h2⟩:=zg4 R hk A6;obtain⟨h3,h4,h5⟩:=h1.rd BM
       have hl:=zbQ (w:=w) Az (μ k) (i*sz+off) ((vs.drop off).take n) (by simp;omega) (fun j v hj=>by
        simp only[zO,List.getElem?_drop]at hj;split at hj
        ·rw[Nat.add_assoc];exact h2 _ v hj
        ·simp at hj)
       exact⟨zzz ag ((vs.drop off).take n),by simp only[zAy,Sem.run_bind,hp,asAddr,Sem.run_pure,Result.andThen_ok,hl],h3.wrap1 hw⟩
      ·simp at hv
     ·simp at hv
theorem zkI (R:Rel N c ns A μ lam s a w) {rf:Func} {rs:List Res} {v:V} (hl:rf.results.toList.length=rs.length) (hr: ∀(i:Nat) (x:ResultVar) (y:Res),rf.results.toList[i]? =some x->rs[i]? =some y->ziV P x y)
 (hv:zyQ s rs=some v): ∃v',(results rf a.tmps).run P w= .ok v' w/\zxy w A N.nm μ s.heap v' v:=by
 simp only[zyQ,zC,zB]at hv;obtain⟨vs,Aq,hv⟩:=hv
 have key: ∀(l:List ResultVar) (rs:List Res) (vs:List V),l.length=rs.length->(∀(i:Nat) (x:ResultVar) (y:Res),l[i]? =some x->rs[i]? =some y->ziV P x y)->rs.mapM (zyX s)=some vs->
  ∃us:List Value,(l.mapM (m:=Sem) (zAy a.tmps)).run P w= .ok us w/\us.length=vs.length/\ ∀(i:Nat) (x:V),vs[i]? =some x-> ∃u,us[i]? =some u/\zx5 w A N.nm μ s.heap u x:=by
  intro l
  induction l with
  | nil=>
    intro rs vs h1 _ h3;have:rs=[]:=List.length_eq_zero_iff.1 (by simpa using h1.symm);subst this;simp at h3;subst h3
    exact⟨[],by simp,rfl,by simp⟩
  | cons x l ih=>
    intro rs vs h1 h2 h3
    cases rs with
    | nil=>simp at h1
    | cons y rs=>
      simp only[List.mapM_cons,zC,zB,Option.pure_def,zA]at h3;obtain⟨z,hz,zs,Hh,rfl⟩:=h3;obtain⟨u,hu,D4⟩:=zoa (P:=P) R (h2 0 x y rfl rfl) hz;obtain⟨us,Jl,Ac,Ae⟩:=ih rs zs (by simpa using h1) (fun i x' y' a1 a2=>h2 (i+1) x' y' (by simpa using a1) (by simpa using a2)) Hh;refine⟨u::us,by simp only[List.mapM_cons,Sem.run_bind,hu,Jl,Result.andThen_ok,Sem.run_pure],by simp[Ac],fun i q hq=> ?_⟩
      cases i with
      | zero=>simp at hq;subst hq;exact⟨u,rfl,D4⟩
      | succ i=>simp at hq;simpa using Ae i q hq
 obtain⟨us,Jl,Ac,Ae⟩:=key _ rs vs hl hr Aq
 have Af:(results rf a.tmps).run P w= .ok (if h:us.toArray.size=1 then us.toArray[0]else .tuple us.toArray) w:=by
  have:(rf.results.mapM (m:=Sem) (zAy a.tmps)).run P w= .ok us.toArray w:=by
   rw[Array.mapM_eq_mapM_toList];simp only[Sem.run_map,Jl,Result.andThen_ok]
  have h2:results rf a.tmps=(do let vs<- rf.results.mapM (m:=Sem) (zAy a.tmps);pure (if h:vs.size=1 then vs[0]else .tuple vs)):=by
   unfold results
   congr 1
  rw[h2];simp only[Sem.run_bind,this,Result.andThen_ok,Sem.run_pure]
 refine⟨_,Af,?_⟩;split at hv
 ·rename_i x;simp only[zA]at hv;subst hv;obtain⟨u,hu,D4⟩:=Ae 0 _ rfl
  match us,Ac,hu with
  | [u'],_,hu=>simp at hu;subst hu;simpa using D4.toV
 ·rename_i A8;simp only[zA]at hv;subst hv
  have Iq:us.length≠1:=by
   intro h;rw[Ac]at h
   match vs,h,A8 with
   | [x],_,A8=>exact A8 x rfl
  rw[dif_neg (by simpa using Iq)];exact⟨us.toArray,rfl,by simpa using Ac,fun i q hq=>by simpa using Ae i q hq⟩
end
end Rg
end
section
namespace Rg
open Go
def Ex.jump:Ex->Option Code
 | .normal=>none
 | .exit id=>some (.exit id)
 | .ret=>some .ret
theorem Ex.toL_rel (e:Ex):e.toL.rel (if e.jump.isNone then .ready else .done) e.jump:=by
 cases e<;>simp[Ex.toL,LSt.rel,Ex.jump]
theorem Ex.jump_none (e:Ex):e.jump.isNone=decide (e=Ex.normal):=by
 cases e<;>simp[Ex.jump]
theorem zed {w:World} {r:Nat} {L:Go.Loop} (o:Go.Obj) (h:w.heap[r]? =some (.loop L)) (q:Nat) (x:TypeId×Nat) (hq:w.shape? q=some x):(w.putObj r o).shape? q=some x:=by
 by_cases e:q=r
 ·subst e;simp[World.shape?,h]at hq
 ·simpa[World.shape?,World.putObj_heap_other e]using hq
theorem zg5 {Rp:Value->V->Prop}: ∀(ps:List Nat) (us:List Value) (vs:List V) (tmps:Array Value) (env:Nat->V),us.length=ps.length->vs.length=ps.length->(∀t∈ps,t<tmps.size)->
 (∀(i:Nat) (v:V),vs[i]? =some v-> ∃u,us[i]? =some u/\Rp u v)->(∀t,Rp (tmps.getD t undef) (env t))->
 ((ps.zip us).foldl (fun(tmps:Array Value) (x:Nat×Value)=>tmps.setIfInBounds x.1 x.2) tmps).size=tmps.size/\
   ∀t,Rp (((ps.zip us).foldl (fun(tmps:Array Value) (x:Nat×Value)=>tmps.setIfInBounds x.1 x.2) tmps).getD t undef) (zzj env ps vs t)
 | [],us,vs,tmps,env,_,hv,_,_,he=>by
   have:vs=[]:=List.length_eq_zero_iff.1 (by simpa using hv);subst this
   exact⟨rfl,fun t=>by simpa[zzj]using he t⟩
 | p::ps,u::us,v::vs,tmps,env,hu,hv,hl,hr,he=>by
   have hp:p<tmps.size:=hl p List.mem_cons_self;obtain⟨u',Lm,Mr⟩:=hr 0 v rfl;simp only[List.getElem?_cons_zero,zA]at Lm;subst Lm
   have h:=zg5 ps us vs (tmps.setIfInBounds p u) (upd env p v) (by simpa using hu) (by simpa using hv) (fun t ht=>by simpa using hl t (List.mem_cons_of_mem _ ht))
    (fun i x hi=>by simpa using hr (i+1) x (by simpa using hi)) (fun t=>by
      by_cases e:t=p
      ·subst e;simpa[Array.getD_eq_getD_getElem?,hp]using Mr
      ·rw[zaa _ _ e];have:(tmps.setIfInBounds p u).getD t undef=tmps.getD t undef:=by simp[Array.getD_eq_getD_getElem?,Ne.symm e]
       rw[this];exact he t)
   exact⟨by simpa using h.1,fun t=>by simpa[zzj]using h.2 t⟩
 | p::ps,[],vs,tmps,env,hu,_,_,_,_=>by simp at hu
 | p::ps,u::us,[],tmps,env,_,hv,_,_,_=>by simp at hv
section
variable {P:Program} {N:Nam} {I:Inv} {c:Ctx} {ns p:Nat} {A:Nat->Prop} {μ lam:Nat->Nat} {s:St} {a:Act} {w:World} {e:Eff} {o:Oper} {ro:Option Nat}
theorem zB8 {H:Nat->Option O} {n m:Nat} (HR:Rel N c 0 A μ lam (.init [] H n) zam w) {tmps:Array Value} {env:Nat->V} (hm:tmps.size=m) (h: ∀t,zxy w A N.nm μ H (tmps.getD t undef) (env t)):
 Rel N c m A μ lam { env:=env,loc:=fun _=>none,adr:=fun _=>none,used:=fun _=>false,heap:=H,nxt:=n,bas:=n } { tmps:=tmps,defers:=[] } w where
 size:=hm
 defers:=zyJ.nil _ _ _
 env t:=h t
 loc t cs h:=by simp at h
 adr t b o h:=by simp at h
 heap:=HR.heap
 hinj:=HR.hinj
 linj t t' h:=by simp at h
 lh t k o h:=by simp at h
 aH:=HR.aH
 aL r _:=by rintro⟨t,h,_⟩;simp at h
 alt:=HR.alt
 afz:=HR.afz
 fresh:=HR.fresh
 glob:=HR.glob
 cout:=HR.cout
 csize:=HR.csize
 ckeep:=HR.ckeep
 cshp:=HR.cshp
 csub:=HR.csub
 canew:=HR.canew
 clive:=HR.clive
 cloc t h:=by simp at h
 chp:=HR.chp
theorem Rel.setLoop (R:Rel N c ns A μ lam s a w) {k:Nat} {env:Nat->V} {ps:List Nat} {bd:C} {st st':LSt} (hk:s.heap k=some (.loop env ps bd st)) {L:Go.Loop} (hL:w.heap[μ k]? =some (.loop L))
 (state:LoopState) (pending:Option Code) (AB:st'.rel state pending):
 Rel N c ns A μ lam { s with heap:=upd s.heap k (some (.loop env ps bd st')) } a (w.putObj (μ k) (.loop { L with state:=state,pending:=pending })):=by
 obtain⟨L',He,h1,h2,h3,_,h5,h6⟩:=R.heap k _ hk;have:L'=L:=by rw[hL]at He;cases He;rfl
 subst this;refine R.changeH (k:=k) (o:=.loop env ps bd st) hk trivial rfl (by simp) (by simp) rfl (by simp) (fun r hr=>World.putObj_heap_other hr) (fun q x hq=>zed _ hL q x hq) (fun E=> ?_);exact⟨{ L' with state:=state,pending:=pending },World.putObj_heap_same (Array.getElem?_eq_some_iff.1 hL).1,h1,h2,h3,AB,h5,fun t=>(h6 t).evo E⟩
theorem Rel.relabel (R:Rel N c ns A μ lam s a w) {k:Nat} {env:Nat->V} {ps:List Nat} {bd:C} {st st':LSt} (hk:s.heap k=some (.loop env ps bd st)) (h: ∀x y,st.rel x y->st'.rel x y):
 Rel N c ns A μ lam { s with heap:=upd s.heap k (some (.loop env ps bd st')) } a w:=by
 refine R.changeH (k:=k) (o:=.loop env ps bd st) hk trivial rfl (by simp) (by simp) rfl rfl (fun _ _=>rfl) (fun _ _ h=>h) (fun E=> ?_);obtain⟨L,hL,h1,h2,h3,h4,h5,h6⟩:=R.heap k _ hk;exact⟨L,hL,h1,h2,h3,h _ _ h4,h5,fun t=>(h6 t).evo E⟩
theorem zjs (hI:I.Ok N) (R:Rel N c ns A μ lam s a w) {cl:Call} {f:Operand} {f':Opd} {args':List Opd} {k:Nat} {vs:List V} {env env1 env':Nat->V} {ps ps1 ps':List Nat} {ca cb bd1 bd':C} {e:Ex} {s1 s2:St} {Q:Exit->Act->World->Prop}
 (ho:o.op= .call cl) (hb:cl.callee= .value f) (hf:opd I f=some f') (Br:opds I cl.args=some args') (An:evl N.G s f'=some (.yl k))
 (hk:s.heap k=some (.loop env ps (.round ca cb) .ready)) (Aq:zzo N.G s args'=some vs) (Ac:vs.length=ps.length)
 (Bd:zf7 P N ca (zzg s.heap s.nxt k env ps (.round ca cb) vs) .normal s1) (Ba:s1.heap k=some (.loop env1 ps1 bd1 .enter))
 (C6:zf7 P N cb { s1 with heap:=upd s1.heap k (some (.loop env1 ps1 bd1 .busy)) } e s2) (AX:s2.heap k=some (.loop env' ps' bd' .busy)) (hd: ∀x,o.dst=some x->x<ns) (AI:s.free o.dst {}):
 o.wpIn (FW ro) 0 P a w (fun a' w'=> ∃A' μ' lam',Rel N c ns A' μ' lam' ({ s with heap:=upd s2.heap k (some (.loop env' ps' bd' e.toL)),nxt:=s2.nxt }.apply o.dst { val:=.t (.bool (decide (e=Ex.normal))) }) a' w') Q:=by
 have hv:a.eval f= .func (.yield (μ k)) #[] #[]:=by
  have h:RepC w A N.nm μ s.heap (a.eval f) (.yl k):=zxc hI R hf An
  generalize a.eval f=u at h⊢
  cases h with
  | yl _ env ps b st Ag=>rfl
  | dyl _ Ag=>rw[hk]at Ag;cases Ag
 obtain⟨L,hL,C5,Gq,F1,AB,Ai,BY⟩:=R.heap k _ hk;obtain⟨_,_,MW,Gq⟩:=Gq;obtain⟨_,_,MV,F1⟩:=F1;cases MW;cases MV;have B7:zaZ w A N.nm μ s.heap (cl.args.map a.eval) vs:=zbA hI R Br Aq;refine⟨fun _ _=>trivial,?_⟩
 have Af:(o.semAt (FW ro).round a.eval).run P w= .ok (.round (μ k) L.fn ((L.params.zip (cl.args.map a.eval)).foldl (fun tmps (t,a)=>tmps.setIfInBounds t a) L.tmps) L.assign L.body) w:=by
  rw[o.semAt_eq _ _ (by rw[ho];simp)];have hy:=run_yield (P:=P) (args:=cl.args.map a.eval) hL (by rw[B7.1,Ac,C5];simp);simp only[execOp,ho,resolve,hb,Sem.run_bind,hv,Deferred.ofValue,Sem.run_pure,Result.andThen_ok,invoke,Array.empty_append];exact hy
 rw[Af,Oper.uponIn_round];refine⟨zdR,roundIn_of_wpIn (F:=FW ro) trivial ?_⟩;have R1:=R.bare.relabel (st':= .enter) hk (fun _ _ h=>h.1)
 have E:Evo w A μ s.heap w A μ (upd s.heap k (some (.loop env ps (.round ca cb) .enter))):=by
  refine⟨fun r h=>rfl,fun _ h=>h,fun q o h=> ?_,fun q x hq=>hq⟩
  by_cases e:q=k
  ·subst e;rw[hk]at h;cases h;exact⟨.loop env ps (.round ca cb) .enter,by simp,trivial,fun _=>rfl⟩
  ·exact⟨o,by rw[zaa _ _ e];exact h,O.le_refl o,fun _=>rfl⟩
 have H6:=zg5 (Rp:=fun v x=>zxy w A N.nm μ (upd s.heap k (some (.loop env ps (.round ca cb) .enter))) v x) ps (cl.args.map a.eval).toList vs L.tmps env
  (by rw[Array.length_toList,B7.1,Ac]) Ac Ai (fun i x hi=>let⟨v,hv,hr⟩:=B7.2 i x hi;⟨v,by simpa using hv,hr.evo E⟩) (fun t=>(BY t).evo E)
 have KD:(L.params.zip (cl.args.map a.eval)).foldl (fun tmps (t,a)=>tmps.setIfInBounds t a) L.tmps=(ps.zip (cl.args.map a.eval).toList).foldl (fun(tmps:Array Value) (x:Nat×Value)=>tmps.setIfInBounds x.1 x.2) L.tmps:=by
  rw[C5,<- Array.foldl_toList,Array.toList_zip]
 rw[KD];refine wpIn_mono (Bd L.assign L.tmps.size Gq (μ k) _ A μ lam _ _ (zB8 R1 H6.1 H6.2)) ?_;rintro e1 a1 w1 ⟨rfl,A1,μ1,lam1,Ra⟩
 have hμ1:μ1 k=μ k:=by
  obtain⟨o',AK,_,hm⟩:=Ra.chp k _ hk;have:some o'=some (O.loop env1 ps1 bd1 .enter):=AK.symm.trans Ba;cases this;exact hm rfl
 obtain⟨L1,Of,_,_,_,HV,_,_⟩:=Ra.heap k _ Ba;have KR:=run_beginRound (P:=P) Of HV;rw[hμ1]at KR;refine⟨_,KR,?_⟩;have Rb:=Ra.setLoop (st':= .busy) Ba Of .busy L1.pending rfl;rw[hμ1]at Rb;refine wpIn_mono (C6 L.body L.tmps.size F1 (μ k) _ A1 μ1 lam1 _ _ Rb) ?_;rintro e' a' w' ⟨rfl,A',μ',lam',R'⟩;have R2:=zg8 R'
 have hμ:μ' k=μ k:=by
  obtain⟨o',AK,_,hm⟩:=R2.chp k _ hk;have:some o'=some (O.loop env' ps' bd' .busy):=AK.symm.trans AX;cases this;exact hm rfl
 obtain⟨L',He,_⟩:=R2.heap k _ AX;have CF:=run_endRound (P:=P) e.jump He;have R3:=R2.setLoop AX He _ _ e.toL_rel;obtain⟨_,R4⟩:=R.back R3;have R5:=R4.put o.dst { val:=.t (.bool (decide (e=Ex.normal))) } (.bool e.jump.isNone) hd AI rfl rfl rfl (by rw[e.jump_none];exact(RepC.t (.bool _)).toV) (by simp);rw[hμ]at CF
 cases e with
 | normal=>exact⟨_,_,CF,A',μ',lam,by rw[<- hμ];exact R5⟩
 | exit id=>exact⟨_,_,CF,A',μ',lam,by rw[<- hμ];exact R5⟩
 | ret=>exact⟨_,_,CF,A',μ',lam,by rw[<- hμ];exact R5⟩
theorem zh9 (hI:I.Ok N) (R:Rel N c ns A μ lam s a w) {f:Operand} {x:Opd} {ps:Array Nat} {asg body:Code} {ca cb bd':C} {fv:V} {g:Nat} {as bs:List V} {rf:Func} {r:V} {h':Nat->Option O} {n':Nat}
 {env':Nat->V} {ps':List Nat} {st:LSt} {e:Ex} (hf:opd I f=some x) (An:evl N.G s x=some fv) (Au:zze fv=some (g,as,bs)) (Am:Real P (N.nm g) rf) (Bd:N.cr asg ns ca) (F1:N.cr body ns cb) (Ai: ∀t∈ps.toList,t<ns)
 (hc:zhR P N g (as++[.yl s.nxt]++bs) (upd s.heap s.nxt (some (.loop s.env ps.toList (.round ca cb) .ready))) (s.nxt+1) r h' n')
 (hl:h' s.nxt=some (.loop env' ps' bd' st)) (he:st.ends=some e):
 (Code.rangeFunc f ps asg body).wpIn (FW none) 0 P (zCr N c ns e { s with heap:=upd h' s.nxt (some .dead),nxt:=n' }) a w:=by
 refine wpIn_rangeFunc fun fn _=> ?_
 generalize CA:Loop.mk .ready none fn a.tmps ps asg body w.heap.size=rec
 have IO:=run_enterLoop_outer (P:=P) (w:=w) fn a.tmps ps asg body;rw[CA]at IO;have F9:(w.alloc (Obj.deferred (some []))).heap.size=w.heap.size+1:=by simp
 generalize C4:(w.alloc (Obj.deferred (some []))).alloc (.loop rec)=w2 at IO
 have BO: ∀q,q<w.heap.size->w2.heap[q]? =w.heap[q]? :=by
  intro q hq;rw[<- C4];simp only[World.alloc,Array.getElem?_push,Array.size_push];simp[Nat.ne_of_lt hq,Nat.ne_of_lt (Nat.lt_succ_of_lt hq)]
 have P5:w2.heap[w.heap.size]? =some (Obj.deferred (some [])):=by
  rw[<- C4];simp only[World.alloc,Array.getElem?_push,Array.size_push];simp
 have Cz:w2.heap[w.heap.size+1]? =some (.loop rec):=by
  rw[<- C4,<- F9];exact World.alloc_heap_new _ _
 have Ra:=R.alloc (Obj.deferred (some []));have Rb:Rel N c ns A μ lam s a w2:=by rw[<- C4];exact Ra.alloc _
 have Rm:Rel N c ns A μ lam { s with nxt:=s.nxt+1 } a w2:={ Rb with fresh:=fun k h=>Rb.fresh k (by simp only at h;omega) }
 have CQ:Orphan c A μ lam { s with nxt:=s.nxt+1 } (w.heap.size+1):=by
  have:=Ra.orphan_new;rw[F9]at this;exact⟨this.a,this.l,this.h,this.x⟩
 have FO:zkf w2 A N μ s.heap (w.heap.size+1) (.loop s.env ps.toList (.round ca cb) .ready):=by
  refine⟨rec,Cz,by rw[<- CA],⟨ca,cb,rfl,by rw[<- CA];simp only;rw[R.size];exact Bd⟩,⟨ca,cb,rfl,by rw[<- CA];simp only;rw[R.size];exact F1⟩,by rw[<- CA];exact⟨rfl,rfl⟩,by rw[<- CA];simp only;rw[R.size];exact Ai,fun t=> ?_⟩;rw[<- CA];exact Rb.env t
 have Rd:=Rm.adoptH (k:=s.nxt) (R.fresh _ (Nat.le_refl _)) (Nat.lt_succ_self _) CQ FO (by simp)
 have AQ:evl N.G { s with heap:=upd s.heap s.nxt (some (.loop s.env ps.toList (.round ca cb) .ready)),nxt:=s.nxt+1 } x=some fv:=by
  cases x<;>exact An
 obtain⟨va,vb,hv,ha,Bi⟩:=zjb (zxc hI Rd hf AQ) Au
 have Iv:zyJ c A w2 ({ target:=.collected w.heap.size,args:= #[] }::a.defers):=by
  obtain⟨rs,g1,g2,g3⟩:=R.defers;have Ai: ∀r∈rs,r<w.heap.size:=fun r hr=>(Array.getElem?_eq_some_iff.1 (g3 r hr).1).1
  refine⟨w.heap.size::rs,List.nodup_cons.2 ⟨fun h=>Nat.lt_irrefl _ (Ai _ h),g1⟩,by rw[List.map_cons,<- g2],fun r hr=> ?_⟩;rcases List.mem_cons.1 hr with rfl | hr
  ·exact⟨P5,fun h=>Nat.lt_irrefl _ (R.alt _ h),R.csize⟩
  ·obtain⟨q1,q2,q3⟩:=g3 r hr;exact⟨by rw[BO r (Ai r hr)];exact q1,q2,q3⟩
 have Re:Rel N c ns A (upd μ s.nxt (w.heap.size+1)) lam { s with heap:=upd s.heap s.nxt (some (.loop s.env ps.toList (.round ca cb) .ready)),nxt:=s.nxt+1 } { a with defers:={ target:=.collected w.heap.size,args:= #[] }::a.defers } w2:=
  { Rd with defers:=Iv }
 have hy:zaZ w2 A N.nm (upd μ s.nxt (w.heap.size+1)) (upd s.heap s.nxt (some (.loop s.env ps.toList (.round ca cb) .ready))) #[.func (.yield (w.heap.size+1)) #[] #[]] [.yl s.nxt]:=by
  refine⟨rfl,fun i z hi=> ?_⟩
  cases i with
  | succ i=>simp at hi
  | zero=>
    simp only[List.getElem?_cons_zero,zA]at hi;subst hi;refine⟨_,rfl,RepC.toV ?_⟩;have:=RepC.yl (w:=w2) (A:=A) (nm:=N.nm) (μ:=upd μ s.nxt (w.heap.size+1)) (H:=upd s.heap s.nxt (some (.loop s.env ps.toList (.round ca cb) .ready))) s.nxt s.env ps.toList (.round ca cb) .ready (by simp);rwa[zxg]at this
 have BL:=hc _ A (upd μ s.nxt (w.heap.size+1)) lam w2 _ Re.bare ((ha.append hy).append Bi);have Hb:rf.body.isNone=false:=by have:=Am.b;cases h:rf.body<;>simp_all
 have hn:=Am.n;refine⟨w.heap.size+1,[{ target:=.collected w.heap.size,args:= #[] }],w2,{ target:=.fn (.func (N.nm g)) vb,args:=va++ #[.func (.yield (w.heap.size+1)) #[] #[]] },w2,N.nm g,_,w2,IO,?_,fun _ _=>trivial,?_,zdR,zgE (BL.mono ?_)⟩
 ·have MY:a.eval (.const (.func (.yield (w.heap.size+1)) #[] #[]))= .func (.yield (w.heap.size+1)) #[] #[]:=rfl;simp only[resolve,hv,Deferred.ofValue,List.map_toArray,List.map_cons,List.map_nil,MY,Sem.run_pure]
 ·simp only[invoke,callFunc,run_program,Am.f,hn,Hb,Sem.run_bind,Sem.run_pure,Result.andThen_ok,zG,if_false]
 ·rintro e' w' ⟨v,A',μ',lam',rfl,R',_⟩;obtain⟨_,R1⟩:=Re.back R'
  have hμ:μ' s.nxt=w.heap.size+1:=by
   obtain⟨o',AK,_,hm⟩:=R'.chp s.nxt _ (zxg _ _ _);have:some o'=some (O.loop env' ps' bd' st):=AK.symm.trans hl;cases this;rw[hm rfl];exact zxg _ _ _
  obtain⟨L',He,_,_,_,D7,_,_⟩:=R1.heap s.nxt _ hl
  have hb:L'.state≠ .busy:=by
   cases st with
   | ready=>rw[D7.1];simp
   | enter=>simp[LSt.ends]at he
   | busy=>simp[LSt.ends]at he
   | done e0=>cases e0 with
     | normal=>exact D7.elim
     | exit id=>rw[D7.1];simp
     | ret=>rw[D7.1];simp
  have CF:=run_endLoop (P:=P) He hb;have CQ:=R1.orphan_kill hl rfl (by simp);have R2:=R1.kill hl
  have Rf:Rel N c ns A' μ' lam { s with heap:=upd h' s.nxt (some .dead),nxt:=n' } { a with defers:={ target:=.collected w.heap.size,args:= #[] }::a.defers } (w'.putObj (μ' s.nxt) (.loop { L' with state:=.exhausted })):=by
   refine R2.world (by simp) ?_ ?_ (fun q x hq=>zed _ He q x hq) (R2.defers.evo (fun r h=>World.putObj_heap_other (fun e=>by subst e;rw[He]at h;simp at h)) (fun _ _ h=>h))
   ·rintro r (h | ⟨t,h,rfl⟩ | ⟨k,o',h,Fb,rfl⟩)
    ·exact World.putObj_heap_other (fun e=>CQ.a (e▸h))
    ·exact World.putObj_heap_other (CQ.l t h)
    ·exact World.putObj_heap_other (CQ.h k o' h Fb)
   ·intro r h1 h2;refine World.putObj_heap_other (fun e=> ?_);subst e;rcases CQ.x with h | h
    ·exact h2 h
    ·omega
  rw[hμ]at CF Rf
  generalize w'.putObj (w.heap.size+1) (.loop { L' with state:=.exhausted })=w4 at CF Rf
  refine⟨L'.pending,w4,CF,?_⟩
  cases st with
  | ready=>
    simp only[LSt.ends,zA]at he;subst he;rw[D7.2]
    exact⟨rfl,A',μ',lam,Rf⟩
  | enter=>simp[LSt.ends]at he
  | busy=>simp[LSt.ends]at he
  | done e0=>
    simp only[LSt.ends,zA]at he;subst he
    cases e0 with
    | normal=>exact D7.elim
    | exit id=>
      rw[D7.2]
      exact wpIn_exit ⟨rfl,A',μ',lam,Rf⟩
    | ret=>
      rw[D7.2];exact wpIn_ret ⟨rfl,A',μ',lam,Rf⟩
theorem ze0 {fn:Func} {tmps:Array Value} {Rr:Ending->World->Prop} (hw: ∀w',Rel N c ns A μ lam s { tmps:=tmps,defers:=[] } w'->LeavesIn (FW none) 0 P fn tmps Rr [] .returning w'):
 ∀(rs:List Nat) (w:World),rs.Nodup->(∀r∈rs,w.heap[r]? =some (Obj.deferred (some []))/\ ¬A r/\c.w0.heap.size<=r)->Rel N c ns A μ lam s { tmps:=tmps,defers:=[] } w->
  LeavesInM (FW none) 0 P fn tmps Rr (rs.map fun r=>{ target:=.collected r,args:= #[] }) .returning w
 | [],w,_,_,R=>hw w R
 | r::rs,w,Cs,h,R=>by
   obtain⟨h1,h2,h3⟩:=h r List.mem_cons_self;obtain⟨n1,n2⟩:=List.nodup_cons.1 Cs;refine⟨by simp,.inl ⟨r,w.putObj r (.deferred none),rfl,run_takeDeferred h1,ze0 hw rs _ n2 (fun q hq=> ?_) ?_⟩⟩
   ·obtain⟨q1,q2,q3⟩:=h q (List.mem_cons_of_mem _ hq);have Ie:q≠r:=fun e=>n1 (e▸hq)
    exact⟨by rw[World.putObj_heap_other Ie];exact q1,q2,q3⟩
   ·refine R.world (by simp) ?_ ?_ ?_ (zyJ.nil _ _ _)
    ·rintro q (g | ⟨t,g,rfl⟩ | ⟨k,o',g,Fb,rfl⟩)
     ·exact World.putObj_heap_other (fun e=>h2 (e▸g))
     ·exact World.putObj_heap_other (fun e=>R.ndef_loc g (e▸h1))
     ·exact World.putObj_heap_other (fun e=>R.ndef g Fb (e▸h1))
    ·intro q g1 _;exact World.putObj_heap_other (by omega)
    ·intro q x hq
     by_cases e:q=r
     ·subst e;simp[World.shape?,h1]at hq
     ·simpa[World.shape?,World.putObj_heap_other e]using hq
theorem zdO {g:Nat} {rf:Func} {body:Code} {args:Array Value} {Rr:Ending->World->Prop} (hf:P.funcs[g]? =some rf) (hb:rf.body=some body) {ex:Ex} {s':St} (hx: ∀id,ex≠ .exit id)
 (h:body.wpIn (FW none) 0 P (zCr N c ns ex s') { tmps:=args++Array.replicate (rf.ntmps-args.size) undef,defers:=[] } w)
 (hR: ∀A μ lam tmps w',Rel N c ns A μ lam s' { tmps:=tmps,defers:=[] } w'-> ∃v,(results rf tmps).run P w'= .ok v w'/\Rr (.returned v) w'):
 Calls P g args w Rr:=by
 refine(callsIn_wide (n:=0)).1 (callsIn_of_wp_marks (F:=FW none) hf hb trivial (wpIn_mono h ?_));rintro e' a' w' ⟨rfl,A',μ',lam',R'⟩;obtain⟨rs,g1,g2,g3⟩:=R'.defers;have R'':Rel N c ns A' μ' lam' s' { tmps:=a'.tmps,defers:=[] } w':= { R' with defers:=zyJ.nil _ _ _ };have BR:=ze0 (P:=P) (fn:=rf) (Rr:=Rr) (fun w'' R=>hR A' μ' lam' a'.tmps w'' R) rs w' g1 g3 R'';rw[<- g2]at BR
 cases ex with
 | normal=>exact BR
 | ret=>exact BR
 | exit id=>exact absurd rfl (hx id)
end
end Rg
end
section
namespace Rg
open Go
section
variable (P:Program) (I:Inv)
def zch (ops:Array Oper) (ns:Nat):Option (Nat×Bool)->Option (Option (Nat×Bool))
 | none=>some none
 | some (j,want)=>match(ops[j]?).bind (·.dst)with
   | some d=>if d<ns then some (some (d,want))else none
   | none=>none
def zpT (ns:Nat):Option Nat->Bool
 | none=>true
 | some d=>decide (d<ns)
def zAt:AOp->Bool
 | .faddrL _ _=>true
 | .iaddrAL _ _ _ _=>true
 | _=>false
def isCall:AOp->Bool
 | .call _ _ _=>true
 | .fcall _ _=>true
 | _=>false
structure Raws where
 fns:List Nat
 slots:List Nat
 own:List Nat:=[]
def Raws.raw (r:Raws) (dst:Option Nat):Opd->Bool
 | .c (.t (.fn k _ _))=>r.fns.contains k
 | _=>match dst with
   | some d=>r.slots.contains d
   | none=>true
def Raws.fresh (r:Raws):Opd->Bool
 | .c (.t (.fn k _ _))=>r.own.contains k
 | _=>false
def zb8 (rw:Raws) (isL:Nat->Bool) (dst:Option Nat) (op:Op):Option AOp:=
 match op with
 | .call c=>match c.callee with
   | .value f=>do
     let f<- opd I f
     let args<- opds I c.args
     some (if rw.fresh f then .fcall f args else .call (rw.raw dst f) f args)
   | _=>do
     let x<- zaG P I isL dst op
     if isCall x then none else some x
 | _=>do
   let x<- zaG P I isL dst op
   if isCall x then none else some x
def zdu (rw:Raws) (L:List Nat) (ns:Nat) (ops:Array Oper):List Nat->List Oper->Option (List ROp)
 | _,[]=>some []
 | adrs,o::os=>do
   let op<- zb8 P I rw (fun t=>L.contains t||adrs.contains t) o.dst o.op
   let g<- zch ops ns o.guard
   let rest<- zdu rw L ns ops (if zAt op then o.dst.toList++adrs else adrs) os
   if zpT ns o.dst then some ({ guard:=g,dst:=o.dst,op:=op }::rest)else none
structure OpRel (ns:Nat) (ops:Array Oper) (o:Oper) (r:ROp):Prop where
 dst:r.dst=o.dst
 op: ∃rw isL,zb8 P I rw isL o.dst o.op=some r.op
 lt: ∀x,o.dst=some x->x<ns
 guard:zch ops ns o.guard=some r.guard
theorem zcR {rw:Raws} {L:List Nat} {ns:Nat} {ops:Array Oper}: ∀{os:List Oper} {adrs:List Nat} {l:List ROp},zdu P I rw L ns ops adrs os=some l->
 os.length=l.length/\ ∀(i:Nat) (r:ROp),l[i]? =some r-> ∃o,os[i]? =some o/\OpRel P I ns ops o r
 | [],adrs,l,h=>by simp[zdu]at h;subst h;simp
 | o::os,adrs,l,h=>by
   simp only[zdu,zC,zB]at h;obtain⟨op,Ao,g,hg,rest,C9,h⟩:=h;split at h
   ·rename_i hd;simp only[zA]at h;subst h;obtain⟨h1,h2⟩:=zcR C9;refine⟨by simp[h1],fun i r hi=> ?_⟩
    cases i with
    | zero=>
      simp at hi;subst hi;refine⟨o,rfl,rfl,⟨_,_,Ao⟩,fun x hx=> ?_,hg⟩
      simp[zpT,hx]at hd;exact hd
    | succ i=>simp at hi;simpa using h2 i r hi
   ·simp at h
end
theorem zcc {N:Nam} {c:Ctx} {ns:Nat} {A:Nat->Prop} {μ lam:Nat->Nat} {s:St} {a:Act} {w:World} (R:Rel N c ns A μ lam s a w) {ops:Array Oper} {o:Oper} {g:Option (Nat×Bool)} {b:Bool}
 (hg:zch ops ns o.guard=some g) (hw:zxW s g=some b):Region.wanted o (yielded ops a.tmps)=b:=by
 unfold zch at hg;split at hg
 ·rename_i hn;simp only[zA]at hg;subst hg;simp only[zxW,zA]at hw;subst hw;simp[Region.wanted,hn]
 ·rename_i j want hj;split at hg
  ·rename_i d hd;split at hg
   ·rename_i Ai;simp only[zA]at hg;subst hg;have he:=R.env d
    have Ae:a.tmps[d]? =some (a.tmps.getD d undef):=by
     have:d<a.tmps.size:=by rw[R.size];exact Ai
     rw[Array.getD_eq_getD_getElem?,Array.getElem?_eq_getElem this];rfl
    simp only[zxW]at hw;simp only[Region.wanted,hj,yielded,hd,zD];split at hw
    ·rename_i b' hb;rw[hb]at he;simp only[zA]at hw;subst hw;rw[Ae,he.bool_inv];cases b'<;>cases want<;>rfl
    ·rename_i hb;rw[hb]at he;simp only[zA]at hw;subst hw;rw[Ae,show a.tmps.getD d undef=undef from he];rfl
    ·simp at hw
   ·simp at hg
  ·simp at hg
theorem zlp {G:Nat->List T} {p:Nat} {s:St} {op:AOp} {e:Eff} (h:zw4 G p s op=some e): ∀x∈e.hp,x.1=s.bas+p\/(s.heap x.1).isSome=true:=by
 intro x hx;cases op
 all_goals simp only[zw4,zC,zB,zA,Prod.exists]at h
 all_goals(try(repeat(first | (obtain⟨_,_,h⟩:=h) | split at h | (simp only[zB,zA]at h))))
 all_goals(try(repeat(first | (obtain⟨_,_,h⟩:=h) | split at h | (simp only[zB,zA]at h))))
 all_goals(try(repeat(first | (obtain⟨_,_,h⟩:=h) | split at h | (simp only[zB]at h))))
 all_goals(try(repeat(first | (obtain⟨_,_,h⟩:=h) | split at h | (simp only[zB]at h))))
 all_goals(try(simp at h;done))
 all_goals(try(subst h;simp at hx;done))
 all_goals(try subst h)
 all_goals(try(simp at hx;done))
 all_goals(try(simp at h;done))
 all_goals(try(simp only[List.mem_cons,List.not_mem_nil,or_false]at hx))
 all_goals(try(rcases hx with rfl | rfl<;>simp[*];done))
 all_goals(try(subst hx;simp[*];done))
inductive StepG (P:Program) (N:Nam) (d:Bool) (p:Nat) (o:ROp) (s:St):St->Prop where
 | skip (hw:zxW s o.guard=some false) (hf:s.free o.dst {}):StepG P N d p o s (s.apply o.dst {})
 | eff {e:Eff} (hw:zxW s o.guard=some true) (hf:s.free o.dst e) (he:zw4 N.G p s o.op=some e):StepG P N d p o s (s.apply o.dst e)
 | pure {f:Opd} {args:List Opd} {fv:V} {g:Nat} {a b vs rs:List V} {r:V} {rf:Func} (hw:zxW s o.guard=some true) (hf:s.free o.dst {}) (ho:o.op= .call false f args) (An:evl N.G s f=some fv)
    (Au:zze fv=some (g,a,b)) (Am:Real P (N.nm g) rf) (Aq:zzo N.G s args=some vs) (AA:(a++vs++b).mapM (toT1 s.heap)=some rs) (hc:zfl P N g rs r) (hd:d=true->r.scalar=true\/(a++vs++b).flatMap (zxp s.heap)=[]):
    StepG P N d p o s (s.apply o.dst { val:=r,hp:=if r.scalar then []else freezes s.heap ((a++vs++b).flatMap (zxp s.heap)) })
 | raw {f:Opd} {args:List Opd} {fv:V} {g:Nat} {a b vs:List V} {r:V} {rf:Func} {H':Nat->Option O} {n':Nat} (hw:zxW s o.guard=some true) (hf:s.free o.dst {}) (ho:o.op= .call true f args) (An:evl N.G s f=some fv)
    (Au:zze fv=some (g,a,b)) (Am:Real P (N.nm g) rf) (Aq:zzo N.G s args=some vs) (hc:zhR P N g (a++vs++b) s.heap s.nxt r H' n') (hn:s.nxt<=n') (AE: ∀k,k<s.nxt->s.heap k=none->H' k=none):
    StepG P N d p o s ({ s with heap:=H',nxt:=n' }.apply o.dst { val:=r })
 | fresh {f:Opd} {args:List Opd} {fv:V} {g:Nat} {a b vs rs:List V} {r:V} {rf:Func} {H':Nat->Option O} {n':Nat} {e:Eff} (hw:zxW s o.guard=some true) (hf:s.free o.dst {}) (ho:o.op= .fcall f args) (An:evl N.G s f=some fv)
    (Au:zze fv=some (g,a,b)) (Am:Real P (N.nm g) rf) (Aq:zzo N.G s args=some vs) (AA:(a++vs++b).mapM (toT1 s.heap)=some rs) (hd:(a++vs++b).flatMap (zxp s.heap)=[])
    (hc:zhR P N g rs (fun _=>none) 0 r H' n') (he:zBy (s.bas+p) r H'=some e):StepG P N d p o s (s.apply o.dst e)
 | yld {f:Opd} {args:List Opd} {k:Nat} {vs:List V} {env env1 env':Nat->V} {ps ps1 ps':List Nat} {ca cb bd1 bd':C} {e:Ex} {s1 s2:St} (hw:zxW s o.guard=some true) (hf:s.free o.dst {}) (ho:o.op= .call true f args)
    (An:evl N.G s f=some (.yl k)) (hk:s.heap k=some (.loop env ps (.round ca cb) .ready)) (Aq:zzo N.G s args=some vs) (Ac:vs.length=ps.length) (Bd:zf7 P N ca (zzg s.heap s.nxt k env ps (.round ca cb) vs) .normal s1)
    (Ba:s1.heap k=some (.loop env1 ps1 bd1 .enter)) (C6:zf7 P N cb { s1 with heap:=upd s1.heap k (some (.loop env1 ps1 bd1 .busy)) } e s2)
    (AX:s2.heap k=some (.loop env' ps' bd' .busy)) (AE:s.nxt<=s2.nxt/\ ∀k',k'<s.nxt->s.heap k'=none->s2.heap k'=none):
    StepG P N d p o s ({ s with heap:=upd s2.heap k (some (.loop env' ps' bd' e.toL)),nxt:=s2.nxt }.apply o.dst { val:=.t (.bool (decide (e=Ex.normal))) })
section
variable {P:Program} {N:Nam} {I:Inv} {c:Ctx} {d:Bool} {ns p:Nat} {A:Nat->Prop} {μ lam:Nat->Nat} {s s' : St} {a:Act} {w:World} {e:Eff} {o:Oper} {ro:Option Nat} {r:ROp} {ops:Array Oper}
theorem zjj {rw:Raws} {isL:Nat->Bool} {dst:Option Nat} {op:Op} {x:AOp} (hx:isCall x=true) (h:zb8 P I rw isL dst op=some x):
 ∃cl f0 f args,op= .call cl/\cl.callee= .value f0/\opd I f0=some f/\opds I cl.args=some args/\(x= .fcall f args\/ ∃b,x= .call b f args):=by
 have Bs: ∀{y:Option AOp},(do let z<- y;if isCall z then none else some z)=some x->False:=by
  intro y hy;simp only[zC,zB]at hy;obtain⟨z,_,hz⟩:=hy;split at hz
  ·simp at hz
  ·rename_i hc;simp only[zA]at hz;subst hz;exact hc hx
 unfold zb8 at h;split at h
 ·rename_i cl;split at h
  ·rename_i f0 hb;simp only[zC,zB,zA]at h;obtain⟨f1,G4,as,Da,h⟩:=h;refine⟨cl,f0,f1,as,rfl,hb,G4,Da,?_⟩;split at h
   ·exact .inl h.symm
   ·exact .inr ⟨_,h.symm⟩
  ·exact(Bs h).elim
 ·exact(Bs h).elim
theorem zfe {rw:Raws} {isL:Nat->Bool} {dst:Option Nat} {op:Op} {b:Bool} {f:Opd} {args:List Opd} (h:zb8 P I rw isL dst op=some (.call b f args)):
 ∃cl f0,op= .call cl/\cl.callee= .value f0/\opd I f0=some f/\opds I cl.args=some args:=by
 obtain⟨cl,f0,f1,as1,h1,h2,h3,h4,hx⟩:=zjj rfl h;rcases hx with hx | ⟨b',hx⟩
 ·simp at hx
 ·simp only[AOp.call.injEq]at hx;obtain⟨_,rfl,rfl⟩:=hx;exact⟨cl,f0,h1,h2,h3,h4⟩
theorem zj5 {rw:Raws} {isL:Nat->Bool} {dst:Option Nat} {op:Op} {f:Opd} {args:List Opd} (h:zb8 P I rw isL dst op=some (.fcall f args)):
 ∃cl f0,op= .call cl/\cl.callee= .value f0/\opd I f0=some f/\opds I cl.args=some args:=by
 obtain⟨cl,f0,f1,as1,h1,h2,h3,h4,hx⟩:=zjj rfl h;rcases hx with hx | ⟨b',hx⟩
 ·simp only[AOp.fcall.injEq]at hx;obtain⟨rfl,rfl⟩:=hx;exact⟨cl,f0,h1,h2,h3,h4⟩
 ·simp at hx
theorem zCH {G:Nat->List T} {rw:Raws} {isL:Nat->Bool} {dst:Option Nat} {op:Op} {x:AOp} (h:zb8 P I rw isL dst op=some x) (he:zw4 G p s x=some e):zaG P I isL dst op=some x:=by
 have J4: ∀{y:Option AOp},(do let x<- y;if isCall x then none else some x)=some x->y=some x:=by
  intro y hy;simp only[zC,zB]at hy;obtain⟨z,hz,hx⟩:=hy;split at hx
  ·simp at hx
  ·simp only[zA]at hx;subst hx;exact hz
 unfold zb8 at h;split at h
 ·split at h
  ·simp only[zC,zB,zA]at h;obtain⟨f1,G4,as,Da,h⟩:=h;split at h<;>(subst h;simp[zw4]at he)
  ·exact J4 h
 ·exact J4 h
theorem zgP {K K':Act->World->Prop} {Q:Exit->Act->World->Prop} (h:o.wpIn (FW ro) 0 P a w K Q) (hk: ∀a w,K a w->K' a w):o.wpIn (FW ro) 0 P a w K' Q:=by
 obtain⟨h0,h⟩:=h;refine⟨h0,?_⟩
 generalize(o.semAt (FW ro).round a.eval).run P w=r at *
 unfold Oper.uponIn at *;split at h
 ·exact hk _ _ h
 ·exact hk _ _ h
 ·exact hk _ _ h
 ·refine⟨h.1,h.2.mono ?_⟩;intro e w' he;split at he
  ·exact hk _ _ he
  ·exact he
  ·exact he
 ·exact⟨h.1,h.2.mono fun v w' he=>hk _ _ he⟩
 ·refine⟨h.1,h.2.mono ?_⟩;intro e w' he;split at he
  ·exact hk _ _ he
  ·exact he
  ·exact he
 ·exact h
 ·exact h.elim
theorem zCn {rw:Raws} {isL:Nat->Bool} {dst:Option Nat} {op:Op} {x:AOp} (h:zb8 P I rw isL dst op=some x): ∀cl,op≠ .defer cl:=by
 rintro cl rfl;simp[zb8,zaG]at h
theorem zdV (hI:I.Ok N) (AB:StepG P N d p r s s') (hr:OpRel P I ns ops o r) (R:Rel N c ns A μ lam s a w) (hk:s.heap (s.bas+p)=none) (hn:s.bas+p<s.nxt) (Q:Exit->Act->World->Prop):
 if Region.wanted o (yielded ops a.tmps)then o.wpIn (FW ro) 0 P a w (fun a' w'=> ∃A' μ' lam',Rel N c ns A' μ' lam' s' a' w') Q
 else ∃A' μ' lam',Rel N c ns A' μ' lam' s' (a.put o.dst undef) w:=by
 have AD:=hr.dst
 cases AB with
 | skip hw hf=>
   rw[zcc R hr.guard hw,if_neg (by simp),AD]at *
   exact⟨A,μ,lam,R.put o.dst {} undef hr.lt hf rfl rfl rfl rfl (by simp)⟩
 | eff hw hf he=>
   rw[zcc R hr.guard hw,if_pos rfl,AD]at *;obtain⟨rw',isL,Ao⟩:=hr.op;obtain⟨v,w',A',μ',lam',Af,R'⟩:=zlL hI R (zCH Ao he) he hr.lt hf hk hn;refine⟨fun _ _=>trivial,?_⟩;rw[o.semAt_eq _ _ (zCn Ao)];rcases Af with h | ⟨h,rfl⟩
   ·rw[h];exact⟨A',μ',lam',R'⟩
   ·rw[h];exact⟨A',μ',lam',R'⟩
 | pure hw hf ho An Au Am Aq AA hc _=>
   rw[zcc R hr.guard hw,if_pos rfl,AD]at *;obtain⟨rw',isL,Ao⟩:=hr.op;rw[ho]at Ao;obtain⟨cl,f0,h1,h2,h3,h4⟩:=zfe Ao
   exact zkR hI R h1 h2 h3 h4 An Au Am Aq AA hc hr.lt hf
 | raw hw hf ho An Au Am Aq hc hn AE=>
   rw[zcc R hr.guard hw,if_pos rfl,AD]at *;obtain⟨rw',isL,Ao⟩:=hr.op;rw[ho]at Ao;obtain⟨cl,f0,h1,h2,h3,h4⟩:=zfe Ao
   exact zmG hI R h1 h2 h3 h4 An Au Am Aq hc hr.lt hf
 | fresh hw hf ho An Au Am Aq AA hd hc he=>
   rw[zcc R hr.guard hw,if_pos rfl,AD]at *;obtain⟨rw',isL,Ao⟩:=hr.op;rw[ho]at Ao;obtain⟨cl,f0,h1,h2,h3,h4⟩:=zj5 Ao
   exact zjU hI R h1 h2 h3 h4 An Au Am Aq AA hd hc he hr.lt hf hk hn
 | yld hw hf ho An A7 Aq Ac Bd Ba C6 AX AE=>
   rw[zcc R hr.guard hw,if_pos rfl,AD]at *;obtain⟨rw',isL,Ao⟩:=hr.op;rw[ho]at Ao;obtain⟨cl,f0,h1,h2,h3,h4⟩:=zfe Ao;exact zjs hI R h1 h2 h3 h4 An A7 Aq Ac Bd Ba C6 AX hr.lt hf
theorem StepG.free (AB:StepG P N d p r s s'):s'.bas=s.bas/\s.nxt<=s'.nxt/\ ∀k,k<s.nxt->k≠s.bas+p->s.heap k=none->s'.heap k=none:=by
 have LW: ∀(l:List (Nat×O)) (h:Nat->Option O) (k:Nat),(∀x∈l,x.1≠k)->zxu h l k=h k:=by
  intro l
  induction l with
  | nil=>intro h k _;rfl
  | cons x l ih=>
    intro h k hx;obtain⟨q,o⟩:=x;simp only[zxu];rw[ih _ k (fun y hy=>hx y (List.mem_cons_of_mem _ hy)),zaa _ _ (Ne.symm (hx (q,o) (List.mem_cons_self)))]
 cases AB with
 | skip=>exact⟨rfl,Nat.le_refl _,fun k _ _ h=>h⟩
 | eff hw hf he=>
   refine⟨rfl,Nat.le_refl _,fun k hk A8 h=> ?_⟩;show zxu s.heap _ k=none;rw[LW,h];intro x hx e;rcases zlp he x hx with h1 | h1
   ·exact A8 (e▸h1)
   ·rw[e,h]at h1;simp at h1
 | pure hw hf ho An Au Am Aq AA hc _=>
   refine⟨rfl,Nat.le_refl _,fun k hk A8 h=> ?_⟩;show zxu s.heap _ k=none;rw[LW,h];intro x hx e;split at hx
   ·simp at hx
   ·simp only[freezes,List.mem_filterMap]at hx;obtain⟨q,_,hq⟩:=hx;split at hq
    ·rename_i Jn;simp only[zA]at hq;subst hq;simp only at e;subst e;rw[h]at Jn;simp at Jn
    ·simp at hq
 | raw hw hf ho An Au Am Aq hc hn AE=>exact⟨rfl,hn,fun k hk _ h=>AE k hk h⟩
 | fresh hw hf ho An Au Am Aq AA hd hc he=>
   refine⟨rfl,Nat.le_refl _,fun k hk A8 h=> ?_⟩;show zxu s.heap _ k=none;rw[LW,h];intro x hx e
   exact A8 (e▸(zAM he x hx))
 | yld hw hf ho An A7 Aq Ac Bd Ba C6 AX AE=>
   rename_i f args k vs env env1 env' ps ps1 ps' ca cb bd1 bd' e s1 s2;refine⟨rfl,AE.1,fun q hq _ h=> ?_⟩;have h2:=AE.2 q hq h;show upd s2.heap k _ q=none;rw[zaa];exact h2;rintro rfl;rw[A7]at h;cases h
inductive Run (P:Program) (N:Nam) (d:Bool) (l:List ROp):List Nat->St->St->Prop where
 | nil {s:St}:Run P N d l [] s s
 | cons {i:Nat} {is:List Nat} {s s1 s2:St} {r:ROp} (hr:l[i]? =some r) (h1:StepG P N d i r s s1) (h2:Run P N d l is s1 s2):Run P N d l (i::is) s s2
theorem zkD (hI:I.Ok N) {l:List ROp} (hl:ops.toList.length=l.length/\ ∀(i:Nat) (r:ROp),l[i]? =some r-> ∃o,ops.toList[i]? =some o/\OpRel P I ns ops o r) (Q:Exit->Act->World->Prop):
 ∀{is:List Nat} {s s':St} {A:Nat->Prop} {μ lam:Nat->Nat} {a:Act} {w:World},Run P N d l is s s'->is.Nodup->(∀i∈is,s.heap (s.bas+i)=none/\s.bas+i<s.nxt)->Rel N c ns A μ lam s a w->
  (∀a' w' A' μ' lam',Rel N c ns A' μ' lam' s' a' w'->Q .normal a' w')->wpOpsIn (FW ro) 0 P ops Q is a w:=by
 intro is
 induction is with
 | nil=>
   intro s s' A μ lam a w Af _ _ R hQ;cases Af
   exact hQ a w A μ lam R
 | cons i is ih=>
   intro s s' A μ lam a w Af Cs B6 R hQ
   cases Af with
   | cons hr h1 h2=>
     rename_i s1 r;obtain⟨o,ho,Ib⟩:=hl.2 i r hr;obtain⟨f1,f2⟩:=B6 i List.mem_cons_self;have hs:=zdV (ro:=ro) hI h1 Ib R f1 f2 Q;obtain⟨g1,g2,g3⟩:=h1.free;have Et:=List.nodup_cons.1 Cs
     have EH: ∀j∈is,s1.heap (s1.bas+j)=none/\s1.bas+j<s1.nxt:=by
      intro j hj;obtain⟨e1,e2⟩:=B6 j (List.mem_cons_of_mem _ hj);rw[g1]
      exact⟨g3 _ e2 (fun e=>Et.1 (by have:j=i:=by omega
                                     exact this▸hj)) e1,by omega⟩
     simp only[Array.getElem?_toList]at ho;simp only[wpOpsIn,ho];split
     ·rename_i hw;rw[if_pos hw]at hs;refine zgP hs ?_;rintro a' w' ⟨A',μ',lam',R'⟩;exact ih h2 Et.2 EH R' hQ
     ·rename_i hw;rw[if_neg hw]at hs;obtain⟨A',μ',lam',R'⟩:=hs;exact⟨fun _ _=>trivial,ih h2 Et.2 EH R' hQ⟩
end
end Rg
end
section
namespace Rg
open Go
def AOp.rdH:AOp->Bool
 | .load _ _ _ | .bstr _ | .nilchk _ | .faddr _ _ | .iaddrS _ _ _ | .iaddrA _ _ _ _ | .slice _ _ _ _ _ | .len _ | .lookup _ _ _ _ _ | .store _ _ _ | .append _ _ _ _ | .copy _ _ _ | .clear _ _ _ | .mapupd _ _ _ _ | .call _ _ _ | .fcall _ _ | .mkfnT _ _=>true
 | _=>false
def AOp.rdL:AOp->Bool
 | .loadL _ _ _ | .storeL _ _ _ | .faddrL _ _ | .iaddrAL _ _ _ _=>true
 | _=>false
def AOp.wrH:AOp->Bool
 | .store _ _ _ | .append _ _ _ _ | .copy _ _ _ | .clear _ _ _ | .mapupd _ _ _ _ | .mkfnT _ _=>true
 | _=>false
def AOp.wrL:AOp->Bool
 | .storeL _ _ _=>true
 | _=>false
def AOp.mkL:AOp->Bool
 | .allocL _ | .boxL _ _=>true
 | _=>false
section
variable {G:Nat->List T} {s u:St}
theorem zaP {x:Opd} (h:evl G s x=evl G u x):zb7 G s x=zb7 G u x:=by simp only[zb7,h]
theorem zcO {x:Opd} (h:evl G s x=evl G u x):zyM G s x=zyM G u x:=by simp only[zyM,h]
theorem zaY: ∀{l:List Opd},(∀x∈l,evl G s x=evl G u x)->zzo G s l=zzo G u l
 | [],_=>rfl
 | x::l,h=>by
   simp only[zzo,h x List.mem_cons_self,zaY (fun y hy=>h y (List.mem_cons_of_mem _ hy))]
theorem zct {d:Nat} {x:Option Opd} (h: ∀y∈x.toList,evl G s y=evl G u y):zb6 G s d x=zb6 G u d x:=by
 cases x with
 | none=>rfl
 | some y=>simp only[zb6,zaP (h y (by simp))]
theorem zcN: ∀{l:List (Nat×Nat×Opd)} {cs:List V},(∀x∈l.map (·.2.2),evl G s x=evl G u x)->zaX G cs s l=zaX G cs u l
 | [],_,_=>rfl
 | (a,b,x)::l,cs,h=>by
   have h1:=h x (by simp);have h2: ∀cs,zaX G cs s l=zaX G cs u l:=fun cs=>zcN (fun y hy=>h y (by simp at hy⊢;exact .inr hy))
   simp only[zaX,h1,h2]
theorem zdf: ∀{l:List (Nat×Opd)} {rs:List (List V)} {sz:Nat},(∀x∈l.map (·.2),evl G s x=evl G u x)->zbc G rs sz s l=zbc G rs sz u l
 | [],_,_,_=>rfl
 | (a,x)::l,rs,sz,h=>by
   have h1:=h x (by simp);have h2: ∀rs,zbc G rs sz s l=zbc G rs sz u l:=fun rs=>zdf (fun y hy=>h y (by simp at hy⊢;exact .inr hy))
   simp only[zbc,h1,h2]
theorem zbY {v:V} (h: ∀k∈v.top,s.heap k=u.heap k):zby s v=zby u v:=by
 cases v with
 | ms k i l=>simp only[zby];rw[h k (by simp[V.top])]
 | t x=>cases x<;>rfl
 | _=>rfl
theorem zeZ {v:V} (h: ∀k∈v.top,s.heap k=u.heap k):lenOf s v=lenOf u v:=by
 cases v with
 | ms k i l=>simp only[lenOf];rw[h k (by simp[V.top])]
 | t x=>cases x<;>rfl
 | _=>rfl
theorem zzd {p:Nat} {op:AOp} (Aj: ∀x∈op.opds,evl G s x=evl G u x) (B5: ∀x∈op.opds,zyS s x=zyS u x)
 (Fc:op.rdL=true-> ∀x∈op.opds,∀b o,zyS s x=some (b,o)->s.loc b=u.loc b)
 (Ap:op.rdH=true-> ∀x∈op.opds,∀v,evl G s x=some v-> ∀k∈v.top,s.heap k=u.heap k) (DR:s.bas=u.bas):zw4 G p s op=zw4 G p u op:=by
 cases op with
 | mv x=>simp only[zw4,Aj x (by simp[AOp.opds])]
 | pick c a b=>
   have h1:=zcO (Aj c (by simp[AOp.opds]));have h2:=Aj a (by simp[AOp.opds]);have h3:=Aj b (by simp[AOp.opds]);simp only[zw4,h1]
   congr 1;funext t
   cases t<;>simp[h2,h3]
 | allocL c=>rfl
 | allocH c=>simp only[zw4,DR]
 | allocB=>simp only[zw4,DR]
 | bstr x=>
   simp only[zw4,<- Aj x (by simp[AOp.opds])]
   cases hv:evl G s x with
   | none=>rfl
   | some v=>simp only[zC,zD,zbY (Ap rfl x (by simp[AOp.opds]) v hv)]
 | boxL n x=>simp only[zw4,Aj x (by simp[AOp.opds])]
 | boxH n x=>simp only[zw4,Aj x (by simp[AOp.opds]),DR]
 | build z ps=>simp only[zw4,zcN (s:=s) (u:=u) (l:=ps) Aj]
 | bslice sz len z ps=>simp only[zw4,zdf (s:=s) (u:=u) (l:=ps) Aj,DR]
 | loadL ag n a=>
   simp only[zw4,<- B5 a (by simp[AOp.opds])]
   cases hr:zyS s a with
   | none=>rfl
   | some bo=>obtain⟨b,o⟩:=bo;simp only[zC,zD,Fc rfl a (by simp[AOp.opds]) b o hr]
 | load ag n a=>
   simp only[zw4,<- Aj a (by simp[AOp.opds])]
   cases hv:evl G s a with
   | none=>rfl
   | some v=>
     have:=Ap rfl a (by simp[AOp.opds]) v hv
     cases v with
     | mp k i off=>simp only[zC,zD];rw[this k (by simp[V.top])]
     | ms k i off=>simp only[zC,zD];try rw[this k (by simp[V.top])]
     | t x=>cases x<;>rfl
     | _=>rfl
 | storeL n a v=>
   simp only[zw4,<- B5 a (by simp[AOp.opds]),Aj v (by simp[AOp.opds])]
   cases hr:zyS s a with
   | none=>rfl
   | some bo=>obtain⟨b,o⟩:=bo;simp only[zC,zD,Fc rfl a (by simp[AOp.opds]) b o hr]
 | store n a x=>
   simp only[zw4,<- Aj a (by simp[AOp.opds]),Aj x (by simp[AOp.opds])]
   cases hv:evl G s a with
   | none=>rfl
   | some v=>
     have:=Ap rfl a (by simp[AOp.opds]) v hv
     cases v with
     | mp k i off=>simp only[zC,zD];rw[this k (by simp[V.top])]
     | ms k i off=>simp only[zC,zD];try rw[this k (by simp[V.top])]
     | t x=>cases x<;>rfl
     | _=>rfl
 | nilchk a=>
   simp only[zw4,<- Aj a (by simp[AOp.opds])]
   cases hv:evl G s a with
   | none=>rfl
   | some v=>
     have:=Ap rfl a (by simp[AOp.opds]) v hv
     cases v with
     | mp k i off=>simp only[zC,zD];rw[this k (by simp[V.top])]
     | ms k i off=>simp only[zC,zD];try rw[this k (by simp[V.top])]
     | t x=>cases x<;>rfl
     | _=>rfl
 | bin op x y=>simp only[zw4,Aj x (by simp[AOp.opds]),Aj y (by simp[AOp.opds])]
 | mx mn x y=>simp only[zw4,Aj x (by simp[AOp.opds]),Aj y (by simp[AOp.opds])]
 | eqb n x y=>simp only[zw4,zcO (Aj x (by simp[AOp.opds])),zcO (Aj y (by simp[AOp.opds]))]
 | eqa n ks x y=>simp only[zw4,Aj x (by simp[AOp.opds]),Aj y (by simp[AOp.opds])]
 | un op x=>simp only[zw4,Aj x (by simp[AOp.opds])]
 | conv k x=>simp only[zw4,zaP (Aj x (by simp[AOp.opds]))]
 | mkfn f a b=>simp only[zw4,zaY (s:=s) (u:=u) (l:=a) (fun x hx=>Aj x (by simp[AOp.opds,hx])),zaY (s:=s) (u:=u) (l:=b) (fun x hx=>Aj x (by simp[AOp.opds,hx]))]
 | mkfnT f a=>
   simp only[zw4,<- Aj a (by simp[AOp.opds])]
   cases hv:evl G s a with
   | none=>rfl
   | some v=>
     have:=Ap rfl a (by simp[AOp.opds]) v hv
     cases v with
     | mp k i off=>simp only[zC,zD];rw[this k (by simp[V.top])]
     | ms k i off=>simp only[zC,zD];try rw[this k (by simp[V.top])]
     | t x=>cases x<;>rfl
     | _=>rfl
 | mkslice sz by_ z l c=>simp only[zw4,zaP (Aj l (by simp[AOp.opds])),zaP (Aj c (by simp[AOp.opds])),DR]
 | slice sz x lo hi mx=>
   simp only[zw4,<- Aj x (by simp[AOp.opds])]
   cases hv:evl G s x with
   | none=>rfl
   | some v=>
     have ht:=Ap rfl x (by simp[AOp.opds]) v hv;have h1: ∀d,zb6 G s d hi=zb6 G u d hi:=fun d=>zct (fun y hy=>Aj y (by simp only[AOp.opds];simp at hy⊢;simp[hy]))
     have h2: ∀d,zb6 G s d lo=zb6 G u d lo:=fun d=>zct (fun y hy=>Aj y (by simp only[AOp.opds];simp at hy⊢;simp[hy]))
     simp only[zC,zD,zeZ ht,h1,h2]
     cases mx with
     | none=>
       cases v with
       | ms k i l=>simp only;rw[ht k (by simp[V.top])]
       | t x=>cases x<;>rfl
       | _=>rfl
     | some m=>simp only[zaP (Aj m (by simp[AOp.opds]))]
 | slstr x lo hi=>
   have h1: ∀d,zb6 G s d hi=zb6 G u d hi:=fun d=>zct (fun y hy=>Aj y (by simp only[AOp.opds];simp at hy⊢;simp[hy]))
   have h2: ∀d,zb6 G s d lo=zb6 G u d lo:=fun d=>zct (fun y hy=>Aj y (by simp only[AOp.opds];simp at hy⊢;simp[hy]))
   simp only[zw4,Aj x (by simp[AOp.opds]),h1,h2]
 | faddrL off x=>
   simp only[zw4,<- B5 x (by simp[AOp.opds])]
   cases hr:zyS s x with
   | none=>rfl
   | some bo=>obtain⟨b,o⟩:=bo;simp only[zC,zD,Fc rfl x (by simp[AOp.opds]) b o hr]
 | faddr off a=>
   simp only[zw4,<- Aj a (by simp[AOp.opds])]
   cases hv:evl G s a with
   | none=>rfl
   | some v=>
     have:=Ap rfl a (by simp[AOp.opds]) v hv
     cases v with
     | mp k i off=>simp only[zC,zD];rw[this k (by simp[V.top])]
     | ms k i off=>simp only[zC,zD];try rw[this k (by simp[V.top])]
     | t x=>cases x<;>rfl
     | _=>rfl
 | field ag off n x=>simp only[zw4,Aj x (by simp[AOp.opds])]
 | iaddrS sz x i=>
   simp only[zw4,<- Aj x (by simp[AOp.opds]),zaP (Aj i (by simp[AOp.opds]))]
   cases hv:evl G s x with
   | none=>rfl
   | some v=>
     have:=Ap rfl x (by simp[AOp.opds]) v hv
     cases v with
     | mp k i off=>simp only[zC,zD];try rw[this k (by simp[V.top])]
     | ms k i off=>simp only[zC,zD];try rw[this k (by simp[V.top])]
     | t x=>cases x<;>rfl
     | _=>rfl
 | iaddrAL len sz x i=>
   simp only[zw4,<- B5 x (by simp[AOp.opds]),zaP (Aj i (by simp[AOp.opds]))]
   cases hr:zyS s x with
   | none=>rfl
   | some bo=>obtain⟨b,o⟩:=bo;simp only[zC,zD,Fc rfl x (by simp[AOp.opds]) b o hr]
 | iaddrA len sz x i=>
   simp only[zw4,<- Aj x (by simp[AOp.opds]),zaP (Aj i (by simp[AOp.opds]))]
   cases hv:evl G s x with
   | none=>rfl
   | some v=>
     have:=Ap rfl x (by simp[AOp.opds]) v hv
     cases v with
     | mp k i off=>simp only[zC,zD];rw[this k (by simp[V.top])]
     | ms k i off=>simp only[zC,zD];try rw[this k (by simp[V.top])]
     | t x=>cases x<;>rfl
     | _=>rfl
 | idxA ag len sz x i=>simp only[zw4,Aj x (by simp[AOp.opds]),zaP (Aj i (by simp[AOp.opds]))]
 | idxS x i=>simp only[zw4,Aj x (by simp[AOp.opds]),zaP (Aj i (by simp[AOp.opds]))]
 | extr x i=>simp only[zw4,Aj x (by simp[AOp.opds])]
 | len x=>
   simp only[zw4,<- Aj x (by simp[AOp.opds])]
   cases hv:evl G s x with
   | none=>rfl
   | some v=>
     have:=Ap rfl x (by simp[AOp.opds]) v hv
     simp only[zC,zD,zeZ this]
 | slen x=>simp only[zw4,Aj x (by simp[AOp.opds])]
 | lenA n=>rfl
 | capN x=>simp only[zw4,Aj x (by simp[AOp.opds])]
 | stop=>rfl
 | appz sz by_ z x l=>simp only[zw4,Aj x (by simp[AOp.opds]),zaP (Aj l (by simp[AOp.opds])),DR]
 | append sz by_ x y=>
   simp only[zw4,<- Aj x (by simp[AOp.opds]),<- Aj y (by simp[AOp.opds])]
   cases hv:evl G s x with
   | none=>rfl
   | some v=>
     cases hw:evl G s y with
     | none=>rfl
     | some z=>
       have h1:=Ap rfl x (by simp[AOp.opds]) v hv;have h2:=Ap rfl y (by simp[AOp.opds]) z hw;simp only[zC,zD,zbY h1,zbY h2,DR]
       cases v with
       | ms k i l=>simp only;rw[h1 k (by simp[V.top])]
       | t x=>cases x<;>rfl
       | _=>rfl
 | clear sz z x=>
   simp only[zw4,<- Aj x (by simp[AOp.opds])]
   cases hv:evl G s x with
   | none=>rfl
   | some v=>
     have:=Ap rfl x (by simp[AOp.opds]) v hv
     cases v with
     | ms k i off=>simp only[zC,zD];rw[this k (by simp[V.top])]
     | t x=>cases x<;>rfl
     | _=>rfl
 | copy sz x y=>
   simp only[zw4,<- Aj x (by simp[AOp.opds]),<- Aj y (by simp[AOp.opds])]
   cases hv:evl G s x with
   | none=>rfl
   | some v=>
     cases hw:evl G s y with
     | none=>rfl
     | some z=>
       have h1:=Ap rfl x (by simp[AOp.opds]) v hv;have h2:=Ap rfl y (by simp[AOp.opds]) z hw;simp only[zC,zD,zbY h2]
       cases v with
       | ms k i l=>simp only;rw[h1 k (by simp[V.top])]
       | t x=>cases x<;>rfl
       | _=>rfl
 | mkmap=>simp only[zw4,DR]
 | lookup kd z ok m k=>
   simp only[zw4,<- Aj m (by simp[AOp.opds]),Aj k (by simp[AOp.opds])]
   cases hv:evl G s m with
   | none=>rfl
   | some v=>
     have h1:=Ap rfl m (by simp[AOp.opds]) v hv
     cases v with
     | mm j=>simp only[zC,zD];rw[h1 j (by simp[V.top])]
     | t x=>cases x<;>rfl
     | _=>rfl
 | mapupd kd m k v=>
   simp only[zw4,<- Aj m (by simp[AOp.opds]),Aj k (by simp[AOp.opds]),Aj v (by simp[AOp.opds])]
   cases hv:evl G s m with
   | none=>rfl
   | some z=>
     have h1:=Ap rfl m (by simp[AOp.opds]) z hv
     cases z with
     | mm j=>simp only[zC,zD];rw[h1 j (by simp[V.top])]
     | t x=>cases x<;>rfl
     | _=>rfl
 | call r f as=>rfl
 | fcall f args=>rfl
end
end Rg
end
