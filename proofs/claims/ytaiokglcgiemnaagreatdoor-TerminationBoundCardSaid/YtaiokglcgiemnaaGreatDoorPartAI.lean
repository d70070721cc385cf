/- Part of the proof of the laws of the package relyguardlaw36: an abstract machine for the program's functions, what they compute, and that the machine is the program's. No condition. (RgR RgR2) -/
import Derived.Test.YtaiokglcgiemnaaGreatDoorPartAH
import Derived.RangeFuncRecord
section
namespace Rg
open Go
section
variable {P:Program} {N:Nam} {I:Inv} {c:Ctx} {ns p:Nat} {A:Nat->Prop} {μ lam:Nat->Nat} {s:St} {a:Act} {w:World} {e:Eff} {o:Oper} {ro:Option Nat}
theorem Rel.bare (R:Rel N c ns A μ lam s a w):Rel N ⟨w,MBH s.heap μ,A,s.heap,μ⟩ 0 A μ lam (.init [] s.heap s.nxt) bareAct w where
 size:=rfl
 defers:=Marks.nil _ _ _
 env t:=by simp[St.init,initEnv,bareAct,RepV]
 loc t cs h:=by simp[St.init]at h
 adr t b o h:=by simp[St.init]at h
 heap:=R.heap
 hinj:=R.hinj
 linj t t' h:=by simp[St.init]at h
 lh t k o h:=by simp[St.init]at h
 aH:=R.aH
 aL r _:=by rintro⟨t,h,_⟩;simp[St.init]at h
 alt:=R.alt
 afz:=R.afz
 fresh:=R.fresh
 glob:=R.glob
 cout:=⟨rfl,rfl⟩
 csize:=Nat.le_refl _
 ckeep _ _ _:=rfl
 cshp _ _ h:=h
 csub _ h:=h
 canew _ h:=.inl h
 clive _ h:=.inl h
 cloc t h:=by simp[St.init]at h
 chp k o h:=⟨o,h,O.le_refl o,fun _=>rfl⟩
theorem Rel.back (R:Rel N c ns A μ lam s a w) {A':Nat->Prop} {μ' lam':Nat->Nat} {H':Nat->Option O} {n':Nat} {w':World}
 (R':Rel N ⟨w,MBH s.heap μ,A,s.heap,μ⟩ 0 A' μ' lam' (.init [] H' n') bareAct w'):
 Evo w A μ s.heap w' A' μ' H'/\Rel N c ns A' μ' lam { s with heap:=H',nxt:=n' } a w':=by
 have E:Evo w A μ s.heap w' A' μ' H':=⟨fun r h=>R'.ckeep r (R.alt r h) (R.aH r h),R'.csub,R'.chp,R'.cshp⟩
 have hX: ∀t r,(s.loc t).isSome=true->MBH s.heap μ r->lam t≠r:=by
  rintro t r ht ⟨k,o,hk,_,hl,rfl⟩
  exact R.lh t k o ht hk hl
 have hsz:w.heap.size<=w'.heap.size:=R'.csize
 have hA: ∀r,A' r->A r\/MBH s.heap μ r\/w.heap.size<=r:=R'.canew
 have hlive: ∀k o,H' k=some o->o.live=true->A' (μ' k)\/MBH s.heap μ (μ' k)\/w.heap.size<=μ' k:=by
  intro k o h hl
  by_cases hf: ∃sz rs,o= .rows sz rs true
  ·obtain⟨sz,rs,rfl⟩:=hf
   exact .inl (R'.afz k sz rs h)
  ·exact .inr (R'.clive _ ⟨k,o,h,fun sz rs e=>hf ⟨sz,rs,e⟩,hl,rfl⟩)
 have hndef: ∀r:Nat,w.heap[r]? =some (Obj.deferred (some []))-> ¬MBH s.heap μ r:=by
  rintro r h ⟨k,o,hk,_,hl,rfl⟩
  exact R.ndef hk hl h
 have hdf: ∀r:Nat,w.heap[r]? =some (Obj.deferred (some []))->w'.heap[r]? =w.heap[r]? :=fun r h=>R'.ckeep r (Array.getElem?_eq_some_iff.1 h).1 (hndef r h)
 have hdA: ∀r:Nat,w.heap[r]? =some (Obj.deferred (some []))->A' r->A r:=by
  intro r h hr
  rcases hA r hr with h1 | h1 | h1
  ·exact h1
  ·exact absurd h1 (hndef r h)
  ·have:=(Array.getElem?_eq_some_iff.1 h).1;omega
 refine⟨E,{ R with defers:=R.defers.evo hdf hdA,env:=fun t=>(R.env t).evo E,loc:= ?_,heap:=R'.heap,hinj:=R'.hinj,lh:= ?_,aH:=R'.aH,aL:= ?_,alt:=R'.alt,afz:=R'.afz,fresh:=R'.fresh,glob:=R'.glob,cout:=⟨R'.cout.1.trans R.cout.1,R'.cout.2.trans R.cout.2⟩,csize:=Nat.le_trans R.csize hsz,ckeep:= ?_,cshp:= ?_,csub:= ?_,canew:= ?_,clive:= ?_,chp:= ?_ }⟩
 ·intro t cs h
  obtain⟨h1,h2⟩:=R.loc t cs h
  have ht:(s.loc t).isSome=true:=by rw[h];rfl
  exact⟨h1,h2.evo E (R'.ckeep _ (R.lt_loc ht) (fun hm=>hX t _ ht hm rfl))⟩
 ·intro t k o ht h hl he
  rcases hlive k o h hl with h1 | h1 | h1
  ·rcases hA _ h1 with h2 | h2 | h2
   ·exact R.aL _ h2 ⟨t,ht,he⟩
   ·exact hX t _ ht h2 he
   ·have:=R.lt_loc ht;omega
  ·exact hX t _ ht h1 he
  ·have:=R.lt_loc ht;omega
 ·rintro r hr ⟨t,ht,he⟩
  rcases hA r hr with h2 | h2 | h2
  ·exact R.aL _ h2 ⟨t,ht,he⟩
  ·exact hX t _ ht h2 he
  ·have:=R.lt_loc ht;omega
 ·intro r h1 h2
  rw[R'.ckeep r (Nat.lt_of_lt_of_le h1 R.csize) ?_]
  ·exact R.ckeep r h1 h2
  ·intro hm
   rcases R.clive r hm with h | h
   ·exact h2 h
   ·omega
 ·intro r x h;exact R'.cshp r x (R.cshp r x h)
 ·intro r h;exact R'.csub r (R.csub r h)
 ·intro r h
  rcases hA r h with h | h | h
  ·exact R.canew r h
  ·exact .inr (R.clive r h)
  ·exact .inr (.inr (Nat.le_trans R.csize h))
 ·intro r h
  rcases R'.clive r h with h | h
  ·exact R.clive r h
  ·exact .inr (Nat.le_trans R.csize h)
 ·intro k o h
  obtain⟨o1,h1,h2,h3⟩:=R.chp k o h
  obtain⟨o2,h4,h5,h6⟩:=R'.chp k o1 h1
  refine⟨o2,h4,O.le_trans h2 h5,fun hl=> ?_⟩
  have hl1:o1.live=true:=by
   cases o1<;>first | rfl | (cases o2<;>simp_all [O.le,O.live])
  have e1:=h6 hl
  have e2:=h3 hl1
  simp only at e1
  rw[e1,e2]
theorem raw_step (hI:I.Ok N) (R:Rel N c ns A μ lam s a w) {cl:Call} {f:Operand} {f':Opd} {args':List Opd} {fv:V} {g:Nat} {as bs vs:List V} {r:V} {rf:Func} {H':Nat->Option O} {n':Nat} {Q:Exit->Act->World->Prop}
 (ho:o.op= .call cl) (hb:cl.callee= .value f) (hf:opd I f=some f') (hargs:opds I cl.args=some args') (hfv:evl N.G s f'=some fv) (hfn:fnOf fv=some (g,as,bs))
 (hreal:Real P (N.nm g) rf) (hvs:evls N.G s args'=some vs) (hc:RawOK P N g (as++vs++bs) s.heap s.nxt r H' n')
 (hd: ∀x,o.dst=some x->x<ns) (hfree:s.free o.dst {}):
 o.wpIn (FW ro) 0 P a w (fun a' w'=> ∃A' μ' lam',Rel N c ns A' μ' lam' ({ s with heap:=H',nxt:=n' }.apply o.dst { val:=r }) a' w') Q:=by
 obtain⟨va,vb,hv,ha,hb'⟩:=fn_inv (opd_eval hI R hf hfv) hfn
 have hargsR:RepArgs w A N.nm μ s.heap (cl.args.map a.eval) vs:=opds_eval hI R hargs hvs
 have hcall:=hc _ A μ lam w _ R.bare ((ha.append hargsR).append hb')
 refine⟨fun _ _=>trivial,?_⟩
 rw[o.semAt_eq _ _ (by rw[ho];simp),exec_call ho hb hv hreal,Oper.uponIn_enter]
 refine⟨FW_depth,callsFW (hcall.mono ?_)⟩
 rintro e w' ⟨v,A',μ',lam',rfl,R',hr⟩
 obtain⟨_,R1⟩:=R.back R'
 exact⟨A',μ',lam,R1.put o.dst { val:=r } v hd hfree rfl rfl rfl hr (by simp)⟩
theorem ownR_key {key:Nat} {r:V} {h:Nat->Option O} {e:Eff} (he:ownR key r h=some e): ∀x∈e.hp,x.1=key:=by
 unfold ownR at he
 split at he
 ·simp only[Option.some.injEq]at he;subst he;intro x hx;simp at hx
 ·simp only[Option.some.injEq]at he;subst he;intro x hx;simp at hx
 ·split at he
  ·split at he
   ·simp only[Option.some.injEq]at he;subst he;intro x hx;simp only[List.mem_singleton]at hx;rw[hx]
   ·simp at he
  ·simp at he
 ·simp at he
theorem ownR_shape {key:Nat} {r:V} {h:Nat->Option O} {e:Eff} (he:ownR key r h=some e):e.adr=none/\e.loc=none/\e.wloc=none:=by
 unfold ownR at he
 split at he
 ·simp only[Option.some.injEq]at he;subst he;exact⟨rfl,rfl,rfl⟩
 ·simp only[Option.some.injEq]at he;subst he;exact⟨rfl,rfl,rfl⟩
 ·split at he
  ·split at he
   ·simp only[Option.some.injEq]at he;subst he;exact⟨rfl,rfl,rfl⟩
   ·simp at he
  ·simp at he
 ·simp at he
theorem fresh_step (hI:I.Ok N) (R:Rel N c ns A μ lam s a w) {cl:Call} {f:Operand} {f':Opd} {args':List Opd} {fv:V} {g:Nat} {as bs vs rs:List V} {r:V} {rf:Func} {H':Nat->Option O} {n':Nat} {e:Eff} {Q:Exit->Act->World->Prop}
 (ho:o.op= .call cl) (hb:cl.callee= .value f) (hf:opd I f=some f') (hargs:opds I cl.args=some args') (hfv:evl N.G s f'=some fv) (hfn:fnOf fv=some (g,as,bs))
 (hreal:Real P (N.nm g) rf) (hvs:evls N.G s args'=some vs) (hrs:(as++vs++bs).mapM (toT1 s.heap)=some rs) (hrn:(as++vs++bs).flatMap (reach1 s.heap)=[]) (hc:RawOK P N g rs (fun _=>none) 0 r H' n')
 (he:ownR (s.bas+p) r H'=some e) (hd: ∀x,o.dst=some x->x<ns) (hfree:s.free o.dst {}) (hk:s.heap (s.bas+p)=none) (hn:s.bas+p<s.nxt):
 o.wpIn (FW ro) 0 P a w (fun a' w'=> ∃A' μ' lam',Rel N c ns A' μ' lam' (s.apply o.dst e) a' w') Q:=by
 obtain⟨va,vb,hv,ha,hb'⟩:=fn_inv (opd_eval hI R hf hfv) hfn
 have hargsR:RepArgs w A N.nm μ s.heap (cl.args.map a.eval) vs:=opds_eval hI R hargs hvs
 have hall:=(ha.append hargsR).append hb'
 obtain⟨m1,m2⟩:=mapM_some hrs
 have hrep:RepArgs w A N.nm (fun _=>0) (fun _=>none) (va++cl.args.map a.eval++vb) rs:=by
  refine⟨by rw[hall.1,m1],fun i x hi=> ?_⟩
  obtain⟨y,hy,ht⟩:=m2 i x hi
  obtain⟨v,hv,hr⟩:=hall.2 i y hy
  refine⟨v,hv,((toT1_rep R.heap ht hr (fun _=>0) (fun _=>none)).mono ?_).toV⟩
  rintro q (h | ⟨k,hk,h2⟩)
  ·exact h
  ·have:reach1 s.heap y=[]:=by
    rw[List.flatMap_eq_nil_iff]at hrn
    exact hrn y (List.mem_of_getElem? hy)
   rw[this]at hk;simp at hk
 have HR:Rel N ⟨w,fun _=>False,A,fun _=>none,fun _=>0⟩ 0 A (fun _=>0) (fun _=>0) (.init [] (fun _=>none) 0) bareAct w:=
  { size:=rfl,defers:=Marks.nil _ _ _,env:=fun t=>by simp[St.init,initEnv,bareAct,RepV],loc:=fun t cs h=>by simp[St.init]at h,adr:=fun t b o h=>by simp[St.init]at h,
    heap:=fun k o h=>by simp[St.init]at h,hinj:=fun k k' o o' h=>by simp[St.init]at h,linj:=fun t t' h=>by simp[St.init]at h,lh:=fun t k o h=>by simp[St.init]at h,
    aH:=fun r _=>by rintro⟨k,o,h,_⟩;simp[St.init]at h,aL:=fun r _=>by rintro⟨t,h,_⟩;simp[St.init]at h,alt:=R.alt,afz:=fun k sz rs h=>by simp[St.init]at h,fresh:=fun _ _=>rfl,
    glob:=R.glob,cout:=⟨rfl,rfl⟩,csize:=Nat.le_refl _,ckeep:=fun _ _ _=>rfl,cshp:=fun _ _ h=>h,csub:=fun _ h=>h,canew:=fun _ h=> .inl h,clive:=fun r=>by rintro⟨k,o,h,_⟩;simp[St.init]at h,
    cloc:=fun t h=>by simp[St.init]at h,chp:=fun k o h=>by simp at h }
 have hcall:=hc _ A (fun _=>0) (fun _=>0) w _ HR hrep
 refine⟨fun _ _=>trivial,?_⟩
 rw[o.semAt_eq _ _ (by rw[ho];simp),exec_call ho hb hv hreal,Oper.uponIn_enter]
 refine⟨FW_depth,callsFW (hcall.mono ?_)⟩
 rintro e0 w' ⟨v,A',μ',lam',rfl,R',hrv⟩
 have hkeep: ∀q,q<w.heap.size->w'.heap[q]? =w.heap[q]? :=fun q hq=>R'.ckeep q hq (fun h=>h)
 have hsz:w.heap.size<=w'.heap.size:=R'.csize
 have R1:Rel N c ns A μ lam s a w':=by
  refine R.world hsz ?_ (fun r hr _=>hkeep r (Nat.lt_of_lt_of_le hr R.csize)) R'.cshp (R.defers.evo (fun r h=>hkeep r (Array.getElem?_eq_some_iff.1 h).1) (fun _ _ h=>h)) R'.cout
  rintro r (h | ⟨t,h,rfl⟩ | ⟨k,o',h,hl,rfl⟩)
  ·exact hkeep r (R.alt r h)
  ·exact hkeep _ (R.lt_loc h)
  ·exact hkeep _ (R.lt_live h hl)
 unfold ownR at he
 split at he
 ·simp only[Option.some.injEq]at he;subst he
  have hnil:RepT w' A' N.nm v .nils:=hrv.t_inv
  refine⟨A,μ,lam,R1.put o.dst { val:=.t .nils } v hd hfree rfl rfl rfl ?_ (by simp)⟩
  cases hnil with
  | nils a=>exact(RepC.t (.nils a)).toV
 ·simp only[Option.some.injEq]at he;subst he
  have hnil:RepT w' A' N.nm v (.sl []):=hrv.t_inv
  refine⟨A,μ,lam,R1.put o.dst { val:=.t (.sl []) } v hd hfree rfl rfl rfl ?_ (by simp)⟩
  cases hnil with
  | sl0 a cap=>exact(RepC.t (.sl0 a cap)).toV
  | sl _ _ _ _ _ _ h0=>exact absurd h0 (by simp)
 ·rename_i k i n
  split at he
  ·rename_i sz rws hkk
   split at he
   ·rename_i hcond
    obtain⟨rfl,rfl,htr⟩:=hcond
    simp only[Option.some.injEq]at he;subst he
    have hobj:=R'.heap k _ hkk
    have hlive:MBH (St.init [] H' n').heap μ' (μ' k):=⟨k,_,hkk,by intro sz rs h;simp at h,rfl,rfl⟩
    have hqn:w.heap.size<=μ' k:=by
     rcases R'.clive _ hlive with h | h
     ·exact h.elim
     ·exact h
    have hq: ¬A' (μ' k):=fun h=>R'.aH _ h hlive
    have R2:=R1.growA (fun q=>A' q/\w.heap.size<=q) (fun q hq t ht=>by have:=R.lt_loc ht;omega) (fun q hq k o hk hl=>by have:=R.lt_live hk hl;omega)
     (fun q hq=> .inr (by have:=R.csize;omega)) (fun q hq=>R'.alt q hq.1) (R.defers.join R1.defers (fun q hq=>hq.2))
    have hA': ∀q,A' q->A q\/(A' q/\w.heap.size<=q):=by
     intro q hq
     rcases R'.canew q hq with h | h | h
     ·exact .inl h
     ·exact h.elim
     ·exact .inr ⟨hq,h⟩
    have horp:Orphan c (fun q=>A q\/(A' q/\w.heap.size<=q)) μ lam s (μ' k):=by
     refine⟨?_,fun t ht e=> ?_,fun k1 o1 h1 l1 e=> ?_,.inr (by have:=R.csize;omega)⟩
     ·rintro(h | h)
      ·have:=R.alt _ h;omega
      ·exact hq h.1
     ·have:=R.lt_loc ht;omega
     ·have:=R.lt_live h1 l1;omega
    obtain⟨cc,e1,z,g1,g2,g3,g4,g5⟩:=hobj
    have htrs: ∀(i:Nat) (row:List V) (j:Nat) (x:V),rws[i]? =some row->row[j]? =some x-> ∃y,x= .t y:=by
     intro i row j x hi hj
     have h1:=List.all_eq_true.1 htr row (List.mem_of_getElem? hi)
     have h2:=List.all_eq_true.1 h1 x (List.mem_of_getElem? hj)
     cases x with
     | t y=>exact⟨y,rfl⟩
     | _=>simp[V.isTr]at h2
    have hobj2:HObj w' (fun q=>A q\/(A' q/\w.heap.size<=q)) N μ s.heap (μ' k) (.rows sz rws false):=by
     refine⟨cc,e1,z,g1,g2,g3,g4,fun i row j x hi hj=> ?_⟩
     obtain⟨y,rfl⟩:=htrs i row j x hi hj
     obtain⟨u,hu,hr⟩:=g5 i row j _ hi hj
     refine⟨u,hu,.t ?_⟩
     cases hr with
     | t h=>exact h.mono (fun _ _=>rfl) hA'
    have R3:=R2.adoptH (k:=s.bas+p) hk hn horp hobj2 (by intro sz rs h;simp at h)
    have hslice:RepV w' (fun q=>A q\/(A' q/\w.heap.size<=q)) N.nm (upd μ (s.bas+p) (μ' k)) (upd s.heap (s.bas+p) (some (.rows sz rws false))) v (.ms (s.bas+p) 0 rws.length):=by
     cases(hrv:RepC w' A' N.nm μ' H' v _)with
     | ms _ _ _ cap sz' rs' fz' a' hk' hi' hc' ha'=>
       have:some (O.rows sz' rs' fz')=some (O.rows sz rws false):=hk'.symm.trans hkk
       cases this
       refine RepC.toV (.ms _ _ _ cap sz rws false a' (by simp) hi' hc' ?_)
       rcases ha' with h | ⟨h1,e2,n2,h2,h3⟩
       ·exact .inl h
       ·exact .inr ⟨by rw[upd_same];exact h1,e2,n2,by rw[upd_same];exact h2,h3⟩
     | dms _ _ _ hk' _=>have:=hk'.symm.trans hkk;simp at this
    exact⟨_,_,lam,R3.put o.dst { val:=.ms (s.bas+p) 0 rws.length } v hd hfree rfl rfl rfl hslice (by simp)⟩
   ·simp at he
  ·simp at he
 ·simp at he
theorem rel_enter {H:Nat->Option O} {n:Nat} (HR:Rel N c 0 A μ lam (.init [] H n) bareAct w) {vs:Array Value} {xs:List V} (h:RepArgs w A N.nm μ H vs xs) (k:Nat):
 Rel N c (vs++Array.replicate (k-vs.size) undef).size A μ lam (.init xs H n) { tmps:=vs++Array.replicate (k-vs.size) undef,defers:=[] } w where
 size:=rfl
 defers:=Marks.nil _ _ _
 env t:=by
  show RepV w A N.nm μ H ((vs++Array.replicate (k-vs.size) undef).getD t undef) (xs.getD t .undef)
  by_cases ht:t<xs.length
  ·obtain⟨v,hv,hr⟩:=h.2 t xs[t] (List.getElem?_eq_getElem ht)
   have e1:(vs++Array.replicate (k-vs.size) undef).getD t undef=v:=by
    rw[Array.getD_eq_getD_getElem?,Array.getElem?_append_left (by rw[h.1];exact ht),hv];rfl
   have e2:xs.getD t .undef=xs[t]:=by rw[List.getD_eq_getElem?_getD,List.getElem?_eq_getElem ht];rfl
   rw[e1,e2];exact hr
  ·have e2:xs.getD t .undef= .undef:=by rw[List.getD_eq_getElem?_getD,List.getElem?_eq_none (by omega)];rfl
   have e1:(vs++Array.replicate (k-vs.size) undef).getD t undef=undef:=by
    rw[Array.getD_eq_getD_getElem?,Array.getElem?_append_right (by rw[h.1];omega),Array.getElem?_replicate]
    split<;>rfl
   rw[e1,e2];exact rfl
 loc t cs h:=by simp[St.init]at h
 adr t b o h:=by simp[St.init]at h
 heap:=HR.heap
 hinj:=HR.hinj
 linj t t' h:=by simp[St.init]at h
 lh t k o h:=by simp[St.init]at h
 aH:=HR.aH
 aL r _:=by rintro⟨t,h,_⟩;simp[St.init]at h
 alt:=HR.alt
 afz:=HR.afz
 fresh:=HR.fresh
 glob:=HR.glob
 cout:=HR.cout
 csize:=HR.csize
 ckeep:=HR.ckeep
 cshp:=HR.cshp
 csub:=HR.csub
 canew:=HR.canew
 clive:=HR.clive
 cloc t h:=by simp[St.init]at h
 chp:=HR.chp
theorem rel_leave (R:Rel N c ns A μ lam s a w):Rel N c 0 A μ lam (.init [] s.heap s.nxt) bareAct w where
 size:=rfl
 defers:=Marks.nil _ _ _
 env t:=by simp[St.init,initEnv,bareAct,RepV]
 loc t cs h:=by simp[St.init]at h
 adr t b o h:=by simp[St.init]at h
 heap:=R.heap
 hinj:=R.hinj
 linj t t' h:=by simp[St.init]at h
 lh t k o h:=by simp[St.init]at h
 aH:=R.aH
 aL r _:=by rintro⟨t,h,_⟩;simp[St.init]at h
 alt:=R.alt
 afz:=R.afz
 fresh:=R.fresh
 glob:=R.glob
 cout:=R.cout
 csize:=R.csize
 ckeep:=R.ckeep
 cshp:=R.cshp
 csub:=R.csub
 canew:=R.canew
 clive:=R.clive
 cloc t h:=by simp[St.init]at h
 chp:=R.chp
def resRel (P:Program):ResultVar->Res->Prop
 | .tmp t,.s t'=>t=t'
 | .cell a ty,.l a' ag n=>a=a'/\typ P ty=some (ag,n)
 | .cell a ty,.h a' ag n=>a=a'/\typ P ty=some (ag,n)
 | _,_=>False
def resRun (tmps:Array Value):ResultVar->Sem Value
 | .tmp t=>pure (tmps.getD t undef)
 | .cell a t=>do loadVar t (<- asAddr (tmps.getD a undef))
theorem res_one (R:Rel N c ns A μ lam s a w) {rv:ResultVar} {rs:Res} {v:V} (hr:resRel P rv rs) (hv:resOf s rs=some v): ∃v',(resRun a.tmps rv).run P w= .ok v' w/\RepV1 w A N.nm μ s.heap v' v:=by
 cases rv with
 | tmp t=>
   cases rs with
   | s t'=>
     cases(hr:t=t')
     have he:=R.env t
     simp only[resOf]at hv
     split at hv<;>first | (simp at hv;done) | skip
     simp only[Option.some.injEq]at hv;subst hv
     refine⟨_,rfl,?_⟩
     rename_i h1 h2 h3
     revert he h1 h2 h3
     generalize s.env t=x
     intro he h1 h2 h3
     cases x<;>first | exact he | exact absurd rfl h1 | exact absurd rfl h2 | exact absurd rfl (h3 _)
   | l _ _ _=>exact hr.elim
   | h _ _ _=>exact hr.elim
 | cell ad ty=>
   cases rs with
   | s t'=>exact hr.elim
   | l b ag n=>
     obtain⟨rfl,hty⟩:=hr
     simp only[resOf,Option.bind_eq_bind,Option.bind_eq_some_iff]at hv
     obtain⟨cs,hb,r,hrd,hw⟩:=hv
     obtain⟨hp,cc,e0,h1,h2⟩:=R.loc ad cs hb
     obtain⟨h3,h4,h5⟩:=h2.rd hrd
     have hl:=run_loadVar (w:=w) hty (lam ad) 0 ((cc.toList.drop 0).take n) (by simp at h4⊢;omega) (fun j v hj=>by
      simp only[List.drop_zero,List.getElem?_take,Array.getElem?_toList]at hj
      split at hj
      ·simp[World.cell?,h1,hj]
      ·simp at hj)
     exact⟨wrapV ag ((cc.toList.drop 0).take n),by simp only[resRun,Sem.run_bind,hp,asAddr,Sem.run_pure,Result.andThen_ok,hl],h3.wrap1 hw⟩
   | h b ag n=>
     obtain⟨rfl,hty⟩:=hr
     have he:=R.env ad
     simp only[resOf]at hv
     split at hv
     ·rename_i k i off hk0
      rw[hk0]at he
      split at hv
      ·rename_i sz rs frz hk
       simp only[Option.bind_eq_bind,Option.bind_eq_some_iff]at hv
       obtain⟨row,hrow,r,hrd,hw⟩:=hv
       obtain⟨hp,_⟩:=RepV.mp_inv he hk
       obtain⟨vs,h1,h2⟩:=row_cells R hk hrow
       obtain⟨h3,h4,h5⟩:=h1.rd hrd
       have hl:=run_loadVar (w:=w) hty (μ k) (i*sz+off) ((vs.drop off).take n) (by simp;omega) (fun j v hj=>by
        simp only[List.getElem?_take,List.getElem?_drop]at hj
        split at hj
        ·rw[Nat.add_assoc];exact h2 _ v hj
        ·simp at hj)
       exact⟨wrapV ag ((vs.drop off).take n),by simp only[resRun,Sem.run_bind,hp,asAddr,Sem.run_pure,Result.andThen_ok,hl],h3.wrap1 hw⟩
      ·simp at hv
     ·simp at hv
theorem res_all (R:Rel N c ns A μ lam s a w) {rf:Func} {rs:List Res} {v:V} (hl:rf.results.toList.length=rs.length) (hr: ∀(i:Nat) (x:ResultVar) (y:Res),rf.results.toList[i]? =some x->rs[i]? =some y->resRel P x y)
 (hv:resAll s rs=some v): ∃v',(results rf a.tmps).run P w= .ok v' w/\RepV w A N.nm μ s.heap v' v:=by
 simp only[resAll,Option.bind_eq_bind,Option.bind_eq_some_iff]at hv
 obtain⟨vs,hvs,hv⟩:=hv
 have key: ∀(l:List ResultVar) (rs:List Res) (vs:List V),l.length=rs.length->(∀(i:Nat) (x:ResultVar) (y:Res),l[i]? =some x->rs[i]? =some y->resRel P x y)->rs.mapM (resOf s)=some vs->
  ∃us:List Value,(l.mapM (m:=Sem) (resRun a.tmps)).run P w= .ok us w/\us.length=vs.length/\ ∀(i:Nat) (x:V),vs[i]? =some x-> ∃u,us[i]? =some u/\RepV1 w A N.nm μ s.heap u x:=by
  intro l
  induction l with
  | nil=>
    intro rs vs h1 _ h3
    have:rs=[]:=List.length_eq_zero_iff.1 (by simpa using h1.symm)
    subst this
    simp at h3;subst h3
    exact⟨[],by simp,rfl,by simp⟩
  | cons x l ih=>
    intro rs vs h1 h2 h3
    cases rs with
    | nil=>simp at h1
    | cons y rs=>
      simp only[List.mapM_cons,Option.bind_eq_bind,Option.bind_eq_some_iff,Option.pure_def,Option.some.injEq]at h3
      obtain⟨z,hz,zs,hzs,rfl⟩:=h3
      obtain⟨u,hu,hur⟩:=res_one (P:=P) R (h2 0 x y rfl rfl) hz
      obtain⟨us,hus,hlen,hget⟩:=ih rs zs (by simpa using h1) (fun i x' y' a1 a2=>h2 (i+1) x' y' (by simpa using a1) (by simpa using a2)) hzs
      refine⟨u::us,by simp only[List.mapM_cons,Sem.run_bind,hu,hus,Result.andThen_ok,Sem.run_pure],by simp[hlen],fun i q hq=> ?_⟩
      cases i with
      | zero=>simp at hq;subst hq;exact⟨u,rfl,hur⟩
      | succ i=>simp at hq;simpa using hget i q hq
 obtain⟨us,hus,hlen,hget⟩:=key _ rs vs hl hr hvs
 have hrun:(results rf a.tmps).run P w= .ok (if h:us.toArray.size=1 then us.toArray[0]else .tuple us.toArray) w:=by
  have:(rf.results.mapM (m:=Sem) (resRun a.tmps)).run P w= .ok us.toArray w:=by
   rw[Array.mapM_eq_mapM_toList]
   simp only[Sem.run_map,hus,Result.andThen_ok]
  have h2:results rf a.tmps=(do let vs<- rf.results.mapM (m:=Sem) (resRun a.tmps);pure (if h:vs.size=1 then vs[0]else .tuple vs)):=by
   unfold results
   congr 1
  rw[h2]
  simp only[Sem.run_bind,this,Result.andThen_ok,Sem.run_pure]
 refine⟨_,hrun,?_⟩
 split at hv
 ·rename_i x
  simp only[Option.some.injEq]at hv;subst hv
  obtain⟨u,hu,hur⟩:=hget 0 _ rfl
  match us,hlen,hu with
  | [u'],_,hu=>simp at hu;subst hu;simpa using hur.toV
 ·rename_i hne
  simp only[Option.some.injEq]at hv;subst hv
  have hne1:us.length≠1:=by
   intro h
   rw[hlen]at h
   match vs,h,hne with
   | [x],_,hne=>exact hne x rfl
  rw[dif_neg (by simpa using hne1)]
  exact⟨us.toArray,rfl,by simpa using hlen,fun i q hq=>by simpa using hget i q hq⟩
end
end Rg
end
section
namespace Rg
open Go
def Ex.jump:Ex->Option Code
 | .normal=>none
 | .exit id=>some (.exit id)
 | .ret=>some .ret
theorem Ex.toL_rel (e:Ex):e.toL.rel (if e.jump.isNone then .ready else .done) e.jump:=by
 cases e<;>simp[Ex.toL,LSt.rel,Ex.jump]
theorem Ex.jump_none (e:Ex):e.jump.isNone=decide (e=Ex.normal):=by
 cases e<;>simp[Ex.jump]
theorem putObj_shape {w:World} {r:Nat} {L:Go.Loop} (o:Go.Obj) (h:w.heap[r]? =some (.loop L)) (q:Nat) (x:TypeId×Nat) (hq:w.shape? q=some x):(w.putObj r o).shape? q=some x:=by
 by_cases e:q=r
 ·subst e;simp[World.shape?,h]at hq
 ·simpa[World.shape?,World.putObj_heap_other e]using hq
theorem round_rep {Rp:Value->V->Prop}: ∀(ps:List Nat) (us:List Value) (vs:List V) (tmps:Array Value) (env:Nat->V),us.length=ps.length->vs.length=ps.length->(∀t∈ps,t<tmps.size)->
 (∀(i:Nat) (v:V),vs[i]? =some v-> ∃u,us[i]? =some u/\Rp u v)->(∀t,Rp (tmps.getD t undef) (env t))->
 ((ps.zip us).foldl (fun(tmps:Array Value) (x:Nat×Value)=>tmps.setIfInBounds x.1 x.2) tmps).size=tmps.size/\
   ∀t,Rp (((ps.zip us).foldl (fun(tmps:Array Value) (x:Nat×Value)=>tmps.setIfInBounds x.1 x.2) tmps).getD t undef) (fillEnv env ps vs t)
 | [],us,vs,tmps,env,_,hv,_,_,he=>by
   have:vs=[]:=List.length_eq_zero_iff.1 (by simpa using hv)
   subst this
   exact⟨rfl,fun t=>by simpa[fillEnv]using he t⟩
 | p::ps,u::us,v::vs,tmps,env,hu,hv,hl,hr,he=>by
   have hp:p<tmps.size:=hl p List.mem_cons_self
   obtain⟨u',hu',hru⟩:=hr 0 v rfl
   simp only[List.getElem?_cons_zero,Option.some.injEq]at hu'
   subst hu'
   have h:=round_rep ps us vs (tmps.setIfInBounds p u) (upd env p v) (by simpa using hu) (by simpa using hv) (fun t ht=>by simpa using hl t (List.mem_cons_of_mem _ ht))
    (fun i x hi=>by simpa using hr (i+1) x (by simpa using hi)) (fun t=>by
      by_cases e:t=p
      ·subst e;simpa[Array.getD_eq_getD_getElem?,hp]using hru
      ·rw[upd_other _ _ e]
       have:(tmps.setIfInBounds p u).getD t undef=tmps.getD t undef:=by simp[Array.getD_eq_getD_getElem?,Ne.symm e]
       rw[this];exact he t)
   exact⟨by simpa using h.1,fun t=>by simpa[fillEnv]using h.2 t⟩
 | p::ps,[],vs,tmps,env,hu,_,_,_,_=>by simp at hu
 | p::ps,u::us,[],tmps,env,_,hv,_,_,_=>by simp at hv
section
variable {P:Program} {N:Nam} {I:Inv} {c:Ctx} {ns p:Nat} {A:Nat->Prop} {μ lam:Nat->Nat} {s:St} {a:Act} {w:World} {e:Eff} {o:Oper} {ro:Option Nat}
theorem rel_round {H:Nat->Option O} {n m:Nat} (HR:Rel N c 0 A μ lam (.init [] H n) bareAct w) {tmps:Array Value} {env:Nat->V} (hm:tmps.size=m) (h: ∀t,RepV w A N.nm μ H (tmps.getD t undef) (env t)):
 Rel N c m A μ lam { env:=env,loc:=fun _=>none,adr:=fun _=>none,used:=fun _=>false,heap:=H,nxt:=n,bas:=n } { tmps:=tmps,defers:=[] } w where
 size:=hm
 defers:=Marks.nil _ _ _
 env t:=h t
 loc t cs h:=by simp at h
 adr t b o h:=by simp at h
 heap:=HR.heap
 hinj:=HR.hinj
 linj t t' h:=by simp at h
 lh t k o h:=by simp at h
 aH:=HR.aH
 aL r _:=by rintro⟨t,h,_⟩;simp at h
 alt:=HR.alt
 afz:=HR.afz
 fresh:=HR.fresh
 glob:=HR.glob
 cout:=HR.cout
 csize:=HR.csize
 ckeep:=HR.ckeep
 cshp:=HR.cshp
 csub:=HR.csub
 canew:=HR.canew
 clive:=HR.clive
 cloc t h:=by simp at h
 chp:=HR.chp
theorem Rel.setLoop (R:Rel N c ns A μ lam s a w) {k:Nat} {env:Nat->V} {ps:List Nat} {bd:C} {st st':LSt} (hk:s.heap k=some (.loop env ps bd st)) {L:Go.Loop} (hL:w.heap[μ k]? =some (.loop L))
 (state:LoopState) (pending:Option Code) (hst:st'.rel state pending):
 Rel N c ns A μ lam { s with heap:=upd s.heap k (some (.loop env ps bd st')) } a (w.putObj (μ k) (.loop { L with state:=state,pending:=pending })):=by
 obtain⟨L',hL',h1,h2,h3,_,h5,h6⟩:=R.heap k _ hk
 have:L'=L:=by rw[hL]at hL';cases hL';rfl
 subst this
 refine R.changeH (k:=k) (o:=.loop env ps bd st) hk trivial rfl (by simp) (by simp) rfl (by simp) (fun r hr=>World.putObj_heap_other hr) (fun q x hq=>putObj_shape _ hL q x hq) (fun E=> ?_)
 exact⟨{ L' with state:=state,pending:=pending },World.putObj_heap_same (Array.getElem?_eq_some_iff.1 hL).1,h1,h2,h3,hst,h5,fun t=>(h6 t).evo E⟩
theorem Rel.relabel (R:Rel N c ns A μ lam s a w) {k:Nat} {env:Nat->V} {ps:List Nat} {bd:C} {st st':LSt} (hk:s.heap k=some (.loop env ps bd st)) (h: ∀x y,st.rel x y->st'.rel x y):
 Rel N c ns A μ lam { s with heap:=upd s.heap k (some (.loop env ps bd st')) } a w:=by
 refine R.changeH (k:=k) (o:=.loop env ps bd st) hk trivial rfl (by simp) (by simp) rfl rfl (fun _ _=>rfl) (fun _ _ h=>h) (fun E=> ?_)
 obtain⟨L,hL,h1,h2,h3,h4,h5,h6⟩:=R.heap k _ hk
 exact⟨L,hL,h1,h2,h3,h _ _ h4,h5,fun t=>(h6 t).evo E⟩
theorem yield_step (hI:I.Ok N) (R:Rel N c ns A μ lam s a w) {cl:Call} {f:Operand} {f':Opd} {args':List Opd} {k:Nat} {vs:List V} {env env1 env':Nat->V} {ps ps1 ps':List Nat} {ca cb bd1 bd':C} {e:Ex} {s1 s2:St} {Q:Exit->Act->World->Prop}
 (ho:o.op= .call cl) (hb:cl.callee= .value f) (hf:opd I f=some f') (hargs:opds I cl.args=some args') (hfv:evl N.G s f'=some (.yl k))
 (hk:s.heap k=some (.loop env ps (.round ca cb) .ready)) (hvs:evls N.G s args'=some vs) (hlen:vs.length=ps.length)
 (hca:BodyOK P N ca (roundSt s.heap s.nxt k env ps (.round ca cb) vs) .normal s1) (hk1:s1.heap k=some (.loop env1 ps1 bd1 .enter))
 (hcb:BodyOK P N cb { s1 with heap:=upd s1.heap k (some (.loop env1 ps1 bd1 .busy)) } e s2) (hk2:s2.heap k=some (.loop env' ps' bd' .busy)) (hd: ∀x,o.dst=some x->x<ns) (hfree:s.free o.dst {}):
 o.wpIn (FW ro) 0 P a w (fun a' w'=> ∃A' μ' lam',Rel N c ns A' μ' lam' ({ s with heap:=upd s2.heap k (some (.loop env' ps' bd' e.toL)),nxt:=s2.nxt }.apply o.dst { val:=.t (.bool (decide (e=Ex.normal))) }) a' w') Q:=by
 have hv:a.eval f= .func (.yield (μ k)) #[] #[]:=by
  have h:RepC w A N.nm μ s.heap (a.eval f) (.yl k):=opd_eval hI R hf hfv
  generalize a.eval f=u at h⊢
  cases h with
  | yl _ env ps b st hk'=>rfl
  | dyl _ hk'=>rw[hk]at hk';cases hk'
 obtain⟨L,hL,hps,hasg,hcr,hst,hlt,henv⟩:=R.heap k _ hk
 obtain⟨_,_,heq1,hasg⟩:=hasg
 obtain⟨_,_,heq2,hcr⟩:=hcr
 cases heq1;cases heq2
 have hargsR:RepArgs w A N.nm μ s.heap (cl.args.map a.eval) vs:=opds_eval hI R hargs hvs
 refine⟨fun _ _=>trivial,?_⟩
 have hrun:(o.semAt (FW ro).round a.eval).run P w= .ok (.round (μ k) L.fn ((L.params.zip (cl.args.map a.eval)).foldl (fun tmps (t,a)=>tmps.setIfInBounds t a) L.tmps) L.assign L.body) w:=by
  rw[o.semAt_eq _ _ (by rw[ho];simp)]
  have hy:=run_yield (P:=P) (args:=cl.args.map a.eval) hL (by rw[hargsR.1,hlen,hps];simp)
  simp only[execOp,ho,resolve,hb,Sem.run_bind,hv,Deferred.ofValue,Sem.run_pure,Result.andThen_ok,invoke,Array.empty_append]
  exact hy
 rw[hrun,Oper.uponIn_round]
 refine⟨FW_depth,roundIn_of_wpIn (F:=FW ro) trivial ?_⟩
 have R1:=R.bare.relabel (st':= .enter) hk (fun _ _ h=>h.1)
 have E:Evo w A μ s.heap w A μ (upd s.heap k (some (.loop env ps (.round ca cb) .enter))):=by
  refine⟨fun r h=>rfl,fun _ h=>h,fun q o h=> ?_,fun q x hq=>hq⟩
  by_cases e:q=k
  ·subst e;rw[hk]at h;cases h;exact⟨.loop env ps (.round ca cb) .enter,by simp,trivial,fun _=>rfl⟩
  ·exact⟨o,by rw[upd_other _ _ e];exact h,O.le_refl o,fun _=>rfl⟩
 have hfill:=round_rep (Rp:=fun v x=>RepV w A N.nm μ (upd s.heap k (some (.loop env ps (.round ca cb) .enter))) v x) ps (cl.args.map a.eval).toList vs L.tmps env
  (by rw[Array.length_toList,hargsR.1,hlen]) hlen hlt (fun i x hi=>let⟨v,hv,hr⟩:=hargsR.2 i x hi;⟨v,by simpa using hv,hr.evo E⟩) (fun t=>(henv t).evo E)
 have hfold:(L.params.zip (cl.args.map a.eval)).foldl (fun tmps (t,a)=>tmps.setIfInBounds t a) L.tmps=(ps.zip (cl.args.map a.eval).toList).foldl (fun(tmps:Array Value) (x:Nat×Value)=>tmps.setIfInBounds x.1 x.2) L.tmps:=by
  rw[hps,<- Array.foldl_toList,Array.toList_zip]
 rw[hfold]
 refine wpIn_mono (hca L.assign L.tmps.size hasg (μ k) _ A μ lam _ _ (rel_round R1 hfill.1 hfill.2)) ?_
 rintro e1 a1 w1 ⟨rfl,A1,μ1,lam1,Ra⟩
 have hμ1:μ1 k=μ k:=by
  obtain⟨o',ho',_,hm⟩:=Ra.chp k _ hk
  have:some o'=some (O.loop env1 ps1 bd1 .enter):=ho'.symm.trans hk1
  cases this
  exact hm rfl
 obtain⟨L1,hL1,_,_,_,hst1,_,_⟩:=Ra.heap k _ hk1
 have hbeg:=run_beginRound (P:=P) hL1 hst1
 rw[hμ1]at hbeg
 refine⟨_,hbeg,?_⟩
 have Rb:=Ra.setLoop (st':= .busy) hk1 hL1 .busy L1.pending rfl
 rw[hμ1]at Rb
 refine wpIn_mono (hcb L.body L.tmps.size hcr (μ k) _ A1 μ1 lam1 _ _ Rb) ?_
 rintro e' a' w' ⟨rfl,A',μ',lam',R'⟩
 have R2:=rel_leave R'
 have hμ:μ' k=μ k:=by
  obtain⟨o',ho',_,hm⟩:=R2.chp k _ hk
  have:some o'=some (O.loop env' ps' bd' .busy):=ho'.symm.trans hk2
  cases this
  exact hm rfl
 obtain⟨L',hL',_⟩:=R2.heap k _ hk2
 have hend:=run_endRound (P:=P) e.jump hL'
 have R3:=R2.setLoop hk2 hL' _ _ e.toL_rel
 obtain⟨_,R4⟩:=R.back R3
 have R5:=R4.put o.dst { val:=.t (.bool (decide (e=Ex.normal))) } (.bool e.jump.isNone) hd hfree rfl rfl rfl (by rw[e.jump_none];exact(RepC.t (.bool _)).toV) (by simp)
 rw[hμ]at hend
 cases e with
 | normal=>exact⟨_,_,hend,A',μ',lam,by rw[<- hμ];exact R5⟩
 | exit id=>exact⟨_,_,hend,A',μ',lam,by rw[<- hμ];exact R5⟩
 | ret=>exact⟨_,_,hend,A',μ',lam,by rw[<- hμ];exact R5⟩
theorem range_sound (hI:I.Ok N) (R:Rel N c ns A μ lam s a w) {f:Operand} {x:Opd} {ps:Array Nat} {asg body:Code} {ca cb bd':C} {fv:V} {g:Nat} {as bs:List V} {rf:Func} {r:V} {h':Nat->Option O} {n':Nat}
 {env':Nat->V} {ps':List Nat} {st:LSt} {e:Ex} (hf:opd I f=some x) (hfv:evl N.G s x=some fv) (hfn:fnOf fv=some (g,as,bs)) (hreal:Real P (N.nm g) rf) (hca:N.cr asg ns ca) (hcr:N.cr body ns cb) (hlt: ∀t∈ps.toList,t<ns)
 (hc:RawOK P N g (as++[.yl s.nxt]++bs) (upd s.heap s.nxt (some (.loop s.env ps.toList (.round ca cb) .ready))) (s.nxt+1) r h' n')
 (hl:h' s.nxt=some (.loop env' ps' bd' st)) (he:st.ends=some e):
 (Code.rangeFunc f ps asg body).wpIn (FW none) 0 P (Post N c ns e { s with heap:=upd h' s.nxt (some .dead),nxt:=n' }) a w:=by
 refine wpIn_rangeFunc fun fn _=> ?_
 generalize hrec:Loop.mk .ready none fn a.tmps ps asg body w.heap.size=rec
 have he1:=run_enterLoop_outer (P:=P) (w:=w) fn a.tmps ps asg body
 rw[hrec]at he1
 have hs1:(w.alloc (Obj.deferred (some []))).heap.size=w.heap.size+1:=by simp
 generalize hw2:(w.alloc (Obj.deferred (some []))).alloc (.loop rec)=w2 at he1
 have hb2: ∀q,q<w.heap.size->w2.heap[q]? =w.heap[q]? :=by
  intro q hq
  rw[<- hw2]
  simp only[World.alloc,Array.getElem?_push,Array.size_push]
  simp[Nat.ne_of_lt hq,Nat.ne_of_lt (Nat.lt_succ_of_lt hq)]
 have hD2:w2.heap[w.heap.size]? =some (Obj.deferred (some [])):=by
  rw[<- hw2]
  simp only[World.alloc,Array.getElem?_push,Array.size_push]
  simp
 have hl2:w2.heap[w.heap.size+1]? =some (.loop rec):=by
  rw[<- hw2,<- hs1];exact World.alloc_heap_new _ _
 have Ra:=R.alloc (Obj.deferred (some []))
 have Rb:Rel N c ns A μ lam s a w2:=by rw[<- hw2];exact Ra.alloc _
 have Rm:Rel N c ns A μ lam { s with nxt:=s.nxt+1 } a w2:={ Rb with fresh:=fun k h=>Rb.fresh k (by simp only at h;omega) }
 have horp:Orphan c A μ lam { s with nxt:=s.nxt+1 } (w.heap.size+1):=by
  have:=Ra.orphan_new
  rw[hs1]at this
  exact⟨this.a,this.l,this.h,this.x⟩
 have hobj:HObj w2 A N μ s.heap (w.heap.size+1) (.loop s.env ps.toList (.round ca cb) .ready):=by
  refine⟨rec,hl2,by rw[<- hrec],⟨ca,cb,rfl,by rw[<- hrec];simp only;rw[R.size];exact hca⟩,⟨ca,cb,rfl,by rw[<- hrec];simp only;rw[R.size];exact hcr⟩,by rw[<- hrec];exact⟨rfl,rfl⟩,by rw[<- hrec];simp only;rw[R.size];exact hlt,fun t=> ?_⟩
  rw[<- hrec];exact Rb.env t
 have Rd:=Rm.adoptH (k:=s.nxt) (R.fresh _ (Nat.le_refl _)) (Nat.lt_succ_self _) horp hobj (by simp)
 have hfv':evl N.G { s with heap:=upd s.heap s.nxt (some (.loop s.env ps.toList (.round ca cb) .ready)),nxt:=s.nxt+1 } x=some fv:=by
  cases x<;>exact hfv
 obtain⟨va,vb,hv,ha,hb'⟩:=fn_inv (opd_eval hI Rd hf hfv') hfn
 have hmk:Marks c A w2 ({ target:=.collected w.heap.size,args:= #[] }::a.defers):=by
  obtain⟨rs,g1,g2,g3⟩:=R.defers
  have hlt: ∀r∈rs,r<w.heap.size:=fun r hr=>(Array.getElem?_eq_some_iff.1 (g3 r hr).1).1
  refine⟨w.heap.size::rs,List.nodup_cons.2 ⟨fun h=>Nat.lt_irrefl _ (hlt _ h),g1⟩,by rw[List.map_cons,<- g2],fun r hr=> ?_⟩
  rcases List.mem_cons.1 hr with rfl | hr
  ·exact⟨hD2,fun h=>Nat.lt_irrefl _ (R.alt _ h),R.csize⟩
  ·obtain⟨q1,q2,q3⟩:=g3 r hr
   exact⟨by rw[hb2 r (hlt r hr)];exact q1,q2,q3⟩
 have Re:Rel N c ns A (upd μ s.nxt (w.heap.size+1)) lam { s with heap:=upd s.heap s.nxt (some (.loop s.env ps.toList (.round ca cb) .ready)),nxt:=s.nxt+1 } { a with defers:={ target:=.collected w.heap.size,args:= #[] }::a.defers } w2:=
  { Rd with defers:=hmk }
 have hy:RepArgs w2 A N.nm (upd μ s.nxt (w.heap.size+1)) (upd s.heap s.nxt (some (.loop s.env ps.toList (.round ca cb) .ready))) #[.func (.yield (w.heap.size+1)) #[] #[]] [.yl s.nxt]:=by
  refine⟨rfl,fun i z hi=> ?_⟩
  cases i with
  | succ i=>simp at hi
  | zero=>
    simp only[List.getElem?_cons_zero,Option.some.injEq]at hi
    subst hi
    refine⟨_,rfl,RepC.toV ?_⟩
    have:=RepC.yl (w:=w2) (A:=A) (nm:=N.nm) (μ:=upd μ s.nxt (w.heap.size+1)) (H:=upd s.heap s.nxt (some (.loop s.env ps.toList (.round ca cb) .ready))) s.nxt s.env ps.toList (.round ca cb) .ready (by simp)
    rwa[upd_same]at this
 have hcall:=hc _ A (upd μ s.nxt (w.heap.size+1)) lam w2 _ Re.bare ((ha.append hy).append hb')
 have hbn:rf.body.isNone=false:=by have:=hreal.b;cases h:rf.body<;>simp_all
 have hn:=hreal.n
 refine⟨w.heap.size+1,[{ target:=.collected w.heap.size,args:= #[] }],w2,{ target:=.fn (.func (N.nm g)) vb,args:=va++ #[.func (.yield (w.heap.size+1)) #[] #[]] },w2,N.nm g,_,w2,he1,?_,fun _ _=>trivial,?_,FW_depth,callsFW (hcall.mono ?_)⟩
 ·have hcst:a.eval (.const (.func (.yield (w.heap.size+1)) #[] #[]))= .func (.yield (w.heap.size+1)) #[] #[]:=rfl
  simp only[resolve,hv,Deferred.ofValue,List.map_toArray,List.map_cons,List.map_nil,hcst,Sem.run_pure]
 ·simp only[invoke,callFunc,run_program,hreal.f,hn,hbn,Sem.run_bind,Sem.run_pure,Result.andThen_ok,Bool.false_eq_true,if_false]
 ·rintro e' w' ⟨v,A',μ',lam',rfl,R',_⟩
  obtain⟨_,R1⟩:=Re.back R'
  have hμ:μ' s.nxt=w.heap.size+1:=by
   obtain⟨o',ho',_,hm⟩:=R'.chp s.nxt _ (upd_same _ _ _)
   have:some o'=some (O.loop env' ps' bd' st):=ho'.symm.trans hl
   cases this
   rw[hm rfl];exact upd_same _ _ _
  obtain⟨L',hL',_,_,_,hst',_,_⟩:=R1.heap s.nxt _ hl
  have hb:L'.state≠ .busy:=by
   cases st with
   | ready=>rw[hst'.1];simp
   | enter=>simp[LSt.ends]at he
   | busy=>simp[LSt.ends]at he
   | done e0=>cases e0 with
     | normal=>exact hst'.elim
     | exit id=>rw[hst'.1];simp
     | ret=>rw[hst'.1];simp
  have hend:=run_endLoop (P:=P) hL' hb
  have horp:=R1.orphan_kill hl rfl (by simp)
  have R2:=R1.kill hl
  have Rf:Rel N c ns A' μ' lam { s with heap:=upd h' s.nxt (some .dead),nxt:=n' } { a with defers:={ target:=.collected w.heap.size,args:= #[] }::a.defers } (w'.putObj (μ' s.nxt) (.loop { L' with state:=.exhausted })):=by
   refine R2.world (by simp) ?_ ?_ (fun q x hq=>putObj_shape _ hL' q x hq) (R2.defers.evo (fun r h=>World.putObj_heap_other (fun e=>by subst e;rw[hL']at h;simp at h)) (fun _ _ h=>h))
   ·rintro r (h | ⟨t,h,rfl⟩ | ⟨k,o',h,hlv,rfl⟩)
    ·exact World.putObj_heap_other (fun e=>horp.a (e▸h))
    ·exact World.putObj_heap_other (horp.l t h)
    ·exact World.putObj_heap_other (horp.h k o' h hlv)
   ·intro r h1 h2
    refine World.putObj_heap_other (fun e=> ?_)
    subst e
    rcases horp.x with h | h
    ·exact h2 h
    ·omega
  rw[hμ]at hend Rf
  generalize w'.putObj (w.heap.size+1) (.loop { L' with state:=.exhausted })=w4 at hend Rf
  refine⟨L'.pending,w4,hend,?_⟩
  cases st with
  | ready=>
    simp only[LSt.ends,Option.some.injEq]at he;subst he
    rw[hst'.2]
    exact⟨rfl,A',μ',lam,Rf⟩
  | enter=>simp[LSt.ends]at he
  | busy=>simp[LSt.ends]at he
  | done e0=>
    simp only[LSt.ends,Option.some.injEq]at he;subst he
    cases e0 with
    | normal=>exact hst'.elim
    | exit id=>
      rw[hst'.2]
      exact wpIn_exit ⟨rfl,A',μ',lam,Rf⟩
    | ret=>
      rw[hst'.2]
      exact wpIn_ret ⟨rfl,A',μ',lam,Rf⟩
theorem leave_marks {fn:Func} {tmps:Array Value} {Rr:Ending->World->Prop} (hw: ∀w',Rel N c ns A μ lam s { tmps:=tmps,defers:=[] } w'->LeavesIn (FW none) 0 P fn tmps Rr [] .returning w'):
 ∀(rs:List Nat) (w:World),rs.Nodup->(∀r∈rs,w.heap[r]? =some (Obj.deferred (some []))/\ ¬A r/\c.w0.heap.size<=r)->Rel N c ns A μ lam s { tmps:=tmps,defers:=[] } w->
  LeavesInM (FW none) 0 P fn tmps Rr (rs.map fun r=>{ target:=.collected r,args:= #[] }) .returning w
 | [],w,_,_,R=>hw w R
 | r::rs,w,hnd,h,R=>by
   obtain⟨h1,h2,h3⟩:=h r List.mem_cons_self
   obtain⟨n1,n2⟩:=List.nodup_cons.1 hnd
   refine⟨by simp,.inl ⟨r,w.putObj r (.deferred none),rfl,run_takeDeferred h1,leave_marks hw rs _ n2 (fun q hq=> ?_) ?_⟩⟩
   ·obtain⟨q1,q2,q3⟩:=h q (List.mem_cons_of_mem _ hq)
    have hqr:q≠r:=fun e=>n1 (e▸hq)
    exact⟨by rw[World.putObj_heap_other hqr];exact q1,q2,q3⟩
   ·refine R.world (by simp) ?_ ?_ ?_ (Marks.nil _ _ _)
    ·rintro q (g | ⟨t,g,rfl⟩ | ⟨k,o',g,hlv,rfl⟩)
     ·exact World.putObj_heap_other (fun e=>h2 (e▸g))
     ·exact World.putObj_heap_other (fun e=>R.ndef_loc g (e▸h1))
     ·exact World.putObj_heap_other (fun e=>R.ndef g hlv (e▸h1))
    ·intro q g1 _
     exact World.putObj_heap_other (by omega)
    ·intro q x hq
     by_cases e:q=r
     ·subst e;simp[World.shape?,h1]at hq
     ·simpa[World.shape?,World.putObj_heap_other e]using hq
theorem calls_of_body {g:Nat} {rf:Func} {body:Code} {args:Array Value} {Rr:Ending->World->Prop} (hf:P.funcs[g]? =some rf) (hb:rf.body=some body) {ex:Ex} {s':St} (hx: ∀id,ex≠ .exit id)
 (h:body.wpIn (FW none) 0 P (Post N c ns ex s') { tmps:=args++Array.replicate (rf.ntmps-args.size) undef,defers:=[] } w)
 (hR: ∀A μ lam tmps w',Rel N c ns A μ lam s' { tmps:=tmps,defers:=[] } w'-> ∃v,(results rf tmps).run P w'= .ok v w'/\Rr (.returned v) w'):
 Calls P g args w Rr:=by
 refine(callsIn_wide (n:=0)).1 (callsIn_of_wp_marks (F:=FW none) hf hb trivial (wpIn_mono h ?_))
 rintro e' a' w' ⟨rfl,A',μ',lam',R'⟩
 obtain⟨rs,g1,g2,g3⟩:=R'.defers
 have R'':Rel N c ns A' μ' lam' s' { tmps:=a'.tmps,defers:=[] } w':= { R' with defers:=Marks.nil _ _ _ }
 have hfin:=leave_marks (P:=P) (fn:=rf) (Rr:=Rr) (fun w'' R=>hR A' μ' lam' a'.tmps w'' R) rs w' g1 g3 R''
 rw[<- g2]at hfin
 cases ex with
 | normal=>exact hfin
 | ret=>exact hfin
 | exit id=>exact absurd rfl (hx id)
end
end Rg
end
