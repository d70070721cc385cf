/- Part of the proof of the laws of the package relyguardlaw36: an abstract machine for the program's functions, what they compute, and that the machine is the program's. No condition. (RgO RgQ) -/
import Derived.Test.YtaiokglcgiemnaaGreatDoorPartAG
import Derived.RangeFuncLeaves
section
namespace Rg
open Go
section
variable {P:Program} {N:Nam} {I:Inv} {c:Ctx} {ns p:Nat} {A:Nat->Prop} {μ lam:Nat->Nat} {s:St} {a:Act} {w:World} {e:Eff} {o:Oper}
theorem sound_of (R:Rel N c ns A μ lam s a w) {v:Value} (hrun:(execOp a.eval o).run P w= .ok (.value v) w) (hv:RepV w A N.nm μ s.heap v e.val) (h:e.loc=none/\e.wloc=none/\e.hp=[])
 (ha: ∀b o,e.adr=some (b,o)->(s.loc b).isSome=true/\v= .pointer (some ⟨lam b,o,none⟩))
 (hd: ∀x,o.dst=some x->x<ns) (hf:s.free o.dst e):Sound P N c ns o a w (s.apply o.dst e):=
 ⟨v,w,A,μ,lam,.inl hrun,R.put o.dst e v hd hf h.1 h.2.1 h.2.2 hv ha⟩
theorem kindOf_spec {t:TypeId} {kd:Nat} (h:kindOf P t=some kd): ∃d,P.underlying t=some d/\keyKind d=some kd:=by
 unfold kindOf at h
 split at h<;>first | (simp at h;done) | (rename_i hu;exact⟨_,hu,by simpa[keyKind]using h⟩)
theorem keyKindOf_spec {t:TypeId} {kd:Nat} (h:keyKindOf P t=some kd):KeyTy P t kd:=by
 unfold keyKindOf at h
 split at h
 ·rename_i k hk
  simp only[Option.some.injEq]at h;subst h
  obtain⟨d,h1,h2⟩:=kindOf_spec hk
  exact .inl ⟨d,h1,h2,hk⟩
 ·simp only[Option.map_eq_some_iff]at h
  obtain⟨ks,hks,rfl⟩:=h
  exact .inr ⟨ks,hks,rfl⟩
theorem trees_mapM {H:Nat->Option O} {d:Nat}: ∀{l:List V} {ts:List T},trees l=some ts->l.mapM (toT H d)=some ts/\l.flatMap (reach H d)=[]
 | [],ts,h=>by simp[trees]at h;subst h;exact⟨rfl,rfl⟩
 | .t y::r,ts,h=>by
   simp only[trees,Option.map_eq_some_iff]at h
   obtain⟨us,hu,rfl⟩:=h
   obtain⟨h1,h2⟩:=trees_mapM (H:=H) (d:=d) hu
   have e1:toT H d (.t y)=some y.norm:=by cases d<;>rfl
   have e2:reach H d (.t y)=[]:=by cases d<;>rfl
   rw[List.mapM_cons,e1,h1,List.flatMap_cons,e2,h2]
   exact⟨rfl,rfl⟩
 | .ms _ _ _::_,_,h | .mp _ _ _::_,_,h | .mm _::_,_,h | .yl _::_,_,h | .fn _ _ _::_,_,h | .agg _::_,_,h | .tup _::_,_,h | .undef::_,_,h | .lb::_,_,h=>by simp[trees]at h
theorem s_mkfnT (hI:I.Ok N) (R:Rel N c ns A μ lam s a w) {f k:Nat} {xs ys:Array Operand} {x':Opd} (hfi:I.fi f=some k) (hx:opds I xs=some []) (hy:opds I ys=some [x']) (ho:o.op= .makeFunc (.func f) xs ys)
 (hd: ∀x,o.dst=some x->x<ns) (hf:s.free o.dst e) (he:aeval N.G p s (.mkfnT k x')=some e):Sound P N c ns o a w (s.apply o.dst e):=by
 simp only[aeval,Option.bind_eq_bind,Option.bind_eq_some_iff]at he
 obtain⟨v,hv,he⟩:=he
 split at he
 ·rename_i q i0 o0
  split at he
  ·rename_i sz row frz hq
   split at he
   case isFalse=>simp at he
   rename_i h00
   obtain⟨rfl,rfl⟩:=h00
   simp only[Option.bind_eq_some_iff,Option.some.injEq]at he
   obtain⟨ts,hts,rfl⟩:=he
   have hmk:aeval N.G p s (.mkfn k [] [x'])=some { val:=.fn k [] [.mp q 0 0] }:=by
    simp[aeval,evls,hv,mkfnV,V.isCell]
   obtain⟨fv,hrun,hrep,_⟩:=s_mkfn (P:=P) hI R hfi hx hy hmk
   obtain⟨h1,h2⟩:=trees_mapM (H:=s.heap) (d:=998) hts
   have hT:toT s.heap 1000 (.fn k [] [.mp q 0 0])=some (.fn k [] [.ip ts]):=by
    simp[toT,hq,h1]
   have hR:reach s.heap 1000 (.fn k [] [.mp q 0 0])=[q]:=by
    simp[reach,hq,h2]
   have R1:=R.freeze hq
   have hrt:=toT_rep R.heap 1000 _ _ fv hT hrep
   rw[hR]at hrt
   have hfin:RepV w (fun r=>A r\/r=μ q) N.nm μ (upd s.heap q (some (.rows sz [row] true))) fv (.t (.fn k [] [.ip ts])):=by
    refine RepC.toV (RepC.t (hrt.mono (fun _ _=>rfl) ?_))
    rintro r (h | ⟨k',hk',_,rfl⟩)
    ·exact .inl h
    ·rw[List.mem_singleton]at hk';subst hk';exact .inr rfl
   have R2:=R1.put o.dst { val:=.t (.fn k [] [.ip ts]) } fv hd (fun d hdd=>hf d hdd) rfl rfl rfl hfin (by simp)
   exact⟨fv,w,_,μ,lam,.inl (by simp only[execOp,ho,Sem.run_bind,Sem.run_pure,hrun];rfl),R2⟩
  ·simp at he
 ·simp at he
theorem eff_sound (hI:I.Ok N) (R:Rel N c ns A μ lam s a w) {isL:Nat->Bool} {op:AOp} (hc:compOp P I isL o.dst o.op=some op) (he:aeval N.G p s op=some e)
 (hd: ∀x,o.dst=some x->x<ns) (hf:s.free o.dst e) (hk:s.heap (s.bas+p)=none) (hn:s.bas+p<s.nxt):Sound P N c ns o a w (s.apply o.dst e):=by
 generalize hop:o.op=rop at hc
 cases rop with
 | move x=>
   simp only[compOp,Option.map_eq_some_iff]at hc
   obtain⟨y,hy,rfl⟩:=hc
   obtain⟨h1,h2,h3,h4,h5⟩:=s_mv hI R hy he
   exact sound_of R (by simp[execOp,hop]) h1 ⟨h3,h4,h5⟩ (by simp[h2]) hd hf
 | assign x=>
   simp only[compOp,Option.map_eq_some_iff]at hc
   obtain⟨y,hy,rfl⟩:=hc
   obtain⟨h1,h2,h3,h4,h5⟩:=s_mv hI R hy he
   exact sound_of R (by simp[execOp,hop]) h1 ⟨h3,h4,h5⟩ (by simp[h2]) hd hf
 | pick c a' b=>
   simp only[compOp,Option.bind_eq_bind,Option.bind_eq_some_iff,Option.some.injEq]at hc
   obtain⟨yc,hyc,ya,hya,yb,hyb,rfl⟩:=hc
   obtain⟨t,ht,h1,h2,h3,h4,h5⟩:=s_pick hI R hyc hya hyb he
   exact sound_of R (by simp[execOp,hop,ht,asBool]) h1 ⟨h3,h4,h5⟩ (by simp[h2]) hd hf
 | alloc t=>
   simp only[compOp,Option.bind_eq_bind,Option.bind_eq_some_iff]at hc
   obtain⟨z,hz,hc⟩:=hc
   split at hc
   ·rename_i htB
    split at hc
    ·rename_i hl
     simp only[Option.some.injEq]at hc;subst hc
     exact s_allocB R hz hl.2 (hI.b _ htB) hop hd hf hk hn he
    ·cases hc
   split at hc
   ·rename_i hl
    simp only[Option.some.injEq]at hc;subst hc
    cases hdst:o.dst with
    | none=>simp[dstL,hdst]at hl
    | some d=>rw[<- hdst];exact s_allocL R hz hop hdst hd hf he
   ·simp only[Option.some.injEq]at hc;subst hc
    exact s_allocH R hz hop hd hf hk hn he
 | box t x=>
   simp only[compOp,Option.bind_eq_bind,Option.bind_eq_some_iff,Prod.exists]at hc
   obtain⟨ag,n,hty,y,hy,hc⟩:=hc
   split at hc
   ·rename_i hl
    simp only[Option.some.injEq]at hc;subst hc
    cases hdst:o.dst with
    | none=>simp[dstL,hdst]at hl
    | some d=>rw[<- hdst];exact s_boxL hI R hy hop hdst hd hf he
   ·simp only[Option.some.injEq]at hc;subst hc
    exact s_boxH hI R hy hop hd hf hk hn he
 | build t parts=>
   simp only[compOp,Option.bind_eq_bind,Option.bind_eq_some_iff]at hc
   obtain⟨z,hz,hc⟩:=hc
   split at hc
   ·rename_i fields hu
    simp only[Option.bind_eq_some_iff]at hc
    obtain⟨ps,hps,hc⟩:=hc
    split at hc
    ·rename_i hall
     simp only[Option.some.injEq]at hc;subst hc
     obtain⟨h1,h2⟩:=mapM_some hps
     have hg:Gives N A μ s w ((Instr.build t (parts.map fun(i,x)=>(i,a.eval x))).run P w) e:=by
      refine s_build hI R hz (.inl ⟨fields,hu,hall,rfl⟩) ⟨h1,fun i q hi=> ?_⟩ he
      obtain⟨⟨j,x⟩,hx,hf⟩:=h2 i q hi
      simp only[Option.bind_eq_some_iff,Option.some.injEq,Prod.exists]at hf
      obtain⟨f,hf1,ag,n,hty,y,hy,rfl⟩:=hf
      obtain⟨inf,g1,g2,_⟩:=typ_spec hty
      exact⟨(j,x),hx,by simp[hf1,g1,g2],hy⟩
     exact hg.sound R (by simp only[execOp,hop,Sem.run_bind,Sem.run_pure]) hd hf
    ·simp at hc
   ·rename_i len el hu
    simp only[Option.bind_eq_some_iff,Option.some.injEq,Prod.exists]at hc
    obtain⟨ag,n,hty,ps,hps,rfl⟩:=hc
    obtain⟨h1,h2⟩:=mapM_some hps
    have hg:Gives N A μ s w ((Instr.build t (parts.map fun(i,x)=>(i,a.eval x))).run P w) e:=by
     refine s_build hI R hz (.inr ⟨len,el,ag,n,hu,hty,rfl⟩) ⟨h1,fun i q hi=> ?_⟩ he
     obtain⟨⟨j,x⟩,hx,hf⟩:=h2 i q hi
     simp only[Option.bind_eq_some_iff,Option.some.injEq]at hf
     obtain⟨y,hy,rfl⟩:=hf
     exact⟨(j,x),hx,rfl,hy⟩
    exact hg.sound R (by simp only[execOp,hop,Sem.run_bind,Sem.run_pure]) hd hf
   ·simp at hc
 | buildSlice t len parts=>
   simp only[compOp]at hc
   split at hc
   ·rename_i el hu
    simp only[Option.bind_eq_bind,Option.bind_eq_some_iff,Prod.exists]at hc
    obtain⟨ag,n,hty,z,hz,ps,hps,hc⟩:=hc
    split at hc
    ·rename_i hcond
     simp only[Option.some.injEq]at hc;subst hc
     obtain⟨h1,h2⟩:=mapM_some hps
     refine s_bslice hI R hu hty hz hcond.2.2 hcond.1 ⟨h1,fun i q hi=> ?_⟩ hop hd hf hk hn he
     obtain⟨⟨j,x⟩,hx,hf⟩:=h2 i q hi
     simp only[Option.bind_eq_some_iff,Option.some.injEq]at hf
     obtain⟨y,hy,rfl⟩:=hf
     exact⟨(j,x),hx,rfl,hy⟩
    ·simp at hc
   ·simp at hc
 | load t x=>
   simp only[compOp,Option.bind_eq_bind,Option.bind_eq_some_iff,Prod.exists]at hc
   obtain⟨ag,n,hty,y,hy,hc⟩:=hc
   split at hc
   ·simp only[Option.some.injEq]at hc;subst hc
    exact(s_loadL (P:=P) R hy hty he).sound R (by simp only[execOp,hop,Sem.run_bind,Sem.run_pure]) hd hf
   ·simp only[Option.some.injEq]at hc;subst hc
    exact(s_load (P:=P) hI R hy hty he).sound R (by simp only[execOp,hop,Sem.run_bind,Sem.run_pure]) hd hf
 | store t x v=>
   simp only[compOp,Option.bind_eq_bind,Option.bind_eq_some_iff,Prod.exists]at hc
   obtain⟨ag,n,hty,y,hy,z,hz,hc⟩:=hc
   split at hc
   ·simp at hc
   ·rename_i hdn
    have hdn':o.dst=none:=by simpa using hdn
    split at hc
    ·simp only[Option.some.injEq]at hc;subst hc
     exact s_storeL hI R hy hz hty hop he hdn'
    ·simp only[Option.some.injEq]at hc;subst hc
     exact s_store hI R hy hz hty hop he hdn'
 | nilCheck x=>
   simp only[compOp,Option.map_eq_some_iff]at hc
   obtain⟨y,hy,rfl⟩:=hc
   obtain⟨v,h0,h1,h2,h3,h4,h5⟩:=s_nilchk (P:=P) hI R hy he o hop
   exact sound_of R h0 h1 ⟨h3,h4,h5⟩ (by simp[h2]) hd hf
 | binOp bop t x y yt=>
   simp only[compOp,Option.bind_eq_bind,Option.bind_eq_some_iff]at hc
   obtain⟨x',hx,y',hy,hc⟩:=hc
   have hrun:(execOp a.eval o).run P w=((do eqGuard bop t x y (a.eval x) (a.eval y);binOp bop t (a.eval x) (a.eval y):Sem Value).run P w).andThen fun v w'=> .ok (.value v) w':=by
    simp only[execOp,hop,Sem.run_bind,Sem.run_pure]
   split at hc
   ·simp only[Option.some.injEq]at hc;subst hc
    exact(s_bin (P:=P) hI R hx hy he t).sound R hrun hd hf
   ·simp only[Option.some.injEq]at hc;subst hc
    exact(s_bin (P:=P) hI R hx hy he t).sound R hrun hd hf
   ·rename_i hu
    split at hc
    ·simp only[Option.some.injEq]at hc;subst hc
     exact(s_eqb (P:=P) hI R hx hy he hu rfl).sound R hrun hd hf
    ·simp only[Option.some.injEq]at hc;subst hc
     exact(s_eqb (P:=P) hI R hx hy he hu rfl).sound R hrun hd hf
    ·simp at hc
   ·simp only[Option.bind_eq_some_iff]at hc
    obtain⟨ks,hks,hc⟩:=hc
    split at hc
    ·simp only[Option.some.injEq]at hc;subst hc
     exact(s_eqa2 (P:=P) hI R hx hy he hks rfl).sound R hrun hd hf
    ·simp only[Option.some.injEq]at hc;subst hc
     exact(s_eqa2 (P:=P) hI R hx hy he hks rfl).sound R hrun hd hf
    ·simp at hc
   ·simp at hc
 | unOp uop t x=>
   simp only[compOp,Option.map_eq_some_iff]at hc
   obtain⟨y,hy,rfl⟩:=hc
   exact(s_un (P:=P) hI R hy he).sound R (by simp only[execOp,hop,Sem.run_bind,Sem.run_pure]) hd hf
 | convert src dst x=>
   simp only[compOp,Option.bind_eq_bind,Option.bind_eq_some_iff]at hc
   obtain⟨y,hy,hc⟩:=hc
   split at hc
   ·rename_i h1 h2
    simp only[Option.some.injEq]at hc;subst hc
    exact(s_conv (P:=P) hI R hy he h1 h2).sound R (by simp only[execOp,hop,Sem.run_bind,Sem.run_pure]) hd hf
   ·rename_i h1 h2
    split at hc
    ·rename_i h3
     simp only[Option.some.injEq]at hc;subst hc
     exact(s_bstr (P:=P) hI R hy he h1 h2 h3).sound R (by simp only[execOp,hop,Sem.run_bind,Sem.run_pure]) hd hf
    ·cases hc
   ·simp at hc
 | makeFunc fn first cap=>
   cases fn with
   | func f=>
     simp only[compOp,Option.bind_eq_bind,Option.bind_eq_some_iff]at hc
     obtain⟨k,hk',xs,hxs,ys,hys,hc⟩:=hc
     split at hc
     ·simp only[Option.some.injEq]at hc;subst hc
      exact s_mkfnT hI R hk' hxs hys hop hd hf he
     simp only[Option.some.injEq]at hc;subst hc
     exact(s_mkfn (P:=P) hI R hk' hxs hys he).sound R (by simp only[execOp,hop,Sem.run_bind,Sem.run_pure]) hd hf
   | _=>simp[compOp]at hc
 | makeSlice t l cp=>
   simp only[compOp]at hc
   split at hc
   ·rename_i el hu
    simp only[Option.bind_eq_bind,Option.bind_eq_some_iff,Prod.exists]at hc
    obtain⟨ag,n,hty,z,hz,i,hi,l',hl,c',hc',hc⟩:=hc
    split at hc
    ·rename_i hcond
     simp only[Option.some.injEq]at hc;subst hc
     exact s_mkslice hI R hl hc' hu hty hz hi hop hcond.1 hd hf hk hn he
    ·simp at hc
   ·simp at hc
 | slice t x lo hi mx=>
   simp only[compOp,Option.bind_eq_bind,Option.bind_eq_some_iff]at hc
   obtain⟨y,hy,l,hl,h,hh,m,hm,hc⟩:=hc
   split at hc
   ·rename_i el hu
    simp only[Option.bind_eq_some_iff,Option.some.injEq,Prod.exists]at hc
    obtain⟨ag,n,hty,rfl⟩:=hc
    exact(s_slice (P:=P) hI R hy hl hh hm hu hty he).sound R (by simp only[execOp,hop,Sem.run_bind,Sem.run_pure]) hd hf
   ·rename_i hu
    split at hc
    ·rename_i hmn
     simp only[Option.some.injEq]at hc;subst hc
     have hmx:mx=none:=by
      cases mx with
      | none=>rfl
      | some z=>
        simp only[opdO,Option.map_eq_some_iff]at hm
        obtain⟨_,_,rfl⟩:=hm
        simp at hmn
     subst hmx
     exact(s_slstr (P:=P) hI R hy hl hh hu he).sound R (by simp only[execOp,hop,Sem.run_bind,Sem.run_pure,Option.map_none]) hd hf
    ·simp at hc
   ·simp at hc
 | fieldAddr t x f=>
   simp only[compOp,Option.bind_eq_bind,Option.bind_eq_some_iff]at hc
   obtain⟨y,hy,hc⟩:=hc
   split at hc
   ·rename_i fields hu
    simp only[Option.bind_eq_some_iff,Prod.exists]at hc
    obtain⟨fd,hfd,ag,n,hty,hc⟩:=hc
    split at hc
    ·rename_i hpos
     split at hc
     ·simp only[Option.some.injEq]at hc;subst hc
      obtain⟨v,h0,h1,h2,h3,h4,h5⟩:=s_faddrL (P:=P) R hy hu hfd hty hpos he
      exact sound_of R (v:=v) (by simp only[execOp,hop,Sem.run_bind,h0,Result.andThen_ok,Sem.run_pure]) h1 ⟨h2,h3,h4⟩ h5 hd hf
     ·simp only[Option.some.injEq]at hc;subst hc
      exact(s_faddr (P:=P) hI R hy hu hfd hty hpos he).sound R (by simp only[execOp,hop,Sem.run_bind,Sem.run_pure]) hd hf
    ·simp at hc
   ·simp at hc
 | field t x f=>
   simp only[compOp,Option.bind_eq_bind,Option.bind_eq_some_iff]at hc
   obtain⟨y,hy,hc⟩:=hc
   split at hc
   ·rename_i fields hu
    simp only[Option.bind_eq_some_iff,Option.some.injEq,Prod.exists]at hc
    obtain⟨fd,hfd,ag,n,hty,rfl⟩:=hc
    exact(s_field (P:=P) hI R hy hu hfd hty he).sound R (by simp only[execOp,hop,Sem.run_bind,Sem.run_pure]) hd hf
   ·simp at hc
 | indexAddr t x i=>
   simp only[compOp,Option.bind_eq_bind,Option.bind_eq_some_iff]at hc
   obtain⟨y,hy,j,hj,hc⟩:=hc
   split at hc
   ·rename_i el hu
    simp only[Option.bind_eq_some_iff,Option.some.injEq,Prod.exists]at hc
    obtain⟨ag,n,hty,rfl⟩:=hc
    exact(s_iaddrS (P:=P) hI R hy hj hu hty he).sound R (by simp only[execOp,hop,Sem.run_bind,Sem.run_pure]) hd hf
   ·rename_i len el hu
    simp only[Option.bind_eq_some_iff,Prod.exists]at hc
    obtain⟨ag,n,hty,hc⟩:=hc
    split at hc
    ·simp only[Option.some.injEq]at hc;subst hc
     obtain⟨v,h0,h1,h2,h3,h4,h5⟩:=s_iaddrAL (P:=P) hI R hy hj hu hty he
     exact sound_of R (v:=v) (by simp only[execOp,hop,Sem.run_bind,h0,Result.andThen_ok,Sem.run_pure]) h1 ⟨h2,h3,h4⟩ h5 hd hf
    ·simp only[Option.some.injEq]at hc;subst hc
     exact(s_iaddrA (P:=P) hI R hy hj hu hty he).sound R (by simp only[execOp,hop,Sem.run_bind,Sem.run_pure]) hd hf
   ·simp at hc
 | index t x i=>
   simp only[compOp,Option.bind_eq_bind,Option.bind_eq_some_iff]at hc
   obtain⟨y,hy,j,hj,hc⟩:=hc
   split at hc
   ·rename_i len el hu
    simp only[Option.bind_eq_some_iff,Option.some.injEq,Prod.exists]at hc
    obtain⟨ag,n,hty,rfl⟩:=hc
    exact(s_idxA (P:=P) hI R hy hj hu hty he).sound R (by simp only[execOp,hop,Sem.run_bind,Sem.run_pure]) hd hf
   ·rename_i hu
    simp only[Option.some.injEq]at hc;subst hc
    exact(s_idxS (P:=P) hI R hy hj hu he).sound R (by simp only[execOp,hop,Sem.run_bind,Sem.run_pure]) hd hf
   ·simp at hc
 | extract x i=>
   simp only[compOp,Option.bind_eq_bind,Option.bind_eq_some_iff,Option.some.injEq]at hc
   obtain⟨y,hy,rfl⟩:=hc
   exact(s_extr (P:=P) hI R hy he).sound R (by simp only[execOp,hop,Sem.run_bind,Sem.run_pure]) hd hf
 | makeMap t r=>
   simp only[compOp]at hc
   split at hc
   ·rename_i hu
    simp only[Option.some.injEq]at hc;subst hc
    exact s_mkmap R hu (by simp) hop hd hf hk hn he
   ·rename_i k n hu
    simp only[Option.some.injEq]at hc;subst hc
    exact s_mkmap R hu (fun x hx=>by simp only[Option.some.injEq]at hx;subst hx;exact⟨k,n,rfl⟩) hop hd hf hk hn he
   ·simp at hc
 | lookup t x y ok=>
   simp only[compOp,Option.bind_eq_bind,Option.bind_eq_some_iff]at hc
   obtain⟨x',hx,y',hy,hc⟩:=hc
   split at hc
   ·rename_i kt et hu
    simp only[Option.bind_eq_some_iff,Option.some.injEq]at hc
    obtain⟨kd,hkd,z,hz,rfl⟩:=hc
    exact(s_lookup (P:=P) hI R hx hy hu (keyKindOf_spec hkd) hz he).sound R (by simp only[execOp,hop,Sem.run_bind,Sem.run_pure]) hd hf
   ·simp at hc
 | mapUpdate t x y v=>
   simp only[compOp,Option.bind_eq_bind,Option.bind_eq_some_iff]at hc
   obtain⟨x',hx,y',hy,v',hv,hc⟩:=hc
   split at hc
   ·rename_i kt et hu
    simp only[Option.bind_eq_some_iff]at hc
    obtain⟨kd,hkd,hc⟩:=hc
    split at hc
    ·simp at hc
    ·rename_i hdn
     simp only[Option.some.injEq]at hc;subst hc
     exact s_mapupd hI R hx hy hv hu (keyKindOf_spec hkd) (.inl hop) he (by simpa using hdn)
   ·simp at hc
 | insert t x y v=>
   simp only[compOp,Option.bind_eq_bind,Option.bind_eq_some_iff]at hc
   obtain⟨x',hx,y',hy,v',hv,hc⟩:=hc
   split at hc
   ·rename_i kt et hu
    simp only[Option.bind_eq_some_iff]at hc
    obtain⟨kd,hkd,hc⟩:=hc
    split at hc
    ·simp at hc
    ·rename_i hdn
     simp only[Option.some.injEq]at hc;subst hc
     exact s_mapupd hI R hx hy hv hu (keyKindOf_spec hkd) (.inr hop) he (by simpa using hdn)
   ·simp at hc
 | call cl=>
   simp only[compOp]at hc
   split at hc
   ·simp at hc
   ·rename_i hb
    split at hc
    ·rename_i t x hat hag
     have hat':cl.argTypes= #[t]:=Array.toList_inj.1 hat
     have hag':cl.args= #[x]:=Array.toList_inj.1 hag
     have hex:=exec_len (P:=P) (w:=w) (a:=a) hop hb
     rw[hat',hag']at hex
     simp only[List.map_toArray,List.map_cons,List.map_nil]at hex
     split at hc
     ·rename_i el hu
      simp only[Option.map_eq_some_iff]at hc
      obtain⟨y,hy,rfl⟩:=hc
      exact(s_len (P:=P) hI R hy hu he).sound R hex hd hf
     ·rename_i hu
      simp only[Option.map_eq_some_iff]at hc
      obtain⟨y,hy,rfl⟩:=hc
      exact(s_slen (P:=P) hI R hy hu he).sound R hex hd hf
     ·rename_i n el hu
      simp only[Option.some.injEq]at hc;subst hc
      exact(s_lenA (P:=P) hu he).sound R hex hd hf
     ·simp at hc
    ·simp at hc
   ·rename_i hb
    split at hc
    ·rename_i t u x y hat hag
     simp only[Option.bind_eq_bind,Option.bind_eq_some_iff]at hc
     obtain⟨x',hx,y',hy,hc⟩:=hc
     split at hc
     ·rename_i el el' h1 h2
      simp only[Option.bind_eq_some_iff,Prod.exists]at hc
      obtain⟨ag,n,hty,i,hi,z,hz,hc⟩:=hc
      split at hc
      ·rename_i hcond
       simp only[Option.some.injEq]at hc;subst hc
       exact s_append hI R hx hy h1 h2 hty hi hz hcond.2 hcond.1 hop hb (Array.toList_inj.1 hat) (Array.toList_inj.1 hag) hd hf hk hn he
      ·simp at hc
     ·rename_i el k h1 h2
      simp only[Option.bind_eq_some_iff,Prod.exists]at hc
      obtain⟨ag,n,hty,i,hi,z,hz,hc⟩:=hc
      split at hc
      ·rename_i hcond
       simp only[Option.some.injEq]at hc;subst hc
       exact s_appz hI R hx hy h1 h2 hty hi hz hcond.1 hop hb (Array.toList_inj.1 hat) (Array.toList_inj.1 hag) hd hf hk hn he
      ·simp at hc
     ·simp at hc
    ·simp at hc
   ·rename_i hb
    split at hc
    ·rename_i t u x y hat hag
     simp only[Option.bind_eq_bind,Option.bind_eq_some_iff]at hc
     obtain⟨x',hx,y',hy,hc⟩:=hc
     split at hc
     ·rename_i el h1
      simp only[Option.bind_eq_some_iff,Prod.exists]at hc
      obtain⟨ag,n,hty,hc⟩:=hc
      split at hc
      ·rename_i hpos
       simp only[Option.some.injEq]at hc;subst hc
       exact s_copy hI R hx hy h1 hty hpos hop hb (Array.toList_inj.1 hat) (Array.toList_inj.1 hag) hd hf he
      ·simp at hc
     ·simp at hc
    ·simp at hc
   ·rename_i hb
    split at hc
    ·rename_i t1 t2 x y hat hag
     simp only[Option.bind_eq_bind,Option.bind_eq_some_iff,Option.some.injEq]at hc
     obtain⟨x',hx,y',hy,rfl⟩:=hc
     have hex:=exec_max (P:=P) (w:=w) (a:=a) hop hb
     rw[Array.toList_inj.1 (hag:cl.args.toList= #[x,y].toList)]at hex
     simp only[List.map_toArray,List.map_cons,List.map_nil]at hex
     exact(s_mx (P:=P) (mn:=false) hI R hx hy he cl.argTypes o.type).sound R hex hd hf
    ·simp at hc
   ·rename_i hb
    split at hc
    ·rename_i t1 t2 x y hat hag
     simp only[Option.bind_eq_bind,Option.bind_eq_some_iff,Option.some.injEq]at hc
     obtain⟨x',hx,y',hy,rfl⟩:=hc
     have hex:=exec_min (P:=P) (w:=w) (a:=a) hop hb
     rw[Array.toList_inj.1 (hag:cl.args.toList= #[x,y].toList)]at hex
     simp only[List.map_toArray,List.map_cons,List.map_nil]at hex
     exact(s_mx (P:=P) (mn:=true) hI R hx hy he cl.argTypes o.type).sound R hex hd hf
    ·simp at hc
   ·rename_i hb
    split at hc
    ·rename_i t x hat hag
     simp only[Option.bind_eq_bind,Option.bind_eq_some_iff]at hc
     obtain⟨x',hx,hc⟩:=hc
     split at hc
     ·rename_i el h1
      simp only[Option.bind_eq_some_iff,Prod.exists]at hc
      obtain⟨ag,n,hty,z,hz,hc⟩:=hc
      split at hc
      ·rename_i hpos
       simp only[Option.some.injEq]at hc;subst hc
       exact s_clear hI R hx h1 hty hpos.1 hz hpos.2 hop hb (Array.toList_inj.1 hat) (Array.toList_inj.1 hag) hd hf he
      ·simp at hc
     ·simp at hc
    ·simp at hc
   ·rename_i hb
    split at hc
    ·rename_i t x hat hag
     have hex:=exec_cap (P:=P) (w:=w) (a:=a) hop hb
     rw[Array.toList_inj.1 (hat:cl.argTypes.toList= #[t].toList),Array.toList_inj.1 (hag:cl.args.toList= #[x].toList)]at hex
     simp only[List.map_toArray,List.map_cons,List.map_nil]at hex
     split at hc
     ·rename_i el hu
      simp only[Option.map_eq_some_iff]at hc
      obtain⟨y,hy,rfl⟩:=hc
      exact(s_capN (P:=P) hI R hy hu he).sound R hex hd hf
     ·simp at hc
    ·simp at hc
   ·simp at hc
 | panic x=>
   simp only[compOp,Option.some.injEq]at hc
   subst hc
   simp[aeval]at he
 | makeInterface t x=>
   simp only[compOp,Option.some.injEq]at hc
   subst hc
   simp[aeval]at he
 | _=>simp[compOp]at hc
end
end Rg
end
section
namespace Rg
open Go
def RepArgs (w:World) (A:Nat->Prop) (nm μ:Nat->Nat) (H:Nat->Option O) (vs:Array Value) (xs:List V):Prop:=
 vs.size=xs.length/\ ∀(i:Nat) (x:V),xs[i]? =some x-> ∃v,vs[i]? =some v/\RepV w A nm μ H v x
theorem RepArgs.append {w:World} {A:Nat->Prop} {nm μ:Nat->Nat} {H:Nat->Option O} {vs us:Array Value} {xs ys:List V} (h:RepArgs w A nm μ H vs xs) (h':RepArgs w A nm μ H us ys):
 RepArgs w A nm μ H (vs++us) (xs++ys):=by
 refine⟨by simp[h.1,h'.1],fun i x hi=> ?_⟩
 rw[List.getElem?_append]at hi
 split at hi
 ·rename_i hlt
  obtain⟨v,hv,hr⟩:=h.2 i x hi
  exact⟨v,by rw[Array.getElem?_append_left (by rw[h.1];exact hlt)];exact hv,hr⟩
 ·rename_i hge
  obtain⟨v,hv,hr⟩:=h'.2 _ x hi
  exact⟨v,by rw[Array.getElem?_append_right (by rw[h.1];omega),h.1];exact hv,hr⟩
def GlobOK (N:Nam) (A:Nat->Prop) (w:World):Prop:=
 ∀(g j:Nat) (x:T),(N.G g)[j]? =some x->A (N.gm g)/\(∃e,w.shape? (N.gm g)=some (e,(N.G g).length))/\ ∃v,w.cell? ⟨N.gm g,j,none⟩=some v/\RepT w A N.nm v x
def PureOK (P:Program) (N:Nam) (g:Nat) (args:List V) (r:V):Prop:=
 ∀(A:Nat->Prop) (w:World) (vs:Array Value),(∀r,A r->r<w.heap.size)->GlobOK N A w->RepArgs w A N.nm (fun _=>0) (fun _=>none) vs args->
  Calls P (N.nm g) vs w fun e w'=> ∃v,e= .returned v/\(w'.os=w.os/\w'.output=w.output)/\w.heap.size<=w'.heap.size/\(∀q,q<w.heap.size->w'.heap[q]? =w.heap[q]?)/\
   RepV w' (fun q=>A q\/(w.heap.size<=q/\q<w'.heap.size)) N.nm (fun _=>0) (fun _=>none) v r
def FW (ro:Option Nat):Fence:={ Fence.wide with round:=ro }
theorem FW_room {ro:Option Nat} {k:Nat}:(FW ro).room k:=fun _ h=>by simp[FW,Fence.wide]at h
theorem FW_depth {ro:Option Nat} {n:Nat}:(FW ro).depth.isSome=true->1<=n:=fun h=>by simp[FW,Fence.wide]at h
theorem callsFW {P:Program} {ro:Option Nat} {n f:Nat} {args:Array Value} {w:World} {R:Ending->World->Prop} (h:Calls P f args w R):CallsIn (FW ro) n P f args w R:=(callsIn_wide (n:=n)).2 h
def exOf:Ex->Exit
 | .normal=> .normal
 | .exit id=> .exit id
 | .ret=> .ret
def Post (N:Nam) (c:Ctx) (ns:Nat) (ex:Ex) (s':St) (e:Exit) (a':Act) (w':World):Prop:=
 e=exOf ex/\ ∃A' μ' lam',Rel N c ns A' μ' lam' s' a' w'
def BodyOK (P:Program) (N:Nam) (bd:C) (s:St) (ex:Ex) (s':St):Prop:=
 ∀rc m,N.cr rc m bd-> ∀l c A μ lam a w,Rel N c m A μ lam s a w->rc.wpIn (FW (some l)) 0 P (Post N c m ex s') a w
def bareAct:Act:={ tmps:= #[],defers:=[] }
def RawOK (P:Program) (N:Nam) (g:Nat) (args:List V) (H:Nat->Option O) (n:Nat) (r:V) (H':Nat->Option O) (n':Nat):Prop:=
 ∀(c:Ctx) (A:Nat->Prop) (μ lam:Nat->Nat) (w:World) (vs:Array Value),Rel N c 0 A μ lam (.init [] H n) bareAct w->RepArgs w A N.nm μ H vs args->
  Calls P (N.nm g) vs w fun e w'=> ∃v A' μ' lam',e= .returned v/\Rel N c 0 A' μ' lam' (.init [] H' n') bareAct w'/\RepV w' A' N.nm μ' H' v r
structure Real (P:Program) (F:Nat) (rf:Func):Prop where
 f:P.funcs[F]? =some rf
 b:rf.body.isSome=true
 n : (rf.name == "runtime.NumGoroutine") = false
section
variable {P:Program} {N:Nam} {I:Inv} {c:Ctx} {ns p:Nat} {A:Nat->Prop} {μ lam:Nat->Nat} {s:St} {a:Act} {w:World} {e:Eff} {o:Oper} {ro:Option Nat}
theorem exec_call {cl:Call} {f:Operand} {F:Nat} {va vb:Array Value} {rf:Func} (ho:o.op= .call cl) (hb:cl.callee= .value f) (hv:a.eval f= .func (.func F) va vb) (hr:Real P F rf):
 (execOp a.eval o).run P w= .ok (.enter F (va++cl.args.map a.eval++vb)) w:=by
 have hbn:rf.body.isNone=false:=by have:=hr.b;cases h:rf.body<;>simp_all
 have hn:=hr.n
 simp only[execOp,ho,resolve,hb,Sem.run_bind,hv,Deferred.ofValue,Sem.run_pure,Result.andThen_ok,invoke,callFunc,run_program,hr.f,hn,hbn,Bool.false_eq_true,if_false]
theorem fn_inv {fv:V} {v:Value} {g:Nat} {as bs:List V} (hr:RepV w A N.nm μ s.heap v fv) (hf:fnOf fv=some (g,as,bs)):
 ∃va vb,v= .func (.func (N.nm g)) va vb/\RepArgs w A N.nm μ s.heap va as/\RepArgs w A N.nm μ s.heap vb bs:=by
 unfold fnOf at hf
 split at hf
 ·simp only[Option.some.injEq,Prod.mk.injEq]at hf
  obtain⟨rfl,rfl,rfl⟩:=hf
  cases(hr:RepC w A N.nm μ s.heap v _)with
  | fn _ _ _ va vb fa fb ha hb hva hra hvb hrb=>
    exact⟨va,vb,rfl,⟨ha,fun i x hi=>⟨fa i,hva i x hi,(hra i x hi).toV⟩⟩,⟨hb,fun i x hi=>⟨fb i,hvb i x hi,(hrb i x hi).toV⟩⟩⟩
 ·simp only[Option.some.injEq,Prod.mk.injEq]at hf
  obtain⟨rfl,rfl,rfl⟩:=hf
  cases hr.t_inv with
  | fn _ a b va vb fa fb ha hb hva hra hvb hrb=>
    refine⟨va,vb,rfl,⟨by simp[ha],fun i x hi=> ?_⟩,⟨by simp[hb],fun i x hi=> ?_⟩⟩
    ·simp only[List.getElem?_map,Option.map_eq_some_iff]at hi
     obtain⟨y,hy,rfl⟩:=hi
     exact⟨fa i,hva i y hy,(RepC.t (hra i y hy)).toV⟩
    ·simp only[List.getElem?_map,Option.map_eq_some_iff]at hi
     obtain⟨y,hy,rfl⟩:=hi
     exact⟨fb i,hvb i y hy,(RepC.t (hrb i y hy)).toV⟩
 ·simp only[Option.some.injEq,Prod.mk.injEq]at hf
  obtain⟨rfl,rfl,rfl⟩:=hf
  cases hr.t_inv with
  | fa _ c vc fc hc hvc hrc=>
    refine⟨#[.agg vc],#[],rfl,⟨rfl,fun i x hi=> ?_⟩,⟨rfl,fun i x hi=>by simp at hi⟩⟩
    cases i with
    | succ i=>simp at hi
    | zero=>
      simp only[List.getElem?_cons_zero,Option.some.injEq]at hi
      subst hi
      refine⟨.agg vc,rfl,?_⟩
      refine⟨vc,rfl,by simp[hc],fun j y hj=> ?_⟩
      simp only[List.getElem?_map,Option.map_eq_some_iff]at hj
      obtain⟨z,hz,rfl⟩:=hj
      exact⟨fc j,by simpa using hvc j z hz,.t (hrc j z hz)⟩
 ·simp at hf
theorem RepV1.mono {w:World} {A A':Nat->Prop} {nm μ:Nat->Nat} {H:Nat->Option O} {v:Value} {x:V} (h:RepV1 w A nm μ H v x) (hA: ∀r,A r->A' r):RepV1 w A' nm μ H v x:=
 h.evo ⟨fun _ _=>rfl,hA,fun _ o h=>⟨o,h,O.le_refl o,fun _=>rfl⟩,fun _ _ h=>h⟩
theorem RepV.mono {w:World} {A A':Nat->Prop} {nm μ:Nat->Nat} {H:Nat->Option O} {v:Value} {x:V} (h:RepV w A nm μ H v x) (hA: ∀r,A r->A' r):RepV w A' nm μ H v x:=
 h.evo ⟨fun _ _=>rfl,hA,fun _ o h=>⟨o,h,O.le_refl o,fun _=>rfl⟩,fun _ _ h=>h⟩
theorem RepV.noheap {w:World} {A:Nat->Prop} {nm μ μ':Nat->Nat} {H':Nat->Option O} {v:Value} {x:V} (h:RepV w A nm μ (fun _=>none) v x):RepV w A nm μ' H' v x:=
 h.evo ⟨fun _ _=>rfl,fun _ h=>h,fun _ _ h=>by simp at h,fun _ _ h=>h⟩
theorem freezes_back (H0:Nat->Option O): ∀(l:List Nat) (h:Nat->Option O) (k:Nat) (o:O),hpUpd h (Rg.freezes H0 l) k=some o->h k=some o\/ ∃sz rs f,H0 k=some (.rows sz rs f)
 | [],h,k,o,hk=> .inl hk
 | q::l,h,k,o,hk=>by
   by_cases hq: ∃sz rs f,H0 q=some (.rows sz rs f)
   ·obtain⟨sz,rs,f,hq⟩:=hq
    have:Rg.freezes H0 (q::l)=(q,.rows sz rs true)::Rg.freezes H0 l:=by simp[Rg.freezes,hq]
    rw[this]at hk
    rcases freezes_back H0 l _ k o hk with h1 | h1
    ·by_cases e:k=q
     ·subst e;exact .inr ⟨sz,rs,f,hq⟩
     ·rw[upd_other _ _ e]at h1;exact .inl h1
    ·exact .inr h1
   ·have:Rg.freezes H0 (q::l)=Rg.freezes H0 l:=by
     simp only[Rg.freezes,List.filterMap_cons]
     split
     ·rfl
     ·rename_i x hx
      split at hx
      ·rename_i sz rs f h;exact absurd ⟨sz,rs,f,h⟩ hq
      ·simp at hx
    rw[this]at hk
    exact freezes_back H0 l h k o hk
theorem pure_step (hI:I.Ok N) (R:Rel N c ns A μ lam s a w) {cl:Call} {f:Operand} {f':Opd} {args':List Opd} {fv:V} {g:Nat} {as bs vs rs:List V} {r:V} {rf:Func} {Q:Exit->Act->World->Prop}
 (ho:o.op= .call cl) (hb:cl.callee= .value f) (hf:opd I f=some f') (hargs:opds I cl.args=some args') (hfv:evl N.G s f'=some fv) (hfn:fnOf fv=some (g,as,bs))
 (hreal:Real P (N.nm g) rf) (hvs:evls N.G s args'=some vs) (hrs:(as++vs++bs).mapM (toT1 s.heap)=some rs) (hc:PureOK P N g rs r)
 (hd: ∀x,o.dst=some x->x<ns) (hfree:s.free o.dst {}):
 o.wpIn (FW ro) 0 P a w (fun a' w'=> ∃A' μ' lam',Rel N c ns A' μ' lam' (s.apply o.dst { val:=r,hp:=if r.scalar then []else freezes s.heap ((as++vs++bs).flatMap (reach1 s.heap)) }) a' w') Q:=by
 obtain⟨va,vb,hv,ha,hb'⟩:=fn_inv (opd_eval hI R hf hfv) hfn
 have hargsR:RepArgs w A N.nm μ s.heap (cl.args.map a.eval) vs:=opds_eval hI R hargs hvs
 have hall:=(ha.append hargsR).append hb'
 obtain⟨m1,m2⟩:=mapM_some hrs
 let A2:Nat->Prop:=fun r=>A r\/ ∃k∈(as++vs++bs).flatMap (reach1 s.heap),isRows s.heap k/\μ k=r
 have hA2lt: ∀r,A2 r->r<w.heap.size:=by
  rintro r (h | ⟨k,_,⟨sz,rs,f,hk⟩,rfl⟩)
  ·exact R.alt r h
  ·exact R.lt_live hk rfl
 have hgl:GlobOK N A2 w:=by
  intro g j x h
  obtain⟨h1,hte,v,hv,hr⟩:=R.glob g j x h
  exact⟨.inl h1,hte,v,hv,hr.mono (fun _ _=>rfl) (fun _ h=> .inl h)⟩
 have hrep:RepArgs w A2 N.nm (fun _=>0) (fun _=>none) (va++cl.args.map a.eval++vb) rs:=by
  refine⟨by rw[hall.1,m1],fun i x hi=> ?_⟩
  obtain⟨y,hy,ht⟩:=m2 i x hi
  obtain⟨v,hv,hr⟩:=hall.2 i y hy
  refine⟨v,hv,((toT1_rep R.heap ht hr (fun _=>0) (fun _=>none)).mono ?_).toV⟩
  rintro q (h | ⟨k,hk,h2⟩)
  ·exact .inl h
  ·exact .inr ⟨k,List.mem_flatMap.2 ⟨y,List.mem_of_getElem? hy,hk⟩,h2⟩
 have hcall:=hc A2 w _ hA2lt hgl hrep
 refine⟨fun _ _=>trivial,?_⟩
 rw[o.semAt_eq _ _ (by rw[ho];simp),exec_call ho hb hv hreal,Oper.uponIn_enter]
 refine⟨FW_depth,callsFW (hcall.mono ?_)⟩
 rintro e w' ⟨v,rfl,hov,hsz,hkeep,hrv⟩
 have hshp: ∀r x,w.shape? r=some x->w'.shape? r=some x:=by
  intro r x h
  have hlt:r<w.heap.size:=by
   rcases Nat.lt_or_ge r w.heap.size with h' | h'
   ·exact h'
   ·simp[World.shape?,Array.getElem?_eq_none h']at h
  simpa[World.shape?,hkeep r hlt]using h
 have R1:Rel N c ns A μ lam s a w':=by
  refine R.world hsz ?_ (fun r hr _=>hkeep r (Nat.lt_of_lt_of_le hr R.csize)) hshp (R.defers.evo (fun r h=>hkeep r (Array.getElem?_eq_some_iff.1 h).1) (fun _ _ h=>h)) hov
  rintro r (h | ⟨t,h,rfl⟩ | ⟨k,o',h,hl,rfl⟩)
  ·exact hkeep r (R.alt r h)
  ·exact hkeep _ (R.lt_loc h)
  ·exact hkeep _ (R.lt_live h hl)
 by_cases hs:r.scalar=true
 ·refine⟨A,μ,lam,?_⟩
  have:=R1.put o.dst { val:=r } v hd hfree rfl rfl rfl (hrv.scalar hs) (by simp)
  simpa[hs]using this
 ·obtain⟨A',R2,hsub,hin⟩:=Rel.freezes (μ:=μ) s.heap ((as++vs++bs).flatMap (reach1 s.heap)) A s R1 (fun k sz rs f h=>⟨f,h⟩)
  have R3:=R2.growA (fun q=>w.heap.size<=q/\q<w'.heap.size) (fun q hq t ht=>by have:=R.lt_loc ht;omega)
   (fun q hq k o hk hl=>by
     have : ∃o',s.heap k=some o'/\o'.live=true:=by
      rcases freezes_back s.heap _ _ k o hk with h | ⟨sz,rs,f,h⟩
      ·exact⟨o,h,hl⟩
      ·exact⟨_,h,rfl⟩
     obtain⟨o',h1,h2⟩:=this
     have:=R.lt_live h1 h2;omega)
   (fun q hq=> .inr (by have:=R.csize;omega)) (fun q hq=>hq.2) (R.defers.join R2.defers (fun q hq=>hq.1))
  refine⟨fun q=>A' q\/(w.heap.size<=q/\q<w'.heap.size),μ,lam,?_⟩
  have hfin:RepV w' (fun q=>A' q\/(w.heap.size<=q/\q<w'.heap.size)) N.nm μ (hpUpd s.heap (Rg.freezes s.heap ((as++vs++bs).flatMap (reach1 s.heap)))) v r:=by
   refine(RepV.noheap hrv).mono ?_
   rintro q ((h | ⟨k,hk,⟨sz,rs,f,hk2⟩,rfl⟩) | h)
   ·exact .inl (hsub q h)
   ·exact .inl (hin k hk sz rs f hk2)
   ·exact .inr h
  have:=R3.put o.dst { val:=r } v hd hfree rfl rfl rfl hfin (by simp)
  rw[if_neg hs]
  exact this
end
end Rg
end
