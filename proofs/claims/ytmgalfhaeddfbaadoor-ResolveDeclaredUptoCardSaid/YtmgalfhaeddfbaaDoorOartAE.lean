/- Part of the proof of laws of relyguardlaw04. No condition. -/
import Derived.Test.YtmgalfhaeddfbaaDoorOartAD
import Derived.RangeFuncLeaves
import Derived.RangeFuncRecord
set_option linter.unusedVariables false
set_option linter.unusedSimpArgs false
section
namespace Rg
open Go
section
variable {P:Program} {N:Nam} {I:Inv} {c:Ctx} {ns p:Nat} {A:Nat->Prop} {μ lam:Nat->Nat} {s:St} {a:Act} {w:World} {e:Eff} {o:Oper}
theorem zfW (R:Rel N c ns A μ lam s a w) {v:Value} (A3:(execOp a.eval o).run P w= .ok (.value v) w) (hv:zbl w A N.nm μ s.heap v e.val) (h:e.loc=none/\e.wloc=none/\e.hp=[])
 (ha: ∀b o,e.adr=some (b,o)->(s.loc b).isSome=true/\v= .pointer (some ⟨lam b,o,none⟩))
 (hd: ∀x,o.dst=some x->x<ns) (hf:s.free o.dst e):zeB P N c ns o a w (s.apply o.dst e):=
 ⟨v,w,A,μ,lam,.inl A3,R.put o.dst e v hd hf h.1 h.2.1 h.2.2 hv ha⟩
theorem zn6 {t:TypeId} {kd:Nat} (h:zdA P t=some kd): ∃d,P.underlying t=some d/\zfv d=some kd:=by
 unfold zdA at h;split at h<;>first | (simp at h;done) | (rename_i hu;exact⟨_,hu,by simpa[zfv]using h⟩)
theorem zet {t:TypeId} {kd:Nat} (h:zfu P t=some kd):ztx P t kd:=by
 unfold zfu at h;split at h
 ·rename_i k hk;simp only[zA]at h;subst h;obtain⟨d,h1,h2⟩:=zn6 hk;exact .inl ⟨d,h1,h2,hk⟩
 ·simp only[zE]at h;obtain⟨ks,Dn,rfl⟩:=h;exact .inr ⟨ks,Dn,rfl⟩
theorem zj9 {H:Nat->Option O} {d:Nat}: ∀{l:List V} {ts:List T},trees l=some ts->l.mapM (toT H d)=some ts/\l.flatMap (zca H d)=[]
 | [],ts,h=>by simp[trees]at h;subst h;exact⟨rfl,rfl⟩
 | .t y::r,ts,h=>by
   simp only[trees,zE]at h;obtain⟨us,hu,rfl⟩:=h;obtain⟨h1,h2⟩:=zj9 (H:=H) (d:=d) hu;have e1:toT H d (.t y)=some y.norm:=by cases d<;>rfl
   have e2:zca H d (.t y)=[]:=by cases d<;>rfl
   rw[List.mapM_cons,e1,h1,List.flatMap_cons,e2,h2]
   exact⟨rfl,rfl⟩
 | .ms _ _ _::_,_,h | .mp _ _ _::_,_,h | .mm _::_,_,h | .yl _::_,_,h | .ifc _ _::_,_,h | .fn _ _ _::_,_,h | .agg _::_,_,h | .tup _::_,_,h | .undef::_,_,h | .lb::_,_,h=>by simp[trees]at h
theorem zI5 {t:TypeId} (h:zHY P t=false): ∃d,P.underlying t=some d/\ ∀m,d≠ .interface m:=by
 unfold zHY at h;split at h
 ·cases h
 ·cases h
 ·rename_i h1 h2
  cases hu:P.underlying t with
  | none=>exact absurd hu h2
  | some d=>exact⟨d,rfl,fun m e=>h1 m (by rw[hu,e])⟩
theorem zNC (hI:I.Ok N) (R:Rel N c ns A μ lam s a w) {t:TypeId} {q:Nat×Nat} {x:Operand} {x':Opd} (hq:I.tys.find? (·.2==t)=some q) (hx:opd I x=some x') (Az:zHY P t=false)
 (he:zaj N.G p s (.mkif q.1 x')=some e):zdb N A μ s w ((Instr.makeInterface t (a.eval x)).run P w) e:=by
 simp only[zaj,zC,zB]at he;obtain⟨v,hv,he⟩:=he;split at he
 ·rename_i hc;simp only[zA]at he;subst he;obtain⟨d,hd,hn⟩:=zI5 Az;have SX:q.2=t:=by simpa using List.find?_some hq
  refine⟨.iface t (a.eval x),?_,RepC.toV (.ifc q.1 t v _ (by rw[<- SX];exact hI.ty q.1 q.2 (List.mem_of_find?_eq_some hq)) ((zat hI R hx hv).cell hc)),rfl,rfl,rfl,rfl⟩;cases d<;>first | exact absurd rfl (hn _) | simp[Instr.makeInterface,run_underlying hd]
 ·cases he
theorem RepT.nili_inv {w:World} {A:Nat->Prop} {nm:Nat->Nat} {v:Value} (h:RepT w A nm v .nili):v= .nilIface:=by cases h;rfl
theorem zbl.ifc_inv {w:World} {A:Nat->Prop} {nm μ:Nat->Nat} {H:Nat->Option O} {v:Value} {k:Nat} {x:V} (h:zbl w A nm μ H v (.ifc k x)): ∃t u,v= .iface t u/\nm k=10000000+t/\RepC w A nm μ H u x:=by
 cases(h:RepC w A nm μ H v (.ifc k x))with
 | ifc _ t _ u hk hx=>exact⟨t,u,rfl,hk,hx⟩
theorem zLB (hI:I.Ok N) (R:Rel N c ns A μ lam s a w) {t xt:TypeId} {q:Nat×Nat} {z:V} {ok:Bool} {x:Operand} {x':Opd} (hq:I.tys.find? (·.2==t)=some q) (hz:ztK P t=some z) (hx:opd I x=some x') (Az:zHY P t=false)
 (he:zaj N.G p s (.tassert q.1 z ok x')=some e):zdb N A μ s w ((Instr.typeAssert (a.eval x) xt t ok).run P w) e:=by
 simp only[zaj,zC,zB]at he;obtain⟨v,hv,he⟩:=he;obtain⟨d,hd,hn⟩:=zI5 Az;have SX:q.2=t:=by simpa using List.find?_some hq
 have hr:=zat hI R hx hv;split at he
 ·rename_i k v;split at he
  ·rename_i hk;subst hk;simp only[zA]at he;subst he;obtain⟨t',u,hu,hk,Nj⟩:=hr.ifc_inv
   have ht:t'=t:=by
    have h1:=hI.ty q.1 q.2 (List.mem_of_find?_eq_some hq);rw[SX,hk]at h1;exact Nat.add_left_cancel h1
   subst ht;refine⟨if ok then .tuple #[u,.bool true]else u,?_,?_,rfl,rfl,rfl,rfl⟩
   ·rw[hu];cases d<;>first | exact absurd rfl (hn _) | (cases ok<;>simp[Instr.typeAssert,run_underlying hd])
   ·cases ok
    ·exact Nj.toV
    ·refine⟨#[u,.bool true],rfl,rfl,fun i c hi=> ?_⟩
     match i,hi with
     | 0,hi=>cases hi;exact⟨u,rfl,Nj.toV1⟩
     | 1,hi=>cases hi;exact⟨_,rfl,RepC.t (.bool true)⟩
     | i+2,hi=>simp at hi
  ·cases he
 ·split at he
  ·rename_i Bm;subst Bm;simp only[zA]at he;subst he;have D7:a.eval x= .nilIface:=hr.t_inv.nili_inv;obtain⟨zv,UH,ON⟩:=zra (P:=P) (N:=N) (A:=A) (μ:=μ) (H:=s.heap) hz;refine⟨.tuple #[zv,.bool false],?_,?_,rfl,rfl,rfl,rfl⟩
   ·rw[D7];cases d<;>first | exact absurd rfl (hn _) | simp[Instr.typeAssert,run_underlying hd,UH]
   ·refine⟨#[zv,.bool false],rfl,rfl,fun i c hi=> ?_⟩
    match i,hi with
    | 0,hi=>cases hi;exact⟨zv,rfl,ON w⟩
    | 1,hi=>cases hi;exact⟨_,rfl,RepC.t (.bool false)⟩
    | i+2,hi=>simp at hi
  ·cases he
 ·cases he
theorem zwi (hI:I.Ok N) (R:Rel N c ns A μ lam s a w) {f k:Nat} {xs ys:Array Operand} {x':Opd} (BJ:I.fi f=some k) (hx:opds I xs=some []) (hy:opds I ys=some [x']) (ho:o.op= .makeFunc (.func f) xs ys)
 (hd: ∀x,o.dst=some x->x<ns) (hf:s.free o.dst e) (he:zaj N.G p s (.mkfnT k x')=some e):zeB P N c ns o a w (s.apply o.dst e):=by
 simp only[zaj,zC,zB]at he;obtain⟨v,hv,he⟩:=he;split at he
 ·rename_i q i0 o0;split at he
  ·rename_i sz row frz hq;split at he
   case isFalse=>simp at he
   rename_i Mi;obtain⟨rfl,rfl⟩:=Mi;simp only[zB,zA]at he;obtain⟨ts,FR,rfl⟩:=he
   have Jv:zaj N.G p s (.mkfn k [] [x'])=some { val:=.fn k [] [.mp q 0 0] }:=by
    simp[zaj,zgE,hv,zqq,V.isCell]
   obtain⟨fv,A3,Ae,_⟩:=zvF (P:=P) hI R BJ hx hy Jv;obtain⟨h1,h2⟩:=zj9 (H:=s.heap) (d:=998) FR
   have hT:toT s.heap 1000 (.fn k [] [.mp q 0 0])=some (.fn k [] [.ip ts]):=by
    simp[toT,hq,h1]
   have hR:zca s.heap 1000 (.fn k [] [.mp q 0 0])=[q]:=by
    simp[zca,hq,h2]
   have R1:=R.freeze hq;have DM:=zk8 R.heap 1000 _ _ fv hT Ae;rw[hR]at DM
   have Cf:zbl w (fun r=>A r\/r=μ q) N.nm μ (upd s.heap q (some (.rows sz [row] true))) fv (.t (.fn k [] [.ip ts])):=by
    refine RepC.toV (RepC.t (DM.mono (fun _ _=>rfl) ?_));rintro r (h | ⟨k',Ah,_,rfl⟩)
    ·exact .inl h
    ·rw[List.mem_singleton]at Ah;subst Ah;exact .inr rfl
   have R2:=R1.put o.dst { val:=.t (.fn k [] [.ip ts]) } fv hd (fun d IB=>hf d IB) rfl rfl rfl Cf (by simp);exact⟨fv,w,_,μ,lam,.inl (by simp only[execOp,ho,Sem.run_bind,Sem.run_pure,A3];rfl),R2⟩
  ·simp at he
 ·simp at he
theorem zsX (hI:I.Ok N) (R:Rel N c ns A μ lam s a w) {isL:Nat->Bool} {op:AOp} (hc:zbq P I isL o.dst o.op=some op) (he:zaj N.G p s op=some e)
 (hd: ∀x,o.dst=some x->x<ns) (hf:s.free o.dst e) (hk:s.heap (s.bas+p)=none) (hn:s.bas+p<s.nxt):zeB P N c ns o a w (s.apply o.dst e):=by
 generalize Ao:o.op=rop at hc
 cases rop with
 | move x=>
   simp only[zbq,zE]at hc;obtain⟨y,hy,rfl⟩:=hc;obtain⟨h1,h2,h3,h4,h5⟩:=zCu hI R hy he
   exact zfW R (by simp[execOp,Ao]) h1 ⟨h3,h4,h5⟩ (by simp[h2]) hd hf
 | assign x=>
   simp only[zbq,zE]at hc;obtain⟨y,hy,rfl⟩:=hc;obtain⟨h1,h2,h3,h4,h5⟩:=zCu hI R hy he
   exact zfW R (by simp[execOp,Ao]) h1 ⟨h3,h4,h5⟩ (by simp[h2]) hd hf
 | pick c a' b=>
   simp only[zbq,zC,zB,zA]at hc;obtain⟨yc,Hs,ya,P6,yb,Ml,rfl⟩:=hc;obtain⟨t,ht,h1,h2,h3,h4,h5⟩:=zxW hI R Hs P6 Ml he
   exact zfW R (by simp[execOp,Ao,ht,asBool]) h1 ⟨h3,h4,h5⟩ (by simp[h2]) hd hf
 | alloc t=>
   simp only[zbq,zC,zB]at hc;obtain⟨z,hz,hc⟩:=hc;split at hc
   ·rename_i MZ;split at hc
    ·rename_i hl;simp only[zA]at hc;subst hc;exact zua R hz hl.2 (hI.b _ MZ) Ao hd hf hk hn he
    ·cases hc
   split at hc
   ·rename_i hl;simp only[zA]at hc;subst hc
    cases AI:o.dst with
    | none=>simp[zyU,AI]at hl
    | some d=>rw[<- AI];exact zt8 R hz Ao AI hd hf he
   ·split at hc
    ·simp only[zA]at hc;subst hc;exact zMt R hz Ao hd hf hk hn he
    simp only[zA]at hc;subst hc
    exact zt9 R hz Ao hd hf hk hn he
 | box t x=>
   simp only[zbq,zC,zB,Prod.exists]at hc;obtain⟨ag,n,A4,y,hy,hc⟩:=hc;split at hc
   ·rename_i hl;simp only[zA]at hc;subst hc
    cases AI:o.dst with
    | none=>simp[zyU,AI]at hl
    | some d=>rw[<- AI];exact zx7 hI R hy Ao AI hd hf he
   ·split at hc
    ·simp only[zA]at hc;subst hc;exact zND hI R hy Ao hd hf hk hn he
    simp only[zA]at hc;subst hc
    exact zx8 hI R hy Ao hd hf hk hn he
 | build t parts=>
   simp only[zbq,zC,zB]at hc;obtain⟨z,hz,hc⟩:=hc;split at hc
   ·rename_i fields hu;simp only[zB]at hc;obtain⟨ps,Cd,hc⟩:=hc;split at hc
    ·rename_i Aa;simp only[zA]at hc;subst hc;obtain⟨h1,h2⟩:=zbb Cd
     have hg:zdb N A μ s w ((Instr.build t (parts.map fun(i,x)=>(i,a.eval x))).run P w) e:=by
      refine zrF hI R hz (.inl ⟨fields,hu,Aa,rfl⟩) ⟨h1,fun i q hi=> ?_⟩ he;obtain⟨⟨j,x⟩,hx,hf⟩:=h2 i q hi;simp only[zB,zA,Prod.exists]at hf;obtain⟨f,H6,ag,n,A4,y,hy,rfl⟩:=hf;obtain⟨inf,g1,g2,_⟩:=zbr A4;exact⟨(j,x),hx,by simp[H6,g1,g2],hy⟩
     exact hg.sound R (by simp only[execOp,Ao,Sem.run_bind,Sem.run_pure]) hd hf
    ·simp at hc
   ·rename_i len el hu;simp only[zB,zA,Prod.exists]at hc;obtain⟨ag,n,A4,ps,Cd,rfl⟩:=hc;obtain⟨h1,h2⟩:=zbb Cd
    have hg:zdb N A μ s w ((Instr.build t (parts.map fun(i,x)=>(i,a.eval x))).run P w) e:=by
     refine zrF hI R hz (.inr ⟨len,el,ag,n,hu,A4,rfl⟩) ⟨h1,fun i q hi=> ?_⟩ he;obtain⟨⟨j,x⟩,hx,hf⟩:=h2 i q hi;simp only[zB,zA]at hf;obtain⟨y,hy,rfl⟩:=hf;exact⟨(j,x),hx,rfl,hy⟩
    exact hg.sound R (by simp only[execOp,Ao,Sem.run_bind,Sem.run_pure]) hd hf
   ·simp at hc
 | buildSlice t len parts=>
   simp only[zbq]at hc;split at hc
   ·rename_i el hu;simp only[zC,zB,Prod.exists]at hc;obtain⟨ag,n,A4,z,hz,ps,Cd,hc⟩:=hc;split at hc
    ·rename_i Bw;simp only[zA]at hc;subst hc;obtain⟨h1,h2⟩:=zbb Cd;split at he
     ·refine zOz hI R hu A4 hz Bw.2.2 Bw.1 ⟨h1,fun i q hi=> ?_⟩ Ao hd hf he;obtain⟨⟨j,x⟩,hx,hf⟩:=h2 i q hi;simp only[zB,zA]at hf;obtain⟨y,hy,rfl⟩:=hf;exact⟨(j,x),hx,rfl,hy⟩
     refine zt6 hI R hu A4 hz Bw.2.2 Bw.1 ⟨h1,fun i q hi=> ?_⟩ Ao hd hf hk hn he;obtain⟨⟨j,x⟩,hx,hf⟩:=h2 i q hi;simp only[zB,zA]at hf;obtain⟨y,hy,rfl⟩:=hf;exact⟨(j,x),hx,rfl,hy⟩
    ·simp at hc
   ·simp at hc
 | load t x=>
   simp only[zbq,zC,zB,Prod.exists]at hc;obtain⟨ag,n,A4,y,hy,hc⟩:=hc;split at hc
   ·simp only[zA]at hc;subst hc;exact(zwj (P:=P) R hy A4 he).sound R (by simp only[execOp,Ao,Sem.run_bind,Sem.run_pure]) hd hf
   ·simp only[zA]at hc;subst hc
    exact(zxX (P:=P) hI R hy A4 he).sound R (by simp only[execOp,Ao,Sem.run_bind,Sem.run_pure]) hd hf
 | store t x v=>
   simp only[zbq,zC,zB,Prod.exists]at hc;obtain⟨ag,n,A4,y,hy,z,hz,hc⟩:=hc;split at hc
   ·simp at hc
   ·rename_i DQ;have LH:o.dst=none:=by simpa using DQ
    split at hc
    ·simp only[zA]at hc;subst hc;exact zt0 hI R hy hz A4 Ao he LH
    ·split at hc
     ·simp only[zA]at hc;subst hc;exact zMs hI R hy hz A4 Ao he LH
     simp only[zA]at hc;subst hc
     exact zwf hI R hy hz A4 Ao he LH
 | nilCheck x=>
   simp only[zbq,zE]at hc;obtain⟨y,hy,rfl⟩:=hc;obtain⟨v,h0,h1,h2,h3,h4,h5⟩:=zt1 (P:=P) hI R hy he o Ao
   exact zfW R h0 h1 ⟨h3,h4,h5⟩ (by simp[h2]) hd hf
 | binOp bop t x y yt=>
   simp only[zbq,zC,zB]at hc;obtain⟨x',hx,y',hy,hc⟩:=hc
   have A3:(execOp a.eval o).run P w=((do eqGuard bop t x y (a.eval x) (a.eval y);binOp bop t (a.eval x) (a.eval y):Sem Value).run P w).andThen fun v w'=> .ok (.value v) w':=by
    simp only[execOp,Ao,Sem.run_bind,Sem.run_pure]
   split at hc
   ·simp only[zA]at hc;subst hc;exact(zx9 (P:=P) hI R hx hy he t).sound R A3 hd hf
   ·simp only[zA]at hc;subst hc;exact(zx9 (P:=P) hI R hx hy he t).sound R A3 hd hf
   ·rename_i hu;split at hc
    ·simp only[zA]at hc;subst hc;exact(zx2 (P:=P) hI R hx hy he hu rfl).sound R A3 hd hf
    ·simp only[zA]at hc;subst hc;exact(zx2 (P:=P) hI R hx hy he hu rfl).sound R A3 hd hf
    ·simp at hc
   ·simp only[zB]at hc;obtain⟨ks,Dn,hc⟩:=hc;split at hc
    ·simp only[zA]at hc;subst hc;exact(zvG (P:=P) hI R hx hy he Dn rfl).sound R A3 hd hf
    ·simp only[zA]at hc;subst hc;exact(zvG (P:=P) hI R hx hy he Dn rfl).sound R A3 hd hf
    ·simp at hc
   ·simp at hc
 | unOp uop t x=>
   simp only[zbq,zE]at hc;obtain⟨y,hy,rfl⟩:=hc
   exact(zC2 (P:=P) hI R hy he).sound R (by simp only[execOp,Ao,Sem.run_bind,Sem.run_pure]) hd hf
 | convert src dst x=>
   simp only[zbq,zC,zB]at hc;obtain⟨y,hy,hc⟩:=hc;split at hc
   ·rename_i h1 h2;simp only[zA]at hc;subst hc;exact(zx4 (P:=P) hI R hy he h1 h2).sound R (by simp only[execOp,Ao,Sem.run_bind,Sem.run_pure]) hd hf
   ·rename_i h1 h2;split at hc
    ·rename_i h3;simp only[zA]at hc;subst hc;exact(zx6 (P:=P) hI R hy he h1 h2 h3).sound R (by simp only[execOp,Ao,Sem.run_bind,Sem.run_pure]) hd hf
    ·cases hc
   ·simp at hc
 | makeFunc fn first cap=>
   cases fn with
   | func f=>
     simp only[zbq,zC,zB]at hc;obtain⟨k,Ah,xs,Ka,ys,FN,hc⟩:=hc;split at hc
     ·simp only[zA]at hc;subst hc;exact zwi hI R Ah Ka FN Ao hd hf he
     simp only[zA]at hc;subst hc
     exact(zvF (P:=P) hI R Ah Ka FN he).sound R (by simp only[execOp,Ao,Sem.run_bind,Sem.run_pure]) hd hf
   | _=>simp[zbq]at hc
 | makeSlice t l cp=>
   simp only[zbq]at hc;split at hc
   ·rename_i el hu;simp only[zC,zB,Prod.exists]at hc;obtain⟨ag,n,A4,z,hz,i,hi,l',hl,c',Bz,hc⟩:=hc;split at hc
    ·rename_i Bw;simp only[zA]at hc;subst hc;exact zrC hI R hl Bz hu A4 hz hi Ao Bw.1 hd hf hk hn he
    ·simp at hc
   ·simp at hc
 | slice t x lo hi mx=>
   simp only[zbq,zC,zB]at hc;obtain⟨y,hy,l,hl,h,hh,m,hm,hc⟩:=hc;split at hc
   ·rename_i el hu;simp only[zB,zA,Prod.exists]at hc;obtain⟨ag,n,A4,rfl⟩:=hc;exact(zwh (P:=P) hI R hy hl hh hm hu A4 he).sound R (by simp only[execOp,Ao,Sem.run_bind,Sem.run_pure]) hd hf
   ·rename_i hu;split at hc
    ·rename_i SB;simp only[zA]at hc;subst hc
     have Km:mx=none:=by
      cases mx with
      | none=>rfl
      | some z=>
        simp only[znu,zE]at hm;obtain⟨_,_,rfl⟩:=hm;simp at SB
     subst Km;exact(zwg (P:=P) hI R hy hl hh hu he).sound R (by simp only[execOp,Ao,Sem.run_bind,Sem.run_pure,Option.map_none]) hd hf
    ·simp at hc
   ·rename_i n el hu;simp only[zB,Prod.exists]at hc;obtain⟨ag,k,A4,hc⟩:=hc;split at hc
    ·rename_i SB;obtain⟨SB,rfl,_⟩:=SB;simp only[zA]at hc;subst hc
     have Km:mx=none:=by
      cases mx with
      | none=>rfl
      | some z=>
        simp only[znu,zE]at hm;obtain⟨_,_,rfl⟩:=hm;simp at SB
     subst Km;exact(zM2 (P:=P) hI R hy hl hh hu A4 he).sound R (by simp only[execOp,Ao,Sem.run_bind,Sem.run_pure,Option.map_none]) hd hf
    ·cases hc
   ·simp at hc
 | fieldAddr t x f=>
   simp only[zbq,zC,zB]at hc;obtain⟨y,hy,hc⟩:=hc;split at hc
   ·rename_i fields hu;simp only[zB,Prod.exists]at hc;obtain⟨fd,D3,ag,n,A4,hc⟩:=hc;split at hc
    ·rename_i CB;split at hc
     ·simp only[zA]at hc;subst hc;obtain⟨v,h0,h1,h2,h3,h4,h5⟩:=zt5 (P:=P) R hy hu D3 A4 CB he;exact zfW R (v:=v) (by simp only[execOp,Ao,Sem.run_bind,h0,Result.andThen_ok,Sem.run_pure]) h1 ⟨h2,h3,h4⟩ h5 hd hf
     ·simp only[zA]at hc;subst hc;exact(zwl (P:=P) hI R hy hu D3 A4 CB he).sound R (by simp only[execOp,Ao,Sem.run_bind,Sem.run_pure]) hd hf
    ·simp at hc
   ·simp at hc
 | field t x f=>
   simp only[zbq,zC,zB]at hc;obtain⟨y,hy,hc⟩:=hc;split at hc
   ·rename_i fields hu;simp only[zB,zA,Prod.exists]at hc;obtain⟨fd,D3,ag,n,A4,rfl⟩:=hc;exact(zwk (P:=P) hI R hy hu D3 A4 he).sound R (by simp only[execOp,Ao,Sem.run_bind,Sem.run_pure]) hd hf
   ·simp at hc
 | indexAddr t x i=>
   simp only[zbq,zC,zB]at hc;obtain⟨y,hy,j,hj,hc⟩:=hc;split at hc
   ·rename_i el hu;simp only[zB,zA,Prod.exists]at hc;obtain⟨ag,n,A4,rfl⟩:=hc;exact(zt3 (P:=P) hI R hy hj hu A4 he).sound R (by simp only[execOp,Ao,Sem.run_bind,Sem.run_pure]) hd hf
   ·rename_i len el hu;simp only[zB,Prod.exists]at hc;obtain⟨ag,n,A4,hc⟩:=hc;split at hc
    ·simp only[zA]at hc;subst hc;obtain⟨v,h0,h1,h2,h3,h4,h5⟩:=zrE (P:=P) hI R hy hj hu A4 he;exact zfW R (v:=v) (by simp only[execOp,Ao,Sem.run_bind,h0,Result.andThen_ok,Sem.run_pure]) h1 ⟨h2,h3,h4⟩ h5 hd hf
    ·simp only[zA]at hc;subst hc;exact(zt4 (P:=P) hI R hy hj hu A4 he).sound R (by simp only[execOp,Ao,Sem.run_bind,Sem.run_pure]) hd hf
   ·simp at hc
 | index t x i=>
   simp only[zbq,zC,zB]at hc;obtain⟨y,hy,j,hj,hc⟩:=hc;split at hc
   ·rename_i len el hu;simp only[zB,zA,Prod.exists]at hc;obtain⟨ag,n,A4,rfl⟩:=hc;exact(zx0 (P:=P) hI R hy hj hu A4 he).sound R (by simp only[execOp,Ao,Sem.run_bind,Sem.run_pure]) hd hf
   ·rename_i hu;simp only[zA]at hc;subst hc;exact(zxZ (P:=P) hI R hy hj hu he).sound R (by simp only[execOp,Ao,Sem.run_bind,Sem.run_pure]) hd hf
   ·simp at hc
 | extract x i=>
   simp only[zbq,zC,zB,zA]at hc;obtain⟨y,hy,rfl⟩:=hc
   exact(zx1 (P:=P) hI R hy he).sound R (by simp only[execOp,Ao,Sem.run_bind,Sem.run_pure]) hd hf
 | makeMap t r=>
   simp only[zbq]at hc;split at hc
   ·rename_i hu;simp only[zA]at hc;subst hc;exact zrD R hu (by simp) Ao hd hf hk hn he
   ·rename_i k n hu;simp only[zA]at hc;subst hc;exact zrD R hu (fun x hx=>by simp only[zA]at hx;subst hx;exact⟨k,n,rfl⟩) Ao hd hf hk hn he
   ·simp at hc
 | lookup t x y ok=>
   simp only[zbq,zC,zB]at hc;obtain⟨x',hx,y',hy,hc⟩:=hc;split at hc
   ·rename_i kt et hu;simp only[zB,zA]at hc;obtain⟨kd,EL,z,hz,rfl⟩:=hc;exact(zt2 (P:=P) hI R hx hy hu (zet EL) hz he).sound R (by simp only[execOp,Ao,Sem.run_bind,Sem.run_pure]) hd hf
   ·simp at hc
 | mapUpdate t x y v=>
   simp only[zbq,zC,zB]at hc;obtain⟨x',hx,y',hy,v',hv,hc⟩:=hc;split at hc
   ·rename_i kt et hu;simp only[zB]at hc;obtain⟨kd,EL,hc⟩:=hc;split at hc
    ·simp at hc
    ·rename_i DQ;simp only[zA]at hc;subst hc;exact zoV hI R hx hy hv hu (zet EL) (.inl Ao) he (by simpa using DQ)
   ·simp at hc
 | insert t x y v=>
   simp only[zbq,zC,zB]at hc;obtain⟨x',hx,y',hy,v',hv,hc⟩:=hc;split at hc
   ·rename_i kt et hu;simp only[zB]at hc;obtain⟨kd,EL,hc⟩:=hc;split at hc
    ·simp at hc
    ·rename_i DQ;simp only[zA]at hc;subst hc;exact zoV hI R hx hy hv hu (zet EL) (.inr Ao) he (by simpa using DQ)
   ·simp at hc
 | call cl=>
   simp only[zbq]at hc;split at hc
   ·simp at hc
   ·rename_i hb;split at hc
    ·rename_i t x Bj Dh;have If:cl.argTypes= #[t]:=Array.toList_inj.1 Bj;have Oq:cl.args= #[x]:=Array.toList_inj.1 Dh;have AP:=zu5 (P:=P) (w:=w) (a:=a) Ao hb;rw[If,Oq]at AP;simp only[List.map_toArray,List.map_cons,List.map_nil]at AP;split at hc
     ·rename_i el hu;simp only[zE]at hc;obtain⟨y,hy,rfl⟩:=hc;exact(zBl (P:=P) hI R hy hu he).sound R AP hd hf
     ·rename_i hu;simp only[zE]at hc;obtain⟨y,hy,rfl⟩:=hc;exact(zxV (P:=P) hI R hy hu he).sound R AP hd hf
     ·rename_i n el hu;simp only[zA]at hc;subst hc;exact(zxY (P:=P) hu he).sound R AP hd hf
     ·simp at hc
    ·simp at hc
   ·rename_i hb;split at hc
    ·rename_i t u x y Bj Dh;simp only[zC,zB]at hc;obtain⟨x',hx,y',hy,hc⟩:=hc;split at hc
     ·rename_i el el' h1 h2;simp only[zB,Prod.exists]at hc;obtain⟨ag,n,A4,i,hi,z,hz,hc⟩:=hc;split at hc
      ·rename_i Bw;simp only[zA]at hc;subst hc;exact zt7 hI R hx hy h1 h2 A4 hi hz Bw.2 Bw.1 Ao hb (Array.toList_inj.1 Bj) (Array.toList_inj.1 Dh) hd hf hk hn he
      ·simp at hc
     ·rename_i el k h1 h2;simp only[zB,Prod.exists]at hc;obtain⟨ag,n,A4,i,hi,z,hz,hc⟩:=hc;split at hc
      ·rename_i Bw;simp only[zA]at hc;subst hc;exact zya hI R hx hy h1 h2 A4 hi hz Bw.1 Ao hb (Array.toList_inj.1 Bj) (Array.toList_inj.1 Dh) hd hf hk hn he
      ·simp at hc
     ·simp at hc
    ·simp at hc
   ·rename_i hb;split at hc
    ·rename_i t u x y Bj Dh;simp only[zC,zB]at hc;obtain⟨x',hx,y',hy,hc⟩:=hc;split at hc
     ·rename_i el h1;simp only[zB,Prod.exists]at hc;obtain⟨ag,n,A4,hc⟩:=hc;split at hc
      ·rename_i CB;simp only[zA]at hc;subst hc;exact zx3 hI R hx hy h1 A4 CB Ao hb (Array.toList_inj.1 Bj) (Array.toList_inj.1 Dh) hd hf he
      ·simp at hc
     ·simp at hc
    ·simp at hc
   ·rename_i hb;split at hc
    ·rename_i t1 t2 x y Bj Dh;simp only[zC,zB,zA]at hc;obtain⟨x',hx,y',hy,rfl⟩:=hc;have AP:=zu4 (P:=P) (w:=w) (a:=a) Ao hb;rw[Array.toList_inj.1 (Dh:cl.args.toList= #[x,y].toList)]at AP;simp only[List.map_toArray,List.map_cons,List.map_nil]at AP;exact(zCt (P:=P) (mn:=false) hI R hx hy he cl.argTypes o.type).sound R AP hd hf
    ·simp at hc
   ·rename_i hb;split at hc
    ·rename_i t1 t2 x y Bj Dh;simp only[zC,zB,zA]at hc;obtain⟨x',hx,y',hy,rfl⟩:=hc;have AP:=zu3 (P:=P) (w:=w) (a:=a) Ao hb;rw[Array.toList_inj.1 (Dh:cl.args.toList= #[x,y].toList)]at AP;simp only[List.map_toArray,List.map_cons,List.map_nil]at AP;exact(zCt (P:=P) (mn:=true) hI R hx hy he cl.argTypes o.type).sound R AP hd hf
    ·simp at hc
   ·rename_i hb;split at hc
    ·rename_i t x Bj Dh;simp only[zC,zB]at hc;obtain⟨x',hx,hc⟩:=hc;split at hc
     ·rename_i el h1;simp only[zB,Prod.exists]at hc;obtain⟨ag,n,A4,z,hz,hc⟩:=hc;split at hc
      ·rename_i CB;simp only[zA]at hc;subst hc;exact zwm hI R hx h1 A4 CB.1 hz CB.2 Ao hb (Array.toList_inj.1 Bj) (Array.toList_inj.1 Dh) hd hf he
      ·simp at hc
     ·simp at hc
    ·simp at hc
   ·rename_i hb;split at hc
    ·rename_i t x Bj Dh;have AP:=zu6 (P:=P) (w:=w) (a:=a) Ao hb;rw[Array.toList_inj.1 (Bj:cl.argTypes.toList= #[t].toList),Array.toList_inj.1 (Dh:cl.args.toList= #[x].toList)]at AP;simp only[List.map_toArray,List.map_cons,List.map_nil]at AP;split at hc
     ·rename_i el hu;simp only[zE]at hc;obtain⟨y,hy,rfl⟩:=hc;exact(zx5 (P:=P) hI R hy hu he).sound R AP hd hf
     ·simp at hc
    ·simp at hc
   ·simp at hc
 | panic x=>
   simp only[zbq,zA]at hc;subst hc
   simp[zaj]at he
 | makeInterface t x=>
   simp only[zbq]at hc;split at hc
   ·rename_i q hq;split at hc
    ·cases hc
    ·rename_i Az;simp only[zE]at hc;obtain⟨y,hy,rfl⟩:=hc;exact(zNC (P:=P) hI R hq hy (by simpa using Az) he).sound R (by simp only[execOp,Ao,Sem.run_bind,Sem.run_pure]) hd hf
   ·simp only[zA]at hc;subst hc
    simp[zaj]at he
 | typeAssert x xt t ok=>
   simp only[zbq,zC,zB]at hc;obtain⟨q,hq,z,hz,y,hy,hc⟩:=hc;split at hc
   ·cases hc
   ·rename_i Az;simp only[zA]at hc;subst hc
    exact(zLB (P:=P) (xt:=xt) hI R hq hz hy (by simpa using Az) he).sound R (by simp only[execOp,Ao,Sem.run_bind,Sem.run_pure]) hd hf
 | _=>simp[zbq]at hc
end
end Rg
end
section
namespace Rg
open Go
def zb1 (w:World) (A:Nat->Prop) (nm μ:Nat->Nat) (H:Nat->Option O) (vs:Array Value) (xs:List V):Prop:=
 vs.size=xs.length/\ ∀(i:Nat) (x:V),xs[i]? =some x-> ∃v,vs[i]? =some v/\zbl w A nm μ H v x
theorem zb1.append {w:World} {A:Nat->Prop} {nm μ:Nat->Nat} {H:Nat->Option O} {vs us:Array Value} {xs ys:List V} (h:zb1 w A nm μ H vs xs) (h':zb1 w A nm μ H us ys):
 zb1 w A nm μ H (vs++us) (xs++ys):=by
 refine⟨by simp[h.1,h'.1],fun i x hi=> ?_⟩;rw[List.getElem?_append]at hi;split at hi
 ·rename_i Ad;obtain⟨v,hv,hr⟩:=h.2 i x hi;exact⟨v,by rw[Array.getElem?_append_left (by rw[h.1];exact Ad)];exact hv,hr⟩
 ·rename_i Bv;obtain⟨v,hv,hr⟩:=h'.2 _ x hi;exact⟨v,by rw[Array.getElem?_append_right (by rw[h.1];omega),h.1];exact hv,hr⟩
def zpW (N:Nam) (A:Nat->Prop) (w:World):Prop:=
 ∀(g j:Nat) (x:T),(N.GL g)[j]? =some x->A (N.gm g)/\(∃e,w.shape? (N.gm g)=some (e,(N.GL g).length))/\ ∃v,w.cell? ⟨N.gm g,j,none⟩=some v/\RepT w A N.nm v x
def zjO (P:Program) (N:Nam) (g:Nat) (args:List V) (r:V):Prop:=
 ∀(A:Nat->Prop) (w:World) (vs:Array Value),(∀r,A r->r<w.heap.size)->zpW N A w->zb1 w A N.nm (fun _=>0) (fun _=>none) vs args->
  Calls P (N.nm g) vs w fun e w'=> ∃v,e= .returned v/\(w'.os=w.os/\w'.output=w.output)/\w.heap.size<=w'.heap.size/\(∀q,q<w.heap.size->w'.heap[q]? =w.heap[q]?)/\
   zbl w' (fun q=>A q\/(w.heap.size<=q/\q<w'.heap.size)) N.nm (fun _=>0) (fun _=>none) v r
def FW (ro:Option Nat):Fence:={ Fence.wide with round:=ro }
theorem zjQ {ro:Option Nat} {k:Nat}:(FW ro).room k:=fun _ h=>by simp[FW,Fence.wide]at h
theorem zhg {ro:Option Nat} {n:Nat}:(FW ro).depth.isSome=true->1<=n:=fun h=>by simp[FW,Fence.wide]at h
theorem zlS {P:Program} {ro:Option Nat} {n f:Nat} {args:Array Value} {w:World} {R:Ending->World->Prop} (h:Calls P f args w R):CallsIn (FW ro) n P f args w R:=(callsIn_wide (n:=n)).2 h
def zAL:Ex->Exit
 | .normal=> .normal
 | .exit id=> .exit id
 | .ret=> .ret
def ztw (N:Nam) (c:Ctx) (ns:Nat) (ex:Ex) (s':St) (e:Exit) (a':Act) (w':World):Prop:=
 e=zAL ex/\ ∃A' μ' lam',Rel N c ns A' μ' lam' s' a' w'
def zk5 (P:Program) (N:Nam) (bd:C) (s:St) (ex:Ex) (s':St):Prop:=
 ∀rc m,N.cr rc m bd-> ∀l c A μ lam a w,Rel N c m A μ lam s a w->rc.wpIn (FW (some l)) 0 P (ztw N c m ex s') a w
def zaM:Act:={ tmps:= #[],defers:=[] }
def zns (P:Program) (N:Nam) (g:Nat) (args:List V) (H:Nat->Option O) (n:Nat) (r:V) (H':Nat->Option O) (n':Nat):Prop:=
 ∀(c:Ctx) (A:Nat->Prop) (μ lam:Nat->Nat) (w:World) (vs:Array Value),Rel N c 0 A μ lam (.init [] H n) zaM w->zb1 w A N.nm μ H vs args->
  Calls P (N.nm g) vs w fun e w'=> ∃v A' μ' lam',e= .returned v/\Rel N c 0 A' μ' lam' (.init [] H' n') zaM w'/\zbl w' A' N.nm μ' H' v r
structure Real (P:Program) (F:Nat) (rf:Func):Prop where
 f:P.funcs[F]? =some rf
 b:rf.body.isSome=true
 n : (rf.name == "runtime.NumGoroutine") = false
section
variable {P:Program} {N:Nam} {I:Inv} {c:Ctx} {ns p:Nat} {A:Nat->Prop} {μ lam:Nat->Nat} {s:St} {a:Act} {w:World} {e:Eff} {o:Oper} {ro:Option Nat}
theorem zjo {cl:Call} {f:Operand} {F:Nat} {va vb:Array Value} {rf:Func} (ho:o.op= .call cl) (hb:cl.callee= .value f) (hv:a.eval f= .func (.func F) va vb) (hr:Real P F rf):
 (execOp a.eval o).run P w= .ok (.enter F (va++cl.args.map a.eval++vb)) w:=by
 have H8:rf.body.isNone=false:=by have:=hr.b;cases h:rf.body<;>simp_all
 have hn:=hr.n;simp only[execOp,ho,resolve,hb,Sem.run_bind,hv,Deferred.ofValue,Sem.run_pure,Result.andThen_ok,invoke,callFunc,run_program,hr.f,hn,H8,zG,if_false]
def zKF (P:Program) (t:TypeId) (ptr:Bool):Bool:=
 match P.underlying t with
 | some (.pointer _)=>ptr
 | some (.interface _)=>false
 | some _=> !ptr
 | none=>false
def zHK (P:Program) (t:TypeId) (name:String):Option FuncId:=do
 let i<- P.info? t
 let m<- i.methods.find? (·.name==name)
 let(f,ptr)<- m.func
 if m.path.size=0/\zKF P t ptr=true then some f else none
def zHJ (P:Program) (t:TypeId) (name:String):Option (FuncId×Nat):=do
 let i<- P.info? t
 let m<- i.methods.find? (·.name==name)
 let(f,ptr)<- m.func
 match m.path.toList with
 | [s]=>match P.underlying s.struct with
   | some (.struct fields)=>do
     let fl<- fields[s.index]?
     match P.underlying fl.type with
     | some (.slice _)=>if ptr=false/\s.deref=true/\typ P fl.type=some (false,1)then some (f,fl.offset)else none
     | _=>none
   | _=>none
 | _=>none
def zHk (I:Inv) (cl:Call) (f:Opd):Prop:= ∃f0,cl.callee= .value f0/\opd I f0=some f
def zPg (P:Program) (I:Inv) (ty:TypeId) (name:String) (g:Nat):Prop:=
 ∃F,(g<1000000/\zHK P ty name=some F/\I.fi F=some g)\/ ∃off g0,g0<1000000/\g=g0+1000000*(off+1)/\zHJ P ty name=some (F,off)/\I.fi F=some g0
def zMo (I:Inv) (cl:Call) (f:Opd):Prop:= ∃f0 k,cl.callee= .value f0/\opd I f0=some (.c (.t (.fn k [] [])))/\f= .c (.fn k [] [])
def zJ2 (P:Program) (I:Inv) (cl:Call) (f:Opd):Prop:=
 zHk I cl f\/zMo I cl f\/
 ∃t name mt,cl.callee= .invoke (.tmp t) name/\f= .m mt t/\ ∀k g,(k,g)∈mt-> ∃ty,(k,ty)∈I.tys/\zPg P I ty name g
theorem zKZ {t:TypeId} {ptr:Bool} {v:Value} {nm:Option String} (h:zKF P t ptr=true):(receiverAt t (.val v) ptr nm).run P w= .ok v w:=by
 unfold zKF at h
 cases hu:P.underlying t with
 | none=>rw[hu]at h;cases h
 | some d=>
   rw[hu]at h;cases d<;>cases ptr<;>first | (simp at h;done) | simp[receiverAt,run_underlying hu,Place.get]
theorem zJF {t:TypeId} {name:String} {F:FuncId} (h:zHK P t name=some F) (fuel:Nat) (v:Value):(method (fuel+1) t v name).run P w= .ok (F,v) w:=by
 simp only[zHK,zC,zB,Prod.exists]at h;obtain⟨i,hi,m,hm,f,ptr,hf,h⟩:=h
 by_cases hc:m.path.size=0/\zKF P t ptr=true
 ·rw[if_pos hc]at h;obtain rfl:=Option.some.inj h;have hp:m.path.toList=[]:=List.length_eq_zero_iff.1 (by simpa using hc.1);simp[method,Sem.run_bind,typeInfo,run_program,hi,hm,hp,follow,hf,zKZ hc.2]
 ·rw[if_neg hc]at h;cases h
theorem zJh {t:TypeId} {name:String} {F:FuncId} {off:Nat} (h:zHJ P t name=some (F,off)) (fuel:Nat) {r o:Nat} {v:Value} (hv:w.cell? ⟨r,o+off,none⟩=some v):
 (method (fuel+1) t (.pointer (some ⟨r,o,none⟩)) name).run P w= .ok (F,v) w:=by
 simp only[zHJ,zC,zB,Prod.exists]at h;obtain⟨i,hi,m,hm,f,ptr,hf,h⟩:=h;split at h
 ·rename_i s hp;split at h
  ·rename_i fields hu;simp only[zB]at h;obtain⟨fl,VL,h⟩:=h;split at h
   ·rename_i el BA;split at h
    ·rename_i hc;obtain⟨rfl,hd,A4⟩:=hc;simp only[zA,Prod.mk.injEq]at h;obtain⟨rfl,rfl⟩:=h;obtain⟨inf,g1,g2,g3,g4⟩:=zbr A4;have AS:inf.size≠0:=by omega
     have hl:=zdZ (w:=w) A4 r (o+fl.offset) [v] (by simp) (fun j x hj=>by
      match j,hj with
      | 0,hj=>cases hj;exact hv
      | j+1,hj=>simp at hj)
     simp[method,Sem.run_bind,typeInfo,run_program,hi,hm,hp,follow,run_underlying hu,VL,hd,asAddr,Place.get,fieldPlace,zaO g1,AS,zcL,hf,receiverAt,run_underlying BA,hl,zgJ]
    ·cases h
   ·cases h
  ·cases h
 ·cases h
theorem zJR {cl:Call} {t0:Nat} {name:String} {t:TypeId} {v v':Value} {F:FuncId} {rf:Func} (ho:o.op= .call cl) (hb:cl.callee= .invoke (.tmp t0) name) (hv:a.eval (.tmp t0)= .iface t v)
 (FY: ∀fuel,(method (fuel+1) t v name).run P w= .ok (F,v') w) (hr:Real P F rf):
 (execOp a.eval o).run P w= .ok (.enter F (#[v']++cl.args.map a.eval)) w:=by
 have H8:rf.body.isNone=false:=by have:=hr.b;cases h:rf.body<;>simp_all
 have hn:=hr.n;have FY:=FY (P.types.size+(Made.depth-1));have hd:P.types.size+Made.depth=P.types.size+(Made.depth-1)+1:=by simp[Made.depth]
 rw[<- hd]at FY
 have h0:(#[Value.iface t v]++cl.args.map a.eval)[0]? =some (Value.iface t v):=by
  rw[Array.getElem?_append_left (by simp)];rfl
 have h1:(#[Value.iface t v]++cl.args.map a.eval).extract 1 (#[Value.iface t v]++cl.args.map a.eval).size=cl.args.map a.eval:=by
  apply Array.ext';simp;exact List.take_of_length_le (by simp)
 simp only[execOp,ho,resolve,hb,Sem.run_bind,Sem.run_pure,Result.andThen_ok,hv,invoke,h0,h1,callMethod,run_program,FY,callFunc,hr.f,hn,H8,zG,if_false]
theorem zKs {cl:Call} {t0:Nat} {name:String} {t:TypeId} {v:Value} {F:FuncId} {rf:Func} (ho:o.op= .call cl) (hb:cl.callee= .invoke (.tmp t0) name) (hv:a.eval (.tmp t0)= .iface t v) (hm:zHK P t name=some F) (hr:Real P F rf):
 (execOp a.eval o).run P w= .ok (.enter F (#[v]++cl.args.map a.eval)) w:=by
 have H8:rf.body.isNone=false:=by have:=hr.b;cases h:rf.body<;>simp_all
 have hn:=hr.n;have FY:=zJF (P:=P) (w:=w) hm (P.types.size+(Made.depth-1)) v;have hd:P.types.size+Made.depth=P.types.size+(Made.depth-1)+1:=by simp[Made.depth]
 rw[<- hd]at FY
 have h0:(#[Value.iface t v]++cl.args.map a.eval)[0]? =some (Value.iface t v):=by
  rw[Array.getElem?_append_left (by simp)];rfl
 have h1:(#[Value.iface t v]++cl.args.map a.eval).extract 1 (#[Value.iface t v]++cl.args.map a.eval).size=cl.args.map a.eval:=by
  apply Array.ext';simp;exact List.take_of_length_le (by simp)
 simp only[execOp,ho,resolve,hb,Sem.run_bind,Sem.run_pure,Result.andThen_ok,hv,invoke,h0,h1,callMethod,run_program,FY,callFunc,hr.f,hn,H8,zG,if_false]
theorem zpw {fv:V} {v:Value} {g:Nat} {as bs:List V} (hr:zbl w A N.nm μ s.heap v fv) (hf:zfC fv=some (g,as,bs)):
 ∃va vb,v= .func (.func (N.nm g)) va vb/\zb1 w A N.nm μ s.heap va as/\zb1 w A N.nm μ s.heap vb bs/\ ∀H,zJ3 H as=some as:=by
 unfold zfC at hf;split at hf
 ·simp only[zA,Prod.mk.injEq]at hf;obtain⟨rfl,rfl,rfl⟩:=hf
  cases(hr:RepC w A N.nm μ s.heap v _)with
  | fn _ _ _ va vb fa fb ha hb Bu Cu Di Eb=>
    refine⟨va,vb,rfl,⟨ha,fun i x hi=>⟨fa i,Bu i x hi,(Cu i x hi).toV⟩⟩,⟨hb,fun i x hi=>⟨fb i,Di i x hi,(Eb i x hi).toV⟩⟩,fun H=> ?_⟩;unfold zJ3;split
    ·have h9:=Cu 0 _ rfl
     generalize fa 0=v0 at h9
     cases h9
    ·rfl
 ·simp only[zA,Prod.mk.injEq]at hf;obtain⟨rfl,rfl,rfl⟩:=hf
  cases hr.t_inv with
  | fn _ a b va vb fa fb ha hb Bu Cu Di Eb=>
    refine⟨va,vb,rfl,⟨by simp[ha],fun i x hi=> ?_⟩,⟨by simp[hb],fun i x hi=> ?_⟩,fun H=> ?_⟩
    ·simp only[zJ,zE]at hi;obtain⟨y,hy,rfl⟩:=hi;exact⟨fa i,Bu i y hy,(RepC.t (Cu i y hy)).toV⟩
    ·simp only[zJ,zE]at hi;obtain⟨y,hy,rfl⟩:=hi;exact⟨fb i,Di i y hy,(RepC.t (Eb i y hy)).toV⟩
    ·unfold zJ3;split
     ·rename_i he;obtain⟨y,r,_,h9,_⟩:=List.map_eq_cons_iff.1 he;cases h9
     ·rfl
 ·simp only[zA,Prod.mk.injEq]at hf;obtain⟨rfl,rfl,rfl⟩:=hf
  cases hr.t_inv with
  | fa _ c vc fc hc Fc Iy=>
    refine⟨#[.agg vc],#[],rfl,⟨rfl,fun i x hi=> ?_⟩,⟨rfl,fun i x hi=>by simp at hi⟩,fun H=>rfl⟩
    cases i with
    | succ i=>simp at hi
    | zero=>
      simp only[List.getElem?_cons_zero,zA]at hi;subst hi;refine⟨.agg vc,rfl,?_⟩;refine⟨vc,rfl,by simp[hc],fun j y hj=> ?_⟩;simp only[zJ,zE]at hj;obtain⟨z,hz,rfl⟩:=hj;exact⟨fc j,by simpa using Fc j z hz,.t (Iy j z hz)⟩
 ·simp at hf
theorem zI4 {α:Type} {k:Nat} {v:α}: ∀{l:List (Nat×α)},l.lookup k=some v->(k,v)∈l
 | [],h=>by simp at h
 | (a,b)::r,h=>by
   rw[List.lookup_cons]at h;split at h
   ·rename_i hk;simp only[beq_iff_eq]at hk;cases h;subst hk;exact List.mem_cons_self
   ·exact List.mem_cons_of_mem _ (zI4 h)
theorem zIF (hI:I.Ok N) (R:Rel N c ns A μ lam s a w) {cl:Call} {f':Opd} {fv:V} {g:Nat} {as bs:List V} {rf:Func} (ho:o.op= .call cl) (O1:zHk I cl f') (As:evl N.G s f'=some fv)
 (Ax:zfC fv=some (g,as,bs)) (An:Real P (N.nm g) rf):
 ∃va vb,zb1 w A N.nm μ s.heap va as/\zb1 w A N.nm μ s.heap vb bs/\(execOp a.eval o).run P w= .ok (.enter (N.nm g) (va++cl.args.map a.eval++vb)) w:=by
 obtain⟨f,hb,hf⟩:=O1;obtain⟨va,vb,hv,ha,Bf,_⟩:=zpw (zat hI R hf As) Ax;exact⟨va,vb,ha,Bf,zjo ho hb hv An⟩
theorem zLu {w:World} {A:Nat->Prop} {nm μ:Nat->Nat} {H:Nat->Option O} {v:Value} {x:V} (h:RepC w A nm μ H v x) (H':Nat->Option O):zJ3 H' [x]=some [x]:=by
 unfold zJ3;split
 ·rename_i he;cases he;cases h
 ·rfl
theorem zJY (hI:I.Ok N) (R:Rel N c ns A μ lam s a w) {cl:Call} {f':Opd} {fv:V} {g:Nat} {as0 as bs:List V} {rf:Func} (ho:o.op= .call cl) (O1:zJ2 P I cl f') (As:evl N.G s f'=some fv)
 (Ax:zfC fv=some (g,as0,bs)) (Bu:zJ3 s.heap as0=some as) (An:Real P (N.nm g) rf):
 ∃va vb,zb1 w A N.nm μ s.heap va as/\zb1 w A N.nm μ s.heap vb bs/\(execOp a.eval o).run P w= .ok (.enter (N.nm g) (va++cl.args.map a.eval++vb)) w:=by
 rcases O1 with⟨f,hb,hf⟩ | ⟨f,k,hb,hf,rfl⟩ | ⟨t,name,mt,hb,rfl,Mt⟩
 ·obtain⟨va,vb,hv,ha,Bf,h3⟩:=zpw (zat hI R hf As) Ax;rw[h3]at Bu;cases Bu;exact⟨va,vb,ha,Bf,zjo ho hb hv An⟩
 ·simp only[evl,zA]at As;subst As;simp only[zfC,zA,Prod.mk.injEq]at Ax;obtain⟨rfl,rfl,rfl⟩:=Ax;obtain⟨va,vb,hv,ha,Bf,h3⟩:=zpw (g:=k) (as:=[]) (bs:=[]) (zat hI R hf rfl) rfl;rw[h3]at Bu;cases Bu;exact⟨va,vb,ha,Bf,zjo ho hb hv An⟩
 ·have he:=R.env t;simp only[evl]at As;split at As
  ·rename_i k x hk;rw[hk]at he;simp only[zE]at As;obtain⟨g',hl,rfl⟩:=As;simp only[zfC,zA,Prod.mk.injEq]at Ax;obtain⟨rfl,rfl,rfl⟩:=Ax;obtain⟨ty,u,hu,T1,Nj⟩:=he.ifc_inv;obtain⟨ty',h1,F,hM⟩:=Mt k g' (zI4 hl);have h4:=hI.ty k ty' h1;obtain rfl:ty=ty':=by rw[T1]at h4;exact Nat.add_left_cancel h4
   rcases hM with⟨hg,h2,h3⟩ | ⟨off,g0,Po,rfl,h2,h3⟩
   ·have h5:=hI.f F g' h3;have SB:zLb g'=g':=Nat.mod_eq_of_lt hg;rw[SB]at An⊢;subst h5;unfold zLT at Bu;rw[if_pos hg,zLu Nj]at Bu;cases Bu;refine⟨#[u],#[],⟨rfl,fun i y hi=> ?_⟩,⟨rfl,fun i y hi=>by simp at hi⟩,?_⟩
    ·match i,hi with
     | 0,hi=>cases hi;exact⟨u,rfl,Nj.toV⟩
     | i+1,hi=>simp at hi
    ·have:=zKs (P:=P) (w:=w) (a:=a) ho hb (show a.eval (.tmp t)= .iface ty u from hu) h2 An;rw[this];simp
   ·have h5:=hI.f F g0 h3;have SB:zLb (g0+1000000*(off+1))=g0:=by rw[zLb,Nat.add_mul_mod_self_left];exact Nat.mod_eq_of_lt Po
    rw[SB]at An⊢;subst h5;have Vk:(g0+1000000*(off+1))/ 1000000-1=off:=by omega
    unfold zLT at Bu;rw[if_neg (by omega),Vk]at Bu;simp only[zJ3,Int.toNat_natCast,zE]at Bu;obtain⟨v,hv,rfl⟩:=Bu;unfold zO6 at hv;split at hv
    ·rename_i kk i o0;split at hv
     ·rename_i sz rs frz AB;simp only[zB]at hv;obtain⟨row,Ap,hv⟩:=hv;obtain⟨Fg,_⟩:=zbl.mp_inv Nj.toV AB;obtain⟨vs,Bb,AW⟩:=zmt R AB Ap;have Ad:o0+off<row.length:=(zH.1 hv).1;obtain⟨cv,Vm,Iy⟩:=Bb.2 (o0+off) v hv;have CG:=AW (o0+off) cv Vm;rw[<- Nat.add_assoc]at CG;refine⟨#[cv],#[],⟨rfl,fun i y hi=> ?_⟩,⟨rfl,fun i y hi=>by simp at hi⟩,?_⟩
      ·match i,hi with
       | 0,hi=>cases hi;exact⟨cv,rfl,Iy.toV⟩
       | i+1,hi=>simp at hi
      ·have:=zJR (P:=P) (w:=w) (a:=a) ho hb (show a.eval (.tmp t)= .iface ty u from hu) (fun fuel=>by rw[Fg];exact zJh h2 fuel CG) An;rw[this];simp
     ·cases hv
    ·cases hv
  ·cases As
theorem zcl.mono {w:World} {A A':Nat->Prop} {nm μ:Nat->Nat} {H:Nat->Option O} {v:Value} {x:V} (h:zcl w A nm μ H v x) (hA: ∀r,A r->A' r):zcl w A' nm μ H v x:=
 h.evo ⟨fun _ _=>rfl,hA,fun _ o h=>⟨o,h,O.le_refl o,fun _=>rfl⟩,fun _ _ h=>h⟩
theorem zbl.mono {w:World} {A A':Nat->Prop} {nm μ:Nat->Nat} {H:Nat->Option O} {v:Value} {x:V} (h:zbl w A nm μ H v x) (hA: ∀r,A r->A' r):zbl w A' nm μ H v x:=
 h.evo ⟨fun _ _=>rfl,hA,fun _ o h=>⟨o,h,O.le_refl o,fun _=>rfl⟩,fun _ _ h=>h⟩
theorem zbl.noheap {w:World} {A:Nat->Prop} {nm μ μ':Nat->Nat} {H':Nat->Option O} {v:Value} {x:V} (h:zbl w A nm μ (fun _=>none) v x):zbl w A nm μ' H' v x:=
 h.evo ⟨fun _ _=>rfl,fun _ h=>h,fun _ _ h=>by simp at h,fun _ _ h=>h⟩
theorem zfB (H0:Nat->Option O): ∀(l:List Nat) (h:Nat->Option O) (k:Nat) (o:O),zbf h (Rg.freezes H0 l) k=some o->h k=some o\/ ∃sz rs f,H0 k=some (.rows sz rs f)
 | [],h,k,o,hk=> .inl hk
 | q::l,h,k,o,hk=>by
   by_cases hq: ∃sz rs f,H0 q=some (.rows sz rs f)
   ·obtain⟨sz,rs,f,hq⟩:=hq;have:Rg.freezes H0 (q::l)=(q,.rows sz rs true)::Rg.freezes H0 l:=by simp[Rg.freezes,hq]
    rw[this]at hk;rcases zfB H0 l _ k o hk with h1 | h1
    ·by_cases e:k=q
     ·subst e;exact .inr ⟨sz,rs,f,hq⟩
     ·rw[zad _ _ e]at h1;exact .inl h1
    ·exact .inr h1
   ·have:Rg.freezes H0 (q::l)=Rg.freezes H0 l:=by
     simp only[Rg.freezes,List.filterMap_cons];split
     ·rfl
     ·rename_i x hx;split at hx
      ·rename_i sz rs f h;exact absurd ⟨sz,rs,f,h⟩ hq
      ·simp at hx
    rw[this]at hk;exact zfB H0 l h k o hk
theorem zrY (hI:I.Ok N) (R:Rel N c ns A μ lam s a w) {cl:Call} {f':Opd} {args':List Opd} {fv:V} {g:Nat} {as bs vs rs:List V} {r:V} {rf:Func} {Q:Exit->Act->World->Prop}
 (ho:o.op= .call cl) (O1:zHk I cl f') (B0:opds I cl.args=some args') (As:evl N.G s f'=some fv) (Ax:zfC fv=some (g,as,bs))
 (An:Real P (N.nm g) rf) (Au:zgE N.G s args'=some vs) (AD:(as++vs++bs).mapM (toT1 s.heap)=some rs) (hc:zjO P N g rs r)
 (hd: ∀x,o.dst=some x->x<ns) (Bd:s.free o.dst {}):
 o.wpIn (FW ro) 0 P a w (fun a' w'=> ∃A' μ' lam',Rel N c ns A' μ' lam' (s.apply o.dst { val:=r,hp:=if r.scalar then []else freezes s.heap ((as++vs++bs).flatMap (zba s.heap)) }) a' w') Q:=by
 obtain⟨va,vb,ha,Bf,Sh⟩:=zIF hI R ho O1 As Ax An;have BE:zb1 w A N.nm μ s.heap (cl.args.map a.eval) vs:=zdz hI R B0 Au;have Aa:=(ha.append BE).append Bf;obtain⟨m1,m2⟩:=zbb AD
 let A2:Nat->Prop:=fun r=>A r\/ ∃k∈(as++vs++bs).flatMap (zba s.heap),zmY s.heap k/\μ k=r
 have Mc: ∀r,A2 r->r<w.heap.size:=by
  rintro r (h | ⟨k,_,⟨sz,rs,f,hk⟩,rfl⟩)
  ·exact R.alt r h
  ·exact R.lt_live hk rfl
 have JI:zpW N A2 w:=by
  intro g j x h;obtain⟨h1,F1,v,hv,hr⟩:=R.glob g j x h;exact⟨.inl h1,F1,v,hv,hr.mono (fun _ _=>rfl) (fun _ h=> .inl h)⟩
 have Ae:zb1 w A2 N.nm (fun _=>0) (fun _=>none) (va++cl.args.map a.eval++vb) rs:=by
  refine⟨by rw[Aa.1,m1],fun i x hi=> ?_⟩;obtain⟨y,hy,ht⟩:=m2 i x hi;obtain⟨v,hv,hr⟩:=Aa.2 i y hy;refine⟨v,hv,((zk9 R.heap ht hr (fun _=>0) (fun _=>none)).mono ?_).toV⟩;rintro q (h | ⟨k,hk,h2⟩)
  ·exact .inl h
  ·exact .inr ⟨k,List.mem_flatMap.2 ⟨y,zL hy,hk⟩,h2⟩
 have Da:=hc A2 w _ Mc JI Ae;refine⟨fun _ _=>trivial,?_⟩;rw[o.semAt_eq _ _ (by rw[ho];simp),Sh,Oper.uponIn_enter];refine⟨zhg,zlS (Da.mono ?_)⟩;rintro e w' ⟨v,rfl,De,AS,Aq,DY⟩
 have Nh: ∀r x,w.shape? r=some x->w'.shape? r=some x:=by
  intro r x h
  have Ad:r<w.heap.size:=by
   rcases Nat.lt_or_ge r w.heap.size with h' | h'
   ·exact h'
   ·simp[World.shape?,Array.getElem?_eq_none h']at h
  simpa[World.shape?,Aq r Ad]using h
 have R1:Rel N c ns A μ lam s a w':=by
  refine R.world AS ?_ (fun r hr _=>Aq r (Nat.lt_of_lt_of_le hr R.csize)) Nh (R.defers.evo (fun r h=>Aq r (Array.getElem?_eq_some_iff.1 h).1) (fun _ _ h=>h)) De;rintro r (h | ⟨t,h,rfl⟩ | ⟨k,o',h,hl,rfl⟩)
  ·exact Aq r (R.alt r h)
  ·exact Aq _ (R.lt_loc h)
  ·exact Aq _ (R.lt_live h hl)
 by_cases hs:r.scalar=true
 ·refine⟨A,μ,lam,?_⟩;have:=R1.put o.dst { val:=r } v hd Bd rfl rfl rfl (DY.scalar hs) (by simp);simpa[hs]using this
 ·obtain⟨A',R2,D5,Aj⟩:=Rel.freezes (μ:=μ) s.heap ((as++vs++bs).flatMap (zba s.heap)) A s R1 (fun k sz rs f h=>⟨f,h⟩)
  have R3:=R2.growA (fun q=>w.heap.size<=q/\q<w'.heap.size) (fun q hq t ht=>by have:=R.lt_loc ht;omega)
   (fun q hq k o hk hl=>by
     have : ∃o',s.heap k=some o'/\o'.live=true:=by
      rcases zfB s.heap _ _ k o hk with h | ⟨sz,rs,f,h⟩
      ·exact⟨o,h,hl⟩
      ·exact⟨_,h,rfl⟩
     obtain⟨o',h1,h2⟩:=this
     have:=R.lt_live h1 h2;omega)
   (fun q hq=> .inr (by have:=R.csize;omega)) (fun q hq=>hq.2) (R.defers.join R2.defers (fun q hq=>hq.1))
  refine⟨fun q=>A' q\/(w.heap.size<=q/\q<w'.heap.size),μ,lam,?_⟩
  have Cf:zbl w' (fun q=>A' q\/(w.heap.size<=q/\q<w'.heap.size)) N.nm μ (zbf s.heap (Rg.freezes s.heap ((as++vs++bs).flatMap (zba s.heap)))) v r:=by
   refine(zbl.noheap DY).mono ?_;rintro q ((h | ⟨k,hk,⟨sz,rs,f,AF⟩,rfl⟩) | h)
   ·exact .inl (D5 q h)
   ·exact .inl (Aj k hk sz rs f AF)
   ·exact .inr h
  have:=R3.put o.dst { val:=r } v hd Bd rfl rfl rfl Cf (by simp);rw[if_neg hs];exact this
theorem zK2 {g:Nat} {args rs:List V} {r:V} {H:Nat->Option O} {n:Nat} (AD:args.mapM (toT1 H)=some rs) (hc:zjO P N g rs r):
 zns P N g args H n r (zbf H (if r.scalar then []else freezes H (args.flatMap (zba H)))) n:=by
 intro c A μ lam w vs R Aa;obtain⟨m1,m2⟩:=zbb AD
 let A2:Nat->Prop:=fun r=>A r\/ ∃k∈args.flatMap (zba H),zmY H k/\μ k=r
 have Mc: ∀r,A2 r->r<w.heap.size:=by
  rintro r (h | ⟨k,_,⟨sz,rs,f,hk⟩,rfl⟩)
  ·exact R.alt r h
  ·exact R.lt_live hk rfl
 have JI:zpW N A2 w:=by
  intro g j x h;obtain⟨h1,F1,v,hv,hr⟩:=R.glob g j x h;exact⟨.inl h1,F1,v,hv,hr.mono (fun _ _=>rfl) (fun _ h=> .inl h)⟩
 have Ae:zb1 w A2 N.nm (fun _=>0) (fun _=>none) vs rs:=by
  refine⟨by rw[Aa.1,m1],fun i x hi=> ?_⟩;obtain⟨y,hy,ht⟩:=m2 i x hi;obtain⟨v,hv,hr⟩:=Aa.2 i y hy;refine⟨v,hv,((zk9 R.heap ht hr (fun _=>0) (fun _=>none)).mono ?_).toV⟩;rintro q (h | ⟨k,hk,h2⟩)
  ·exact .inl h
  ·exact .inr ⟨k,List.mem_flatMap.2 ⟨y,zL hy,hk⟩,h2⟩
 refine(hc A2 w _ Mc JI Ae).mono ?_;rintro e w' ⟨v,rfl,De,AS,Aq,DY⟩
 have Nh: ∀r x,w.shape? r=some x->w'.shape? r=some x:=by
  intro r x h
  have Ad:r<w.heap.size:=by
   rcases Nat.lt_or_ge r w.heap.size with h' | h'
   ·exact h'
   ·simp[World.shape?,Array.getElem?_eq_none h']at h
  simpa[World.shape?,Aq r Ad]using h
 have R1:Rel N c 0 A μ lam (.init [] H n) zaM w':=by
  refine R.world AS ?_ (fun r hr _=>Aq r (Nat.lt_of_lt_of_le hr R.csize)) Nh (R.defers.evo (fun r h=>Aq r (Array.getElem?_eq_some_iff.1 h).1) (fun _ _ h=>h)) De;rintro r (h | ⟨t,h,rfl⟩ | ⟨k,o',h,hl,rfl⟩)
  ·exact Aq r (R.alt r h)
  ·exact Aq _ (R.lt_loc h)
  ·exact Aq _ (R.lt_live h hl)
 by_cases hs:r.scalar=true
 ·rw[if_pos hs];exact⟨v,A,μ,lam,rfl,R1,DY.scalar hs⟩
 ·rw[if_neg hs];obtain⟨A',R2,D5,Aj⟩:=Rel.freezes (μ:=μ) H (args.flatMap (zba H)) A (.init [] H n) R1 (fun k sz rs f h=>⟨f,h⟩)
  have R3:=R2.growA (fun q=>w.heap.size<=q/\q<w'.heap.size) (fun q hq t ht=>by simp[St.init]at ht)
   (fun q hq k o hk hl=>by
     have : ∃o',H k=some o'/\o'.live=true:=by
      rcases zfB H _ _ k o hk with h | ⟨sz,rs,f,h⟩
      ·exact⟨o,h,hl⟩
      ·exact⟨_,h,rfl⟩
     obtain⟨o',h1,h2⟩:=this
     have:=R.lt_live h1 h2;omega)
   (fun q hq=> .inr (by have:=R.csize;omega)) (fun q hq=>hq.2) (R.defers.join R2.defers (fun q hq=>hq.1))
  refine⟨v,fun q=>A' q\/(w.heap.size<=q/\q<w'.heap.size),μ,lam,rfl,R3,?_⟩;refine(zbl.noheap DY).mono ?_;rintro q ((h | ⟨k,hk,⟨sz,rs,f,AF⟩,rfl⟩) | h)
  ·exact .inl (D5 q h)
  ·exact .inl (Aj k hk sz rs f AF)
  ·exact .inr h
end
end Rg
end
section
namespace Rg
open Go
section
variable {P:Program} {N:Nam} {I:Inv} {c:Ctx} {ns p:Nat} {A:Nat->Prop} {μ lam:Nat->Nat} {s:St} {a:Act} {w:World} {e:Eff} {o:Oper} {ro:Option Nat}
theorem Rel.bare (R:Rel N c ns A μ lam s a w):Rel N ⟨w,MBH s.heap μ,A,s.heap,μ⟩ 0 A μ lam (.init [] s.heap s.nxt) zaM w where
 size:=rfl
 defers:=zdG.nil _ _ _
 env t:=by simp[St.init,zfz,zaM,zbl]
 loc t cs h:=by simp[St.init]at h
 adr t b o h:=by simp[St.init]at h
 heap:=R.heap
 hinj:=R.hinj
 linj t t' h:=by simp[St.init]at h
 lh t k o h:=by simp[St.init]at h
 aH:=R.aH
 aL r _:=by rintro⟨t,h,_⟩;simp[St.init]at h
 alt:=R.alt
 afz:=R.afz
 fresh:=R.fresh
 glob:=R.glob
 cout:=⟨rfl,rfl⟩
 csize:=Nat.le_refl _
 ckeep _ _ _:=rfl
 cshp _ _ h:=h
 csub _ h:=h
 canew _ h:=.inl h
 clive _ h:=.inl h
 cloc t h:=by simp[St.init]at h
 chp k o h:=⟨o,h,O.le_refl o,fun _=>rfl⟩
theorem Rel.back (R:Rel N c ns A μ lam s a w) {A':Nat->Prop} {μ' lam':Nat->Nat} {H':Nat->Option O} {n':Nat} {w':World}
 (R':Rel N ⟨w,MBH s.heap μ,A,s.heap,μ⟩ 0 A' μ' lam' (.init [] H' n') zaM w'):
 Evo w A μ s.heap w' A' μ' H'/\Rel N c ns A' μ' lam { s with heap:=H',nxt:=n' } a w':=by
 have E:Evo w A μ s.heap w' A' μ' H':=⟨fun r h=>R'.ckeep r (R.alt r h) (R.aH r h),R'.csub,R'.chp,R'.cshp⟩
 have hX: ∀t r,(s.loc t).isSome=true->MBH s.heap μ r->lam t≠r:=by
  rintro t r ht ⟨k,o,hk,_,hl,rfl⟩;exact R.lh t k o ht hk hl
 have AS:w.heap.size<=w'.heap.size:=R'.csize;have hA: ∀r,A' r->A r\/MBH s.heap μ r\/w.heap.size<=r:=R'.canew
 have D1: ∀k o,H' k=some o->o.live=true->A' (μ' k)\/MBH s.heap μ (μ' k)\/w.heap.size<=μ' k:=by
  intro k o h hl
  by_cases hf: ∃sz rs,o= .rows sz rs true
  ·obtain⟨sz,rs,rfl⟩:=hf;exact .inl (R'.afz k sz rs h)
  ·exact .inr (R'.clive _ ⟨k,o,h,fun sz rs e=>hf ⟨sz,rs,e⟩,hl,rfl⟩)
 have I2: ∀r:Nat,w.heap[r]? =some (Obj.deferred (some []))-> ¬MBH s.heap μ r:=by
  rintro r h ⟨k,o,hk,_,hl,rfl⟩;exact R.ndef hk hl h
 have JQ: ∀r:Nat,w.heap[r]? =some (Obj.deferred (some []))->w'.heap[r]? =w.heap[r]? :=fun r h=>R'.ckeep r (Array.getElem?_eq_some_iff.1 h).1 (I2 r h)
 have QH: ∀r:Nat,w.heap[r]? =some (Obj.deferred (some []))->A' r->A r:=by
  intro r h hr;rcases hA r hr with h1 | h1 | h1
  ·exact h1
  ·exact absurd h1 (I2 r h)
  ·have:=(Array.getElem?_eq_some_iff.1 h).1;omega
 refine⟨E,{ R with defers:=R.defers.evo JQ QH,env:=fun t=>(R.env t).evo E,loc:= ?_,heap:=R'.heap,hinj:=R'.hinj,lh:= ?_,aH:=R'.aH,aL:= ?_,alt:=R'.alt,afz:=R'.afz,fresh:=R'.fresh,glob:=R'.glob,cout:=⟨R'.cout.1.trans R.cout.1,R'.cout.2.trans R.cout.2⟩,csize:=Nat.le_trans R.csize AS,ckeep:= ?_,cshp:= ?_,csub:= ?_,canew:= ?_,clive:= ?_,chp:= ?_ }⟩
 ·intro t cs h;obtain⟨h1,h2⟩:=R.loc t cs h;have ht:(s.loc t).isSome=true:=by rw[h];rfl
  exact⟨h1,h2.evo E (R'.ckeep _ (R.lt_loc ht) (fun hm=>hX t _ ht hm rfl))⟩
 ·intro t k o ht h hl he;rcases D1 k o h hl with h1 | h1 | h1
  ·rcases hA _ h1 with h2 | h2 | h2
   ·exact R.aL _ h2 ⟨t,ht,he⟩
   ·exact hX t _ ht h2 he
   ·have:=R.lt_loc ht;omega
  ·exact hX t _ ht h1 he
  ·have:=R.lt_loc ht;omega
 ·rintro r hr ⟨t,ht,he⟩;rcases hA r hr with h2 | h2 | h2
  ·exact R.aL _ h2 ⟨t,ht,he⟩
  ·exact hX t _ ht h2 he
  ·have:=R.lt_loc ht;omega
 ·intro r h1 h2;rw[R'.ckeep r (Nat.lt_of_lt_of_le h1 R.csize) ?_]
  ·exact R.ckeep r h1 h2
  ·intro hm;rcases R.clive r hm with h | h
   ·exact h2 h
   ·omega
 ·intro r x h;exact R'.cshp r x (R.cshp r x h)
 ·intro r h;exact R'.csub r (R.csub r h)
 ·intro r h;rcases hA r h with h | h | h
  ·exact R.canew r h
  ·exact .inr (R.clive r h)
  ·exact .inr (.inr (Nat.le_trans R.csize h))
 ·intro r h;rcases R'.clive r h with h | h
  ·exact R.clive r h
  ·exact .inr (Nat.le_trans R.csize h)
 ·intro k o h;obtain⟨o1,h1,h2,h3⟩:=R.chp k o h;obtain⟨o2,h4,h5,h6⟩:=R'.chp k o1 h1;refine⟨o2,h4,O.le_trans h2 h5,fun hl=> ?_⟩
  have AO:o1.live=true:=by
   cases o1<;>first | rfl | (cases o2<;>simp_all [O.le,O.live])
  have e1:=h6 hl;have e2:=h3 AO;simp only at e1;rw[e1,e2]
theorem zul (hI:I.Ok N) (R:Rel N c ns A μ lam s a w) {cl:Call} {f':Opd} {args':List Opd} {fv:V} {g:Nat} {as0 as bs vs:List V} {r:V} {rf:Func} {H':Nat->Option O} {n':Nat} {Q:Exit->Act->World->Prop}
 (ho:o.op= .call cl) (O1:zJ2 P I cl f') (B0:opds I cl.args=some args') (As:evl N.G s f'=some fv) (Ax:zfC fv=some (g,as0,bs)) (Bu:zJ3 s.heap as0=some as)
 (An:Real P (N.nm g) rf) (Au:zgE N.G s args'=some vs) (hc:zns P N g (as++vs++bs) s.heap s.nxt r H' n')
 (hd: ∀x,o.dst=some x->x<ns) (Bd:s.free o.dst {}):
 o.wpIn (FW ro) 0 P a w (fun a' w'=> ∃A' μ' lam',Rel N c ns A' μ' lam' ({ s with heap:=H',nxt:=n' }.apply o.dst { val:=r }) a' w') Q:=by
 obtain⟨va,vb,ha,Bf,Sh⟩:=zJY hI R ho O1 As Ax Bu An;have BE:zb1 w A N.nm μ s.heap (cl.args.map a.eval) vs:=zdz hI R B0 Au;have Da:=hc _ A μ lam w _ R.bare ((ha.append BE).append Bf);refine⟨fun _ _=>trivial,?_⟩;rw[o.semAt_eq _ _ (by rw[ho];simp),Sh,Oper.uponIn_enter];refine⟨zhg,zlS (Da.mono ?_)⟩;rintro e w' ⟨v,A',μ',lam',rfl,R',hr⟩;obtain⟨_,R1⟩:=R.back R';exact⟨A',μ',lam,R1.put o.dst { val:=r } v hd Bd rfl rfl rfl hr (by simp)⟩
theorem zlq {key:Nat} {r:V} {h:Nat->Option O} {e:Eff} (he:zqm key r h=some e): ∀x∈e.hp,x.1=key:=by
 unfold zqm at he;split at he
 ·simp only[zA]at he;subst he;intro x hx;simp at hx
 ·simp only[zA]at he;subst he;intro x hx;simp at hx
 ·split at he
  ·split at he
   ·simp only[zA]at he;subst he;intro x hx;simp only[List.mem_singleton]at hx;rw[hx]
   ·simp at he
  ·simp at he
 ·split at he
  ·split at he
   ·simp only[zA]at he;subst he;intro x hx;simp only[List.mem_singleton]at hx;rw[hx]
   ·simp at he
  ·simp at he
 ·simp at he
theorem zeP {key:Nat} {r:V} {h:Nat->Option O} {e:Eff} (he:zqm key r h=some e):e.adr=none/\e.loc=none/\e.wloc=none:=by
 unfold zqm at he;split at he
 ·simp only[zA]at he;subst he;exact⟨rfl,rfl,rfl⟩
 ·simp only[zA]at he;subst he;exact⟨rfl,rfl,rfl⟩
 ·split at he
  ·split at he
   ·simp only[zA]at he;subst he;exact⟨rfl,rfl,rfl⟩
   ·simp at he
  ·simp at he
 ·split at he
  ·split at he
   ·simp only[zA]at he;subst he;exact⟨rfl,rfl,rfl⟩
   ·simp at he
  ·simp at he
 ·simp at he
theorem zqD (hI:I.Ok N) (R:Rel N c ns A μ lam s a w) {cl:Call} {f':Opd} {args':List Opd} {fv:V} {g:Nat} {as bs vs rs:List V} {r:V} {rf:Func} {H':Nat->Option O} {n':Nat} {e:Eff} {Q:Exit->Act->World->Prop}
 (ho:o.op= .call cl) (O1:zHk I cl f') (B0:opds I cl.args=some args') (As:evl N.G s f'=some fv) (Ax:zfC fv=some (g,as,bs))
 (An:Real P (N.nm g) rf) (Au:zgE N.G s args'=some vs) (AD:(as++vs++bs).mapM (toT1 s.heap)=some rs) (EA:(as++vs++bs).flatMap (zba s.heap)=[]) (hc:zns P N g rs (fun _=>none) 0 r H' n')
 (he:zqm (s.bas+p) r H'=some e) (hd: ∀x,o.dst=some x->x<ns) (Bd:s.free o.dst {}) (hk:s.heap (s.bas+p)=none) (hn:s.bas+p<s.nxt):
 o.wpIn (FW ro) 0 P a w (fun a' w'=> ∃A' μ' lam',Rel N c ns A' μ' lam' (s.apply o.dst e) a' w') Q:=by
 obtain⟨va,vb,ha,Bf,Sh⟩:=zIF hI R ho O1 As Ax An;have BE:zb1 w A N.nm μ s.heap (cl.args.map a.eval) vs:=zdz hI R B0 Au;have Aa:=(ha.append BE).append Bf;obtain⟨m1,m2⟩:=zbb AD
 have Ae:zb1 w A N.nm (fun _=>0) (fun _=>none) (va++cl.args.map a.eval++vb) rs:=by
  refine⟨by rw[Aa.1,m1],fun i x hi=> ?_⟩;obtain⟨y,hy,ht⟩:=m2 i x hi;obtain⟨v,hv,hr⟩:=Aa.2 i y hy;refine⟨v,hv,((zk9 R.heap ht hr (fun _=>0) (fun _=>none)).mono ?_).toV⟩;rintro q (h | ⟨k,hk,h2⟩)
  ·exact h
  ·have:zba s.heap y=[]:=by
    rw[List.flatMap_eq_nil_iff]at EA;exact EA y (zL hy)
   rw[this]at hk;simp at hk
 have HR:Rel N ⟨w,fun _=>False,A,fun _=>none,fun _=>0⟩ 0 A (fun _=>0) (fun _=>0) (.init [] (fun _=>none) 0) zaM w:=
  { size:=rfl,defers:=zdG.nil _ _ _,env:=fun t=>by simp[St.init,zfz,zaM,zbl],loc:=fun t cs h=>by simp[St.init]at h,adr:=fun t b o h=>by simp[St.init]at h,
    heap:=fun k o h=>by simp[St.init]at h,hinj:=fun k k' o o' h=>by simp[St.init]at h,linj:=fun t t' h=>by simp[St.init]at h,lh:=fun t k o h=>by simp[St.init]at h,
    aH:=fun r _=>by rintro⟨k,o,h,_⟩;simp[St.init]at h,aL:=fun r _=>by rintro⟨t,h,_⟩;simp[St.init]at h,alt:=R.alt,afz:=fun k sz rs h=>by simp[St.init]at h,fresh:=fun _ _=>rfl,
    glob:=R.glob,cout:=⟨rfl,rfl⟩,csize:=Nat.le_refl _,ckeep:=fun _ _ _=>rfl,cshp:=fun _ _ h=>h,csub:=fun _ h=>h,canew:=fun _ h=> .inl h,clive:=fun r=>by rintro⟨k,o,h,_⟩;simp[St.init]at h,
    cloc:=fun t h=>by simp[St.init]at h,chp:=fun k o h=>by simp at h }
 have Da:=hc _ A (fun _=>0) (fun _=>0) w _ HR Ae;refine⟨fun _ _=>trivial,?_⟩;rw[o.semAt_eq _ _ (by rw[ho];simp),Sh,Oper.uponIn_enter];refine⟨zhg,zlS (Da.mono ?_)⟩;rintro e0 w' ⟨v,A',μ',lam',rfl,R',DY⟩;have Aq: ∀q,q<w.heap.size->w'.heap[q]? =w.heap[q]? :=fun q hq=>R'.ckeep q hq (fun h=>h)
 have AS:w.heap.size<=w'.heap.size:=R'.csize
 have R1:Rel N c ns A μ lam s a w':=by
  refine R.world AS ?_ (fun r hr _=>Aq r (Nat.lt_of_lt_of_le hr R.csize)) R'.cshp (R.defers.evo (fun r h=>Aq r (Array.getElem?_eq_some_iff.1 h).1) (fun _ _ h=>h)) R'.cout;rintro r (h | ⟨t,h,rfl⟩ | ⟨k,o',h,hl,rfl⟩)
  ·exact Aq r (R.alt r h)
  ·exact Aq _ (R.lt_loc h)
  ·exact Aq _ (R.lt_live h hl)
 unfold zqm at he;split at he
 ·simp only[zA]at he;subst he;have D7:RepT w' A' N.nm v .nils:=DY.t_inv;refine⟨A,μ,lam,R1.put o.dst { val:=.t .nils } v hd Bd rfl rfl rfl ?_ (by simp)⟩
  cases D7 with
  | nils a=>exact(RepC.t (.nils a)).toV
 ·simp only[zA]at he;subst he;have D7:RepT w' A' N.nm v (.sl []):=DY.t_inv;refine⟨A,μ,lam,R1.put o.dst { val:=.t (.sl []) } v hd Bd rfl rfl rfl ?_ (by simp)⟩
  cases D7 with
  | sl0 a cap=>exact(RepC.t (.sl0 a cap)).toV
  | sl _ _ _ _ _ _ h0=>exact absurd h0 (by simp)
 ·rename_i k i n;split at he
  ·rename_i sz rws AB;split at he
   ·rename_i Bw;obtain⟨rfl,rfl,FS⟩:=Bw;simp only[zA]at he;subst he;have GA:=R'.heap k _ AB;have D1:MBH (St.init [] H' n').heap μ' (μ' k):=⟨k,_,AB,by intro sz rs h;simp at h,rfl,rfl⟩
    have OX:w.heap.size<=μ' k:=by
     rcases R'.clive _ D1 with h | h
     ·exact h.elim
     ·exact h
    have hq: ¬A' (μ' k):=fun h=>R'.aH _ h D1
    have R2:=R1.growA (fun q=>A' q/\w.heap.size<=q) (fun q hq t ht=>by have:=R.lt_loc ht;omega) (fun q hq k o hk hl=>by have:=R.lt_live hk hl;omega)
     (fun q hq=> .inr (by have:=R.csize;omega)) (fun q hq=>R'.alt q hq.1) (R.defers.join R1.defers (fun q hq=>hq.2))
    have Rs: ∀q,A' q->A q\/(A' q/\w.heap.size<=q):=by
     intro q hq;rcases R'.canew q hq with h | h | h
     ·exact .inl h
     ·exact h.elim
     ·exact .inr ⟨hq,h⟩
    have Dl:Orphan c (fun q=>A q\/(A' q/\w.heap.size<=q)) μ lam s (μ' k):=by
     refine⟨?_,fun t ht e=> ?_,fun k1 o1 h1 l1 e=> ?_,.inr (by have:=R.csize;omega)⟩
     ·rintro(h | h)
      ·have:=R.alt _ h;omega
      ·exact hq h.1
     ·have:=R.lt_loc ht;omega
     ·have:=R.lt_live h1 l1;omega
    obtain⟨cc,e1,z,g1,g2,g3,g4,g5⟩:=GA
    have MX: ∀(i:Nat) (row:List V) (j:Nat) (x:V),rws[i]? =some row->row[j]? =some x-> ∃y,x= .t y:=by
     intro i row j x hi hj;have h1:=List.all_eq_true.1 FS row (zL hi);have h2:=List.all_eq_true.1 h1 x (zL hj)
     cases x with
     | t y=>exact⟨y,rfl⟩
     | _=>simp[V.isTr]at h2
    have KW:zq3 w' (fun q=>A q\/(A' q/\w.heap.size<=q)) N μ s.heap (μ' k) (.rows sz rws false):=by
     refine⟨cc,e1,z,g1,g2,g3,g4,fun i row j x hi hj=> ?_⟩;obtain⟨y,rfl⟩:=MX i row j x hi hj;obtain⟨u,hu,hr⟩:=g5 i row j _ hi hj;refine⟨u,hu,.t ?_⟩
     cases hr with
     | t h=>exact h.mono (fun _ _=>rfl) Rs
    have R3:=R2.adoptH (k:=s.bas+p) hk hn Dl KW (by intro sz rs h;simp at h)
    have IZ:zbl w' (fun q=>A q\/(A' q/\w.heap.size<=q)) N.nm (upd μ (s.bas+p) (μ' k)) (upd s.heap (s.bas+p) (some (.rows sz rws false))) v (.ms (s.bas+p) 0 rws.length):=by
     cases(DY:RepC w' A' N.nm μ' H' v _)with
     | ms _ _ _ cap sz' rs' fz' a' Ah AK Bz Gd=>
       have:some (O.rows sz' rs' fz')=some (O.rows sz rws false):=Ah.symm.trans AB;cases this;refine RepC.toV (.ms _ _ _ cap sz rws false a' (by simp) AK Bz ?_);rcases Gd with h | ⟨h1,e2,n2,h2,h3⟩
       ·exact .inl h
       ·exact .inr ⟨by rw[zaz];exact h1,e2,n2,by rw[zaz];exact h2,h3⟩
     | dms _ _ _ Ah _=>have:=Ah.symm.trans AB;simp at this
    exact⟨_,_,lam,R3.put o.dst { val:=.ms (s.bas+p) 0 rws.length } v hd Bd rfl rfl rfl IZ (by simp)⟩
   ·simp at he
  ·simp at he
 ·rename_i k i off;split at he
  ·rename_i sz rws AB;split at he
   ·rename_i Bw;obtain⟨rfl,rfl,FS⟩:=Bw;simp only[zA]at he;subst he;have GA:=R'.heap k _ AB;have D1:MBH (St.init [] H' n').heap μ' (μ' k):=⟨k,_,AB,by intro sz rs h;simp at h,rfl,rfl⟩
    have OX:w.heap.size<=μ' k:=by
     rcases R'.clive _ D1 with h | h
     ·exact h.elim
     ·exact h
    have hq: ¬A' (μ' k):=fun h=>R'.aH _ h D1
    have R2:=R1.growA (fun q=>A' q/\w.heap.size<=q) (fun q hq t ht=>by have:=R.lt_loc ht;omega) (fun q hq k o hk hl=>by have:=R.lt_live hk hl;omega)
     (fun q hq=> .inr (by have:=R.csize;omega)) (fun q hq=>R'.alt q hq.1) (R.defers.join R1.defers (fun q hq=>hq.2))
    have Rs: ∀q,A' q->A q\/(A' q/\w.heap.size<=q):=by
     intro q hq;rcases R'.canew q hq with h | h | h
     ·exact .inl h
     ·exact h.elim
     ·exact .inr ⟨hq,h⟩
    have Dl:Orphan c (fun q=>A q\/(A' q/\w.heap.size<=q)) μ lam s (μ' k):=by
     refine⟨?_,fun t ht e=> ?_,fun k1 o1 h1 l1 e=> ?_,.inr (by have:=R.csize;omega)⟩
     ·rintro(h | h)
      ·have:=R.alt _ h;omega
      ·exact hq h.1
     ·have:=R.lt_loc ht;omega
     ·have:=R.lt_live h1 l1;omega
    obtain⟨cc,e1,z,g1,g2,g3,g4,g5⟩:=GA
    have MX: ∀(i:Nat) (row:List V) (j:Nat) (x:V),rws[i]? =some row->row[j]? =some x-> ∃y,x= .t y:=by
     intro i row j x hi hj;have h1:=List.all_eq_true.1 FS row (zL hi);have h2:=List.all_eq_true.1 h1 x (zL hj)
     cases x with
     | t y=>exact⟨y,rfl⟩
     | _=>simp[V.isTr]at h2
    have KW:zq3 w' (fun q=>A q\/(A' q/\w.heap.size<=q)) N μ s.heap (μ' k) (.rows sz rws false):=by
     refine⟨cc,e1,z,g1,g2,g3,g4,fun i row j x hi hj=> ?_⟩;obtain⟨y,rfl⟩:=MX i row j x hi hj;obtain⟨u,hu,hr⟩:=g5 i row j _ hi hj;refine⟨u,hu,.t ?_⟩
     cases hr with
     | t h=>exact h.mono (fun _ _=>rfl) Rs
    have R3:=R2.adoptH (k:=s.bas+p) hk hn Dl KW (by intro sz rs h;simp at h)
    have TU:zbl w' (fun q=>A q\/(A' q/\w.heap.size<=q)) N.nm (upd μ (s.bas+p) (μ' k)) (upd s.heap (s.bas+p) (some (.rows sz rws false))) v (.mp (s.bas+p) 0 0):=by
     cases(DY:RepC w' A' N.nm μ' H' v _)with
     | mp _ _ _ sz' rs' fz' Ah AK=>
       have:some (O.rows sz' rs' fz')=some (O.rows sz rws false):=Ah.symm.trans AB;cases this;have:=RepC.mp (w:=w') (A:=fun q=>A q\/(A' q/\w.heap.size<=q)) (nm:=N.nm) (μ:=upd μ (s.bas+p) (μ' k)) (H:=upd s.heap (s.bas+p) (some (.rows sz rws false))) (s.bas+p) 0 0 sz rws false (by simp) AK;rw[zaz]at this
       exact this.toV
     | mb _ _ Ah=>have:=Ah.symm.trans AB;simp at this
     | dmp _ _ _ Ah _=>have:=Ah.symm.trans AB;simp at this
    exact⟨_,_,lam,R3.put o.dst { val:=.mp (s.bas+p) 0 0 } v hd Bd rfl rfl rfl TU (by simp)⟩
   ·simp at he
  ·simp at he
 ·simp at he
theorem zmz {H:Nat->Option O} {n:Nat} (HR:Rel N c 0 A μ lam (.init [] H n) zaM w) {vs:Array Value} {xs:List V} (h:zb1 w A N.nm μ H vs xs) (k:Nat):
 Rel N c (vs++Array.replicate (k-vs.size) undef).size A μ lam (.init xs H n) { tmps:=vs++Array.replicate (k-vs.size) undef,defers:=[] } w where
 size:=rfl
 defers:=zdG.nil _ _ _
 env t:=by
  show zbl w A N.nm μ H ((vs++Array.replicate (k-vs.size) undef).getD t undef) (xs.getD t .undef)
  by_cases ht:t<xs.length
  ·obtain⟨v,hv,hr⟩:=h.2 t xs[t] (zI ht)
   have e1:(vs++Array.replicate (k-vs.size) undef).getD t undef=v:=by
    rw[Array.getD_eq_getD_getElem?,Array.getElem?_append_left (by rw[h.1];exact ht),hv];rfl
   have e2:xs.getD t .undef=xs[t]:=by rw[zK,zI ht];rfl
   rw[e1,e2];exact hr
  ·have e2:xs.getD t .undef= .undef:=by rw[zK,List.getElem?_eq_none (by omega)];rfl
   have e1:(vs++Array.replicate (k-vs.size) undef).getD t undef=undef:=by
    rw[Array.getD_eq_getD_getElem?,Array.getElem?_append_right (by rw[h.1];omega),Array.getElem?_replicate];split<;>rfl
   rw[e1,e2];exact rfl
 loc t cs h:=by simp[St.init]at h
 adr t b o h:=by simp[St.init]at h
 heap:=HR.heap
 hinj:=HR.hinj
 linj t t' h:=by simp[St.init]at h
 lh t k o h:=by simp[St.init]at h
 aH:=HR.aH
 aL r _:=by rintro⟨t,h,_⟩;simp[St.init]at h
 alt:=HR.alt
 afz:=HR.afz
 fresh:=HR.fresh
 glob:=HR.glob
 cout:=HR.cout
 csize:=HR.csize
 ckeep:=HR.ckeep
 cshp:=HR.cshp
 csub:=HR.csub
 canew:=HR.canew
 clive:=HR.clive
 cloc t h:=by simp[St.init]at h
 chp:=HR.chp
theorem zmy (R:Rel N c ns A μ lam s a w):Rel N c 0 A μ lam (.init [] s.heap s.nxt) zaM w where
 size:=rfl
 defers:=zdG.nil _ _ _
 env t:=by simp[St.init,zfz,zaM,zbl]
 loc t cs h:=by simp[St.init]at h
 adr t b o h:=by simp[St.init]at h
 heap:=R.heap
 hinj:=R.hinj
 linj t t' h:=by simp[St.init]at h
 lh t k o h:=by simp[St.init]at h
 aH:=R.aH
 aL r _:=by rintro⟨t,h,_⟩;simp[St.init]at h
 alt:=R.alt
 afz:=R.afz
 fresh:=R.fresh
 glob:=R.glob
 cout:=R.cout
 csize:=R.csize
 ckeep:=R.ckeep
 cshp:=R.cshp
 csub:=R.csub
 canew:=R.canew
 clive:=R.clive
 cloc t h:=by simp[St.init]at h
 chp:=R.chp
def zo4 (P:Program):ResultVar->Res->Prop
 | .tmp t,.s t'=>t=t'
 | .cell a ty,.l a' ag n=>a=a'/\typ P ty=some (ag,n)
 | .cell a ty,.h a' ag n=>a=a'/\typ P ty=some (ag,n)
 | _,_=>False
def zks (tmps:Array Value):ResultVar->Sem Value
 | .tmp t=>pure (tmps.getD t undef)
 | .cell a t=>do loadVar t (<- asAddr (tmps.getD a undef))
theorem zwp (R:Rel N c ns A μ lam s a w) {rv:ResultVar} {rs:Res} {v:V} (hr:zo4 P rv rs) (hv:zer s rs=some v): ∃v',(zks a.tmps rv).run P w= .ok v' w/\zcl w A N.nm μ s.heap v' v:=by
 cases rv with
 | tmp t=>
   cases rs with
   | s t'=>
     cases(hr:t=t');have he:=R.env t;simp only[zer]at hv;split at hv<;>first | (simp at hv;done) | skip
     simp only[zA]at hv;subst hv;refine⟨_,rfl,?_⟩;rename_i h1 h2 h3
     revert he h1 h2 h3
     generalize s.env t=x
     intro he h1 h2 h3
     cases x<;>first | exact he | exact absurd rfl h1 | exact absurd rfl h2 | exact absurd rfl (h3 _)
   | l _ _ _=>exact hr.elim
   | h _ _ _=>exact hr.elim
 | cell ad ty=>
   cases rs with
   | s t'=>exact hr.elim
   | l b ag n=>
     obtain⟨rfl,A4⟩:=hr;simp only[zer,zC,zB]at hv;obtain⟨cs,hb,r,BK,hw⟩:=hv;obtain⟨hp,cc,e0,h1,h2⟩:=R.loc ad cs hb;obtain⟨h3,h4,h5⟩:=h2.rd BK
     have hl:=zdZ (w:=w) A4 (lam ad) 0 ((cc.toList.drop 0).take n) (by simp at h4⊢;omega) (fun j v hj=>by
      simp only[List.drop_zero,zO,Array.getElem?_toList]at hj;split at hj
      ·simp[World.cell?,h1,hj]
      ·simp at hj)
     exact⟨zgJ ag ((cc.toList.drop 0).take n),by simp only[zks,Sem.run_bind,hp,asAddr,Sem.run_pure,Result.andThen_ok,hl],h3.wrap1 hw⟩
   | h b ag n=>
     obtain⟨rfl,A4⟩:=hr;have he:=R.env ad;simp only[zer]at hv;split at hv
     ·rename_i k i off Vg;rw[Vg]at he;split at hv
      ·rename_i sz rs frz hk;simp only[zC,zB]at hv;obtain⟨row,Ap,r,BK,hw⟩:=hv;obtain⟨hp,_⟩:=zbl.mp_inv he hk;obtain⟨vs,h1,h2⟩:=zmt R hk Ap;obtain⟨h3,h4,h5⟩:=h1.rd BK
       have hl:=zdZ (w:=w) A4 (μ k) (i*sz+off) ((vs.drop off).take n) (by simp;omega) (fun j v hj=>by
        simp only[zO,List.getElem?_drop]at hj;split at hj
        ·rw[Nat.add_assoc];exact h2 _ v hj
        ·simp at hj)
       exact⟨zgJ ag ((vs.drop off).take n),by simp only[zks,Sem.run_bind,hp,asAddr,Sem.run_pure,Result.andThen_ok,hl],h3.wrap1 hw⟩
      ·simp at hv
     ·simp at hv
theorem zrM (R:Rel N c ns A μ lam s a w) {rf:Func} {rs:List Res} {v:V} (hl:rf.results.toList.length=rs.length) (hr: ∀(i:Nat) (x:ResultVar) (y:Res),rf.results.toList[i]? =some x->rs[i]? =some y->zo4 P x y)
 (hv:zeM s rs=some v): ∃v',(results rf a.tmps).run P w= .ok v' w/\zbl w A N.nm μ s.heap v' v:=by
 simp only[zeM,zC,zB]at hv;obtain⟨vs,Au,hv⟩:=hv
 have key: ∀(l:List ResultVar) (rs:List Res) (vs:List V),l.length=rs.length->(∀(i:Nat) (x:ResultVar) (y:Res),l[i]? =some x->rs[i]? =some y->zo4 P x y)->rs.mapM (zer s)=some vs->
  ∃us:List Value,(l.mapM (m:=Sem) (zks a.tmps)).run P w= .ok us w/\us.length=vs.length/\ ∀(i:Nat) (x:V),vs[i]? =some x-> ∃u,us[i]? =some u/\zcl w A N.nm μ s.heap u x:=by
  intro l
  induction l with
  | nil=>
    intro rs vs h1 _ h3;have:rs=[]:=List.length_eq_zero_iff.1 (by simpa using h1.symm);subst this;simp at h3;subst h3
    exact⟨[],by simp,rfl,by simp⟩
  | cons x l ih=>
    intro rs vs h1 h2 h3
    cases rs with
    | nil=>simp at h1
    | cons y rs=>
      simp only[List.mapM_cons,zC,zB,Option.pure_def,zA]at h3;obtain⟨z,hz,zs,Io,rfl⟩:=h3;obtain⟨u,hu,DU⟩:=zwp (P:=P) R (h2 0 x y rfl rfl) hz;obtain⟨us,Kh,Ac,Ag⟩:=ih rs zs (by simpa using h1) (fun i x' y' a1 a2=>h2 (i+1) x' y' (by simpa using a1) (by simpa using a2)) Io;refine⟨u::us,by simp only[List.mapM_cons,Sem.run_bind,hu,Kh,Result.andThen_ok,Sem.run_pure],by simp[Ac],fun i q hq=> ?_⟩
      cases i with
      | zero=>simp at hq;subst hq;exact⟨u,rfl,DU⟩
      | succ i=>simp at hq;simpa using Ag i q hq
 obtain⟨us,Kh,Ac,Ag⟩:=key _ rs vs hl hr Au
 have A3:(results rf a.tmps).run P w= .ok (if h:us.toArray.size=1 then us.toArray[0]else .tuple us.toArray) w:=by
  have:(rf.results.mapM (m:=Sem) (zks a.tmps)).run P w= .ok us.toArray w:=by
   rw[Array.mapM_eq_mapM_toList];simp only[Sem.run_map,Kh,Result.andThen_ok]
  have h2:results rf a.tmps=(do let vs<- rf.results.mapM (m:=Sem) (zks a.tmps);pure (if h:vs.size=1 then vs[0]else .tuple vs)):=by
   unfold results
   congr 1
  rw[h2];simp only[Sem.run_bind,this,Result.andThen_ok,Sem.run_pure]
 refine⟨_,A3,?_⟩;split at hv
 ·rename_i x;simp only[zA]at hv;subst hv;obtain⟨u,hu,DU⟩:=Ag 0 _ rfl
  match us,Ac,hu with
  | [u'],_,hu=>simp at hu;subst hu;simpa using DU.toV
 ·rename_i Az;simp only[zA]at hv;subst hv
  have Js:us.length≠1:=by
   intro h;rw[Ac]at h
   match vs,h,Az with
   | [x],_,Az=>exact Az x rfl
  rw[dif_neg (by simpa using Js)];exact⟨us.toArray,rfl,by simpa using Ac,fun i q hq=>by simpa using Ag i q hq⟩
end
end Rg
end
section
namespace Rg
open Go
def Ex.jump:Ex->Option Code
 | .normal=>none
 | .exit id=>some (.exit id)
 | .ret=>some .ret
theorem Ex.toL_rel (e:Ex):e.toL.rel (if e.jump.isNone then .ready else .done) e.jump:=by
 cases e<;>simp[Ex.toL,LSt.rel,Ex.jump]
theorem Ex.jump_none (e:Ex):e.jump.isNone=decide (e=Ex.normal):=by
 cases e<;>simp[Ex.jump]
theorem zhP {w:World} {r:Nat} {L:Go.Loop} (o:Go.Obj) (h:w.heap[r]? =some (.loop L)) (q:Nat) (x:TypeId×Nat) (hq:w.shape? q=some x):(w.putObj r o).shape? q=some x:=by
 by_cases e:q=r
 ·subst e;simp[World.shape?,h]at hq
 ·simpa[World.shape?,World.putObj_heap_other e]using hq
theorem zmu {Rp:Value->V->Prop}: ∀(ps:List Nat) (us:List Value) (vs:List V) (tmps:Array Value) (env:Nat->V),us.length=ps.length->vs.length=ps.length->(∀t∈ps,t<tmps.size)->
 (∀(i:Nat) (v:V),vs[i]? =some v-> ∃u,us[i]? =some u/\Rp u v)->(∀t,Rp (tmps.getD t undef) (env t))->
 ((ps.zip us).foldl (fun(tmps:Array Value) (x:Nat×Value)=>tmps.setIfInBounds x.1 x.2) tmps).size=tmps.size/\
   ∀t,Rp (((ps.zip us).foldl (fun(tmps:Array Value) (x:Nat×Value)=>tmps.setIfInBounds x.1 x.2) tmps).getD t undef) (zhB env ps vs t)
 | [],us,vs,tmps,env,_,hv,_,_,he=>by
   have:vs=[]:=List.length_eq_zero_iff.1 (by simpa using hv);subst this
   exact⟨rfl,fun t=>by simpa[zhB]using he t⟩
 | p::ps,u::us,v::vs,tmps,env,hu,hv,hl,hr,he=>by
   have hp:p<tmps.size:=hl p List.mem_cons_self;obtain⟨u',Es,Nj⟩:=hr 0 v rfl;simp only[List.getElem?_cons_zero,zA]at Es;subst Es
   have h:=zmu ps us vs (tmps.setIfInBounds p u) (upd env p v) (by simpa using hu) (by simpa using hv) (fun t ht=>by simpa using hl t (List.mem_cons_of_mem _ ht))
    (fun i x hi=>by simpa using hr (i+1) x (by simpa using hi)) (fun t=>by
      by_cases e:t=p
      ·subst e;simpa[Array.getD_eq_getD_getElem?,hp]using Nj
      ·rw[zad _ _ e];have:(tmps.setIfInBounds p u).getD t undef=tmps.getD t undef:=by simp[Array.getD_eq_getD_getElem?,Ne.symm e]
       rw[this];exact he t)
   exact⟨by simpa using h.1,fun t=>by simpa[zhB]using h.2 t⟩
 | p::ps,[],vs,tmps,env,hu,_,_,_,_=>by simp at hu
 | p::ps,u::us,[],tmps,env,_,hv,_,_,_=>by simp at hv
section
variable {P:Program} {N:Nam} {I:Inv} {c:Ctx} {ns p:Nat} {A:Nat->Prop} {μ lam:Nat->Nat} {s:St} {a:Act} {w:World} {e:Eff} {o:Oper} {ro:Option Nat}
theorem zrP {H:Nat->Option O} {n m:Nat} (HR:Rel N c 0 A μ lam (.init [] H n) zaM w) {tmps:Array Value} {env:Nat->V} (hm:tmps.size=m) (h: ∀t,zbl w A N.nm μ H (tmps.getD t undef) (env t)):
 Rel N c m A μ lam { env:=env,loc:=fun _=>none,adr:=fun _=>none,used:=fun _=>false,heap:=H,nxt:=n,bas:=n } { tmps:=tmps,defers:=[] } w where
 size:=hm
 defers:=zdG.nil _ _ _
 env t:=h t
 loc t cs h:=by simp at h
 adr t b o h:=by simp at h
 heap:=HR.heap
 hinj:=HR.hinj
 linj t t' h:=by simp at h
 lh t k o h:=by simp at h
 aH:=HR.aH
 aL r _:=by rintro⟨t,h,_⟩;simp at h
 alt:=HR.alt
 afz:=HR.afz
 fresh:=HR.fresh
 glob:=HR.glob
 cout:=HR.cout
 csize:=HR.csize
 ckeep:=HR.ckeep
 cshp:=HR.cshp
 csub:=HR.csub
 canew:=HR.canew
 clive:=HR.clive
 cloc t h:=by simp at h
 chp:=HR.chp
theorem Rel.setLoop (R:Rel N c ns A μ lam s a w) {k:Nat} {env:Nat->V} {ps:List Nat} {bd:C} {st st':LSt} (hk:s.heap k=some (.loop env ps bd st)) {L:Go.Loop} (hL:w.heap[μ k]? =some (.loop L))
 (state:LoopState) (pending:Option Code) (AE:st'.rel state pending):
 Rel N c ns A μ lam { s with heap:=upd s.heap k (some (.loop env ps bd st')) } a (w.putObj (μ k) (.loop { L with state:=state,pending:=pending })):=by
 obtain⟨L',Gg,h1,h2,h3,_,h5,h6⟩:=R.heap k _ hk;have:L'=L:=by rw[hL]at Gg;cases Gg;rfl
 subst this;refine R.changeH (k:=k) (o:=.loop env ps bd st) hk trivial rfl (by simp) (by simp) rfl (by simp) (fun r hr=>World.putObj_heap_other hr) (fun q x hq=>zhP _ hL q x hq) (fun E=> ?_);exact⟨{ L' with state:=state,pending:=pending },World.putObj_heap_same (Array.getElem?_eq_some_iff.1 hL).1,h1,h2,h3,AE,h5,fun t=>(h6 t).evo E⟩
theorem Rel.relabel (R:Rel N c ns A μ lam s a w) {k:Nat} {env:Nat->V} {ps:List Nat} {bd:C} {st st':LSt} (hk:s.heap k=some (.loop env ps bd st)) (h: ∀x y,st.rel x y->st'.rel x y):
 Rel N c ns A μ lam { s with heap:=upd s.heap k (some (.loop env ps bd st')) } a w:=by
 refine R.changeH (k:=k) (o:=.loop env ps bd st) hk trivial rfl (by simp) (by simp) rfl rfl (fun _ _=>rfl) (fun _ _ h=>h) (fun E=> ?_);obtain⟨L,hL,h1,h2,h3,h4,h5,h6⟩:=R.heap k _ hk;exact⟨L,hL,h1,h2,h3,h _ _ h4,h5,fun t=>(h6 t).evo E⟩
theorem zpX (hI:I.Ok N) (R:Rel N c ns A μ lam s a w) {cl:Call} {f':Opd} {args':List Opd} {k:Nat} {vs:List V} {env env1 env':Nat->V} {ps ps1 ps':List Nat} {ca cb bd1 bd':C} {e:Ex} {s1 s2:St} {Q:Exit->Act->World->Prop}
 (ho:o.op= .call cl) (O1:zJ2 P I cl f') (B0:opds I cl.args=some args') (As:evl N.G s f'=some (.yl k))
 (hk:s.heap k=some (.loop env ps (.round ca cb) .ready)) (Au:zgE N.G s args'=some vs) (Ac:vs.length=ps.length)
 (Bi:zk5 P N ca (zht s.heap s.nxt k env ps (.round ca cb) vs) .normal s1) (AT:s1.heap k=some (.loop env1 ps1 bd1 .enter))
 (CL:zk5 P N cb { s1 with heap:=upd s1.heap k (some (.loop env1 ps1 bd1 .busy)) } e s2) (AF:s2.heap k=some (.loop env' ps' bd' .busy)) (hd: ∀x,o.dst=some x->x<ns) (Bd:s.free o.dst {}):
 o.wpIn (FW ro) 0 P a w (fun a' w'=> ∃A' μ' lam',Rel N c ns A' μ' lam' ({ s with heap:=upd s2.heap k (some (.loop env' ps' bd' e.toL)),nxt:=s2.nxt }.apply o.dst { val:=.t (.bool (decide (e=Ex.normal))) }) a' w') Q:=by
 obtain⟨f,hb,hf⟩: ∃f0,cl.callee= .value f0/\opd I f0=some f':=by
  rcases O1 with h | ⟨_,k',_,_,rfl⟩ | ⟨t,name,mt,_,rfl,_⟩
  ·exact h
  ·simp[evl]at As
  ·simp only[evl]at As;split at As
   ·simp only[zE]at As;obtain⟨_,_,h⟩:=As;cases h
   ·cases As
 have hv:a.eval f= .func (.yield (μ k)) #[] #[]:=by
  have h:RepC w A N.nm μ s.heap (a.eval f) (.yl k):=zat hI R hf As
  generalize a.eval f=u at h⊢
  cases h with
  | yl _ env ps b st Ah=>rfl
  | dyl _ Ah=>rw[hk]at Ah;cases Ah
 obtain⟨L,hL,Cd,Hf,Gc,AE,Ad,Cm⟩:=R.heap k _ hk;obtain⟨_,_,NY,Hf⟩:=Hf;obtain⟨_,_,NX,Gc⟩:=Gc;cases NY;cases NX;have BE:zb1 w A N.nm μ s.heap (cl.args.map a.eval) vs:=zdz hI R B0 Au;refine⟨fun _ _=>trivial,?_⟩
 have A3:(o.semAt (FW ro).round a.eval).run P w= .ok (.round (μ k) L.fn ((L.params.zip (cl.args.map a.eval)).foldl (fun tmps (t,a)=>tmps.setIfInBounds t a) L.tmps) L.assign L.body) w:=by
  rw[o.semAt_eq _ _ (by rw[ho];simp)];have hy:=run_yield (P:=P) (args:=cl.args.map a.eval) hL (by rw[BE.1,Ac,Cd];simp);simp only[execOp,ho,resolve,hb,Sem.run_bind,hv,Deferred.ofValue,Sem.run_pure,Result.andThen_ok,invoke,Array.empty_append];exact hy
 rw[A3,Oper.uponIn_round];refine⟨zhg,roundIn_of_wpIn (F:=FW ro) trivial ?_⟩;have R1:=R.bare.relabel (st':= .enter) hk (fun _ _ h=>h.1)
 have E:Evo w A μ s.heap w A μ (upd s.heap k (some (.loop env ps (.round ca cb) .enter))):=by
  refine⟨fun r h=>rfl,fun _ h=>h,fun q o h=> ?_,fun q x hq=>hq⟩
  by_cases e:q=k
  ·subst e;rw[hk]at h;cases h;exact⟨.loop env ps (.round ca cb) .enter,by simp,trivial,fun _=>rfl⟩
  ·exact⟨o,by rw[zad _ _ e];exact h,O.le_refl o,fun _=>rfl⟩
 have IA:=zmu (Rp:=fun v x=>zbl w A N.nm μ (upd s.heap k (some (.loop env ps (.round ca cb) .enter))) v x) ps (cl.args.map a.eval).toList vs L.tmps env
  (by rw[Array.length_toList,BE.1,Ac]) Ac Ad (fun i x hi=>let⟨v,hv,hr⟩:=BE.2 i x hi;⟨v,by simpa using hv,hr.evo E⟩) (fun t=>(Cm t).evo E)
 have LC:(L.params.zip (cl.args.map a.eval)).foldl (fun tmps (t,a)=>tmps.setIfInBounds t a) L.tmps=(ps.zip (cl.args.map a.eval).toList).foldl (fun(tmps:Array Value) (x:Nat×Value)=>tmps.setIfInBounds x.1 x.2) L.tmps:=by
  rw[Cd,<- Array.foldl_toList,Array.toList_zip]
 rw[LC];refine wpIn_mono (Bi L.assign L.tmps.size Hf (μ k) _ A μ lam _ _ (zrP R1 IA.1 IA.2)) ?_;rintro e1 a1 w1 ⟨rfl,A1,μ1,lam1,Ra⟩
 have hμ1:μ1 k=μ k:=by
  obtain⟨o',AR,_,hm⟩:=Ra.chp k _ hk;have:some o'=some (O.loop env1 ps1 bd1 .enter):=AR.symm.trans AT;cases this;exact hm rfl
 obtain⟨L1,Pv,_,_,_,Nc,_,_⟩:=Ra.heap k _ AT;have LR:=run_beginRound (P:=P) Pv Nc;rw[hμ1]at LR;refine⟨_,LR,?_⟩;have Rb:=Ra.setLoop (st':= .busy) AT Pv .busy L1.pending rfl;rw[hμ1]at Rb;refine wpIn_mono (CL L.body L.tmps.size Gc (μ k) _ A1 μ1 lam1 _ _ Rb) ?_;rintro e' a' w' ⟨rfl,A',μ',lam',R'⟩;have R2:=zmy R'
 have hμ:μ' k=μ k:=by
  obtain⟨o',AR,_,hm⟩:=R2.chp k _ hk;have:some o'=some (O.loop env' ps' bd' .busy):=AR.symm.trans AF;cases this;exact hm rfl
 obtain⟨L',Gg,_⟩:=R2.heap k _ AF;have CX:=run_endRound (P:=P) e.jump Gg;have R3:=R2.setLoop AF Gg _ _ e.toL_rel;obtain⟨_,R4⟩:=R.back R3;have R5:=R4.put o.dst { val:=.t (.bool (decide (e=Ex.normal))) } (.bool e.jump.isNone) hd Bd rfl rfl rfl (by rw[e.jump_none];exact(RepC.t (.bool _)).toV) (by simp);rw[hμ]at CX
 cases e with
 | normal=>exact⟨_,_,CX,A',μ',lam,by rw[<- hμ];exact R5⟩
 | exit id=>exact⟨_,_,CX,A',μ',lam,by rw[<- hμ];exact R5⟩
 | ret=>exact⟨_,_,CX,A',μ',lam,by rw[<- hμ];exact R5⟩
theorem znT (hI:I.Ok N) (R:Rel N c ns A μ lam s a w) {f:Operand} {x:Opd} {ps:Array Nat} {asg body:Code} {ca cb bd':C} {fv:V} {g:Nat} {as bs:List V} {rf:Func} {r:V} {h':Nat->Option O} {n':Nat}
 {env':Nat->V} {ps':List Nat} {st:LSt} {e:Ex} (hf:opd I f=some x) (As:evl N.G s x=some fv) (Ax:zfC fv=some (g,as,bs)) (An:Real P (N.nm g) rf) (Bi:N.cr asg ns ca) (Gc:N.cr body ns cb) (Ad: ∀t∈ps.toList,t<ns)
 (hc:zns P N g (as++[.yl s.nxt]++bs) (upd s.heap s.nxt (some (.loop s.env ps.toList (.round ca cb) .ready))) (s.nxt+1) r h' n')
 (hl:h' s.nxt=some (.loop env' ps' bd' st)) (he:st.ends=some e):
 (Code.rangeFunc f ps asg body).wpIn (FW none) 0 P (ztw N c ns e { s with heap:=upd h' s.nxt (some .dead),nxt:=n' }) a w:=by
 refine wpIn_rangeFunc fun fn _=> ?_
 generalize CQ:Loop.mk .ready none fn a.tmps ps asg body w.heap.size=rec
 have Oa:=run_enterLoop_outer (P:=P) (w:=w) fn a.tmps ps asg body;rw[CQ]at Oa;have Gv:(w.alloc (Obj.deferred (some []))).heap.size=w.heap.size+1:=by simp
 generalize BO:(w.alloc (Obj.deferred (some []))).alloc (.loop rec)=w2 at Oa
 have BM: ∀q,q<w.heap.size->w2.heap[q]? =w.heap[q]? :=by
  intro q hq;rw[<- BO];simp only[World.alloc,Array.getElem?_push,Array.size_push];simp[Nat.ne_of_lt hq,Nat.ne_of_lt (Nat.lt_succ_of_lt hq)]
 have OC:w2.heap[w.heap.size]? =some (Obj.deferred (some [])):=by
  rw[<- BO];simp only[World.alloc,Array.getElem?_push,Array.size_push];simp
 have C7:w2.heap[w.heap.size+1]? =some (.loop rec):=by
  rw[<- BO,<- Gv];exact World.alloc_heap_new _ _
 have Ra:=R.alloc (Obj.deferred (some []));have Rb:Rel N c ns A μ lam s a w2:=by rw[<- BO];exact Ra.alloc _
 have Rm:Rel N c ns A μ lam { s with nxt:=s.nxt+1 } a w2:={ Rb with fresh:=fun k h=>Rb.fresh k (by simp only at h;omega) }
 have Dl:Orphan c A μ lam { s with nxt:=s.nxt+1 } (w.heap.size+1):=by
  have:=Ra.orphan_new;rw[Gv]at this;exact⟨this.a,this.l,this.h,this.x⟩
 have GA:zq3 w2 A N μ s.heap (w.heap.size+1) (.loop s.env ps.toList (.round ca cb) .ready):=by
  refine⟨rec,C7,by rw[<- CQ],⟨ca,cb,rfl,by rw[<- CQ];simp only;rw[R.size];exact Bi⟩,⟨ca,cb,rfl,by rw[<- CQ];simp only;rw[R.size];exact Gc⟩,by rw[<- CQ];exact⟨rfl,rfl⟩,by rw[<- CQ];simp only;rw[R.size];exact Ad,fun t=> ?_⟩;rw[<- CQ];exact Rb.env t
 have Rd:=Rm.adoptH (k:=s.nxt) (R.fresh _ (Nat.le_refl _)) (Nat.lt_succ_self _) Dl GA (by simp)
 have AY:evl N.G { s with heap:=upd s.heap s.nxt (some (.loop s.env ps.toList (.round ca cb) .ready)),nxt:=s.nxt+1 } x=some fv:=by
  cases x<;>exact As
 obtain⟨va,vb,hv,ha,Bf,_⟩:=zpw (zat hI Rd hf AY) Ax
 have Jv:zdG c A w2 ({ target:=.collected w.heap.size,args:= #[] }::a.defers):=by
  obtain⟨rs,g1,g2,g3⟩:=R.defers;have Ad: ∀r∈rs,r<w.heap.size:=fun r hr=>(Array.getElem?_eq_some_iff.1 (g3 r hr).1).1
  refine⟨w.heap.size::rs,List.nodup_cons.2 ⟨fun h=>Nat.lt_irrefl _ (Ad _ h),g1⟩,by rw[List.map_cons,<- g2],fun r hr=> ?_⟩;rcases List.mem_cons.1 hr with rfl | hr
  ·exact⟨OC,fun h=>Nat.lt_irrefl _ (R.alt _ h),R.csize⟩
  ·obtain⟨q1,q2,q3⟩:=g3 r hr;exact⟨by rw[BM r (Ad r hr)];exact q1,q2,q3⟩
 have Re:Rel N c ns A (upd μ s.nxt (w.heap.size+1)) lam { s with heap:=upd s.heap s.nxt (some (.loop s.env ps.toList (.round ca cb) .ready)),nxt:=s.nxt+1 } { a with defers:={ target:=.collected w.heap.size,args:= #[] }::a.defers } w2:=
  { Rd with defers:=Jv }
 have hy:zb1 w2 A N.nm (upd μ s.nxt (w.heap.size+1)) (upd s.heap s.nxt (some (.loop s.env ps.toList (.round ca cb) .ready))) #[.func (.yield (w.heap.size+1)) #[] #[]] [.yl s.nxt]:=by
  refine⟨rfl,fun i z hi=> ?_⟩
  cases i with
  | succ i=>simp at hi
  | zero=>
    simp only[List.getElem?_cons_zero,zA]at hi;subst hi;refine⟨_,rfl,RepC.toV ?_⟩;have:=RepC.yl (w:=w2) (A:=A) (nm:=N.nm) (μ:=upd μ s.nxt (w.heap.size+1)) (H:=upd s.heap s.nxt (some (.loop s.env ps.toList (.round ca cb) .ready))) s.nxt s.env ps.toList (.round ca cb) .ready (by simp);rwa[zaz]at this
 have Da:=hc _ A (upd μ s.nxt (w.heap.size+1)) lam w2 _ Re.bare ((ha.append hy).append Bf);have H8:rf.body.isNone=false:=by have:=An.b;cases h:rf.body<;>simp_all
 have hn:=An.n;refine⟨w.heap.size+1,[{ target:=.collected w.heap.size,args:= #[] }],w2,{ target:=.fn (.func (N.nm g)) vb,args:=va++ #[.func (.yield (w.heap.size+1)) #[] #[]] },w2,N.nm g,_,w2,Oa,?_,fun _ _=>trivial,?_,zhg,zlS (Da.mono ?_)⟩
 ·have Ob:a.eval (.const (.func (.yield (w.heap.size+1)) #[] #[]))= .func (.yield (w.heap.size+1)) #[] #[]:=rfl;simp only[resolve,hv,Deferred.ofValue,List.map_toArray,List.map_cons,List.map_nil,Ob,Sem.run_pure]
 ·simp only[invoke,callFunc,run_program,An.f,hn,H8,Sem.run_bind,Sem.run_pure,Result.andThen_ok,zG,if_false]
 ·rintro e' w' ⟨v,A',μ',lam',rfl,R',_⟩;obtain⟨_,R1⟩:=Re.back R'
  have hμ:μ' s.nxt=w.heap.size+1:=by
   obtain⟨o',AR,_,hm⟩:=R'.chp s.nxt _ (zaz _ _ _);have:some o'=some (O.loop env' ps' bd' st):=AR.symm.trans hl;cases this;rw[hm rfl];exact zaz _ _ _
  obtain⟨L',Gg,_,_,_,Dk,_,_⟩:=R1.heap s.nxt _ hl
  have hb:L'.state≠ .busy:=by
   cases st with
   | ready=>rw[Dk.1];simp
   | enter=>simp[LSt.ends]at he
   | busy=>simp[LSt.ends]at he
   | done e0=>cases e0 with
     | normal=>exact Dk.elim
     | exit id=>rw[Dk.1];simp
     | ret=>rw[Dk.1];simp
  have CX:=run_endLoop (P:=P) Gg hb;have Dl:=R1.orphan_kill hl rfl (by simp);have R2:=R1.kill hl
  have Rf:Rel N c ns A' μ' lam { s with heap:=upd h' s.nxt (some .dead),nxt:=n' } { a with defers:={ target:=.collected w.heap.size,args:= #[] }::a.defers } (w'.putObj (μ' s.nxt) (.loop { L' with state:=.exhausted })):=by
   refine R2.world (by simp) ?_ ?_ (fun q x hq=>zhP _ Gg q x hq) (R2.defers.evo (fun r h=>World.putObj_heap_other (fun e=>by subst e;rw[Gg]at h;simp at h)) (fun _ _ h=>h))
   ·rintro r (h | ⟨t,h,rfl⟩ | ⟨k,o',h,F8,rfl⟩)
    ·exact World.putObj_heap_other (fun e=>Dl.a (e▸h))
    ·exact World.putObj_heap_other (Dl.l t h)
    ·exact World.putObj_heap_other (Dl.h k o' h F8)
   ·intro r h1 h2;refine World.putObj_heap_other (fun e=> ?_);subst e;rcases Dl.x with h | h
    ·exact h2 h
    ·omega
  rw[hμ]at CX Rf
  generalize w'.putObj (w.heap.size+1) (.loop { L' with state:=.exhausted })=w4 at CX Rf
  refine⟨L'.pending,w4,CX,?_⟩
  cases st with
  | ready=>
    simp only[LSt.ends,zA]at he;subst he;rw[Dk.2]
    exact⟨rfl,A',μ',lam,Rf⟩
  | enter=>simp[LSt.ends]at he
  | busy=>simp[LSt.ends]at he
  | done e0=>
    simp only[LSt.ends,zA]at he;subst he
    cases e0 with
    | normal=>exact Dk.elim
    | exit id=>
      rw[Dk.2]
      exact wpIn_exit ⟨rfl,A',μ',lam,Rf⟩
    | ret=>
      rw[Dk.2];exact wpIn_ret ⟨rfl,A',μ',lam,Rf⟩
theorem zjd {fn:Func} {tmps:Array Value} {Rr:Ending->World->Prop} (hw: ∀w',Rel N c ns A μ lam s { tmps:=tmps,defers:=[] } w'->LeavesIn (FW none) 0 P fn tmps Rr [] .returning w'):
 ∀(rs:List Nat) (w:World),rs.Nodup->(∀r∈rs,w.heap[r]? =some (Obj.deferred (some []))/\ ¬A r/\c.w0.heap.size<=r)->Rel N c ns A μ lam s { tmps:=tmps,defers:=[] } w->
  LeavesInM (FW none) 0 P fn tmps Rr (rs.map fun r=>{ target:=.collected r,args:= #[] }) .returning w
 | [],w,_,_,R=>hw w R
 | r::rs,w,Bt,h,R=>by
   obtain⟨h1,h2,h3⟩:=h r List.mem_cons_self;obtain⟨n1,n2⟩:=List.nodup_cons.1 Bt;refine⟨by simp,.inl ⟨r,w.putObj r (.deferred none),rfl,run_takeDeferred h1,zjd hw rs _ n2 (fun q hq=> ?_) ?_⟩⟩
   ·obtain⟨q1,q2,q3⟩:=h q (List.mem_cons_of_mem _ hq);have Jg:q≠r:=fun e=>n1 (e▸hq)
    exact⟨by rw[World.putObj_heap_other Jg];exact q1,q2,q3⟩
   ·refine R.world (by simp) ?_ ?_ ?_ (zdG.nil _ _ _)
    ·rintro q (g | ⟨t,g,rfl⟩ | ⟨k,o',g,F8,rfl⟩)
     ·exact World.putObj_heap_other (fun e=>h2 (e▸g))
     ·exact World.putObj_heap_other (fun e=>R.ndef_loc g (e▸h1))
     ·exact World.putObj_heap_other (fun e=>R.ndef g F8 (e▸h1))
    ·intro q g1 _;exact World.putObj_heap_other (by omega)
    ·intro q x hq
     by_cases e:q=r
     ·subst e;simp[World.shape?,h1]at hq
     ·simpa[World.shape?,World.putObj_heap_other e]using hq
theorem zhb {g:Nat} {rf:Func} {body:Code} {args:Array Value} {Rr:Ending->World->Prop} (hf:P.funcs[g]? =some rf) (hb:rf.body=some body) {ex:Ex} {s':St} (hx: ∀id,ex≠ .exit id)
 (h:body.wpIn (FW none) 0 P (ztw N c ns ex s') { tmps:=args++Array.replicate (rf.ntmps-args.size) undef,defers:=[] } w)
 (hR: ∀A μ lam tmps w',Rel N c ns A μ lam s' { tmps:=tmps,defers:=[] } w'-> ∃v,(results rf tmps).run P w'= .ok v w'/\Rr (.returned v) w'):
 Calls P g args w Rr:=by
 refine(callsIn_wide (n:=0)).1 (callsIn_of_wp_marks (F:=FW none) hf hb trivial (wpIn_mono h ?_));rintro e' a' w' ⟨rfl,A',μ',lam',R'⟩;obtain⟨rs,g1,g2,g3⟩:=R'.defers;have R'':Rel N c ns A' μ' lam' s' { tmps:=a'.tmps,defers:=[] } w':= { R' with defers:=zdG.nil _ _ _ };have Cf:=zjd (P:=P) (fn:=rf) (Rr:=Rr) (fun w'' R=>hR A' μ' lam' a'.tmps w'' R) rs w' g1 g3 R'';rw[<- g2]at Cf
 cases ex with
 | normal=>exact Cf
 | ret=>exact Cf
 | exit id=>exact absurd rfl (hx id)
end
end Rg
end
