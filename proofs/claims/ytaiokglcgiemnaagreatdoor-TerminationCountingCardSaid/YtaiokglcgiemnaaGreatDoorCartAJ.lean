/- Part of the proof of laws of relyguardlaw36. No condition. -/
import Derived.ChangeSame
import Derived.WideKeyArgs
import Derived.RowKit
import Derived.LaidLaws
import Derived.Stop.Joined
import Derived.Test.YtaiokglcgiemnaaGreatDoorCartAI
import Derived.OpenShut
import Derived.MakeChecks
import Derived.FnData
import Derived.Test.YtaiokglcgiemnaaGreatDoorCartAG
set_option linter.unusedVariables false
set_option linter.unusedSimpArgs false
section
namespace Rg
open Go Go.ChangeShapes
section
variable {H:Type} {enc:TypeId×Value->H} {P:Program}
theorem zdz {W W':World} {sp:Nat->Bool} (hl:laidOutB P=true): ∀{ts:List TypeId} {vs:List Value} {ds:List (DataW H)} {ps:List MemPlace},
 (∀t∈ts,P.readableRec t=true/\t<P.types.size)->DataW.TrodAll enc P W 0 (fun _=>true) true ts vs ds ps->(∀p∈ps,W.sameAt W' p)->(∀p∈ps,sp p.block=true)->DataW.TrodAll enc P W' 0 sp true ts vs ds ps
 | [],[],[],ps,_,h,_,_=>h
 | t::ts,v::vs,d::ds,ps,hr,h,hs,hp=>by
   obtain⟨p,q,h1,h2,rfl⟩:=h
   exact⟨p,q,WideElems.Trod_stays hl (hr t List.mem_cons_self).1 (hr t List.mem_cons_self).2 h1 (fun x hx=>hs x (List.mem_append_left _ hx)) (fun x hx=>hp x (List.mem_append_left _ hx)),
    zdz hl (fun t ht=>hr t (List.mem_cons_of_mem _ ht)) h2 (fun x hx=>hs x (List.mem_append_right _ hx)) (fun x hx=>hp x (List.mem_append_right _ hx)),rfl⟩
 | [],[],_::_,_,_,h,_,_=>by cases h
 | [],_::_,_,_,_,h,_,_=>by cases h
 | _::_,[],_,_,_,h,_,_=>by cases h
 | _::_,_::_,[],_,_,h,_,_=>by cases h
theorem zgZ {W W':World} (h: ∀q,q<W.heap.size->W'.heap[q]? =W.heap[q]?) {p:MemPlace} (hp:p.block<W.heap.size):W.sameAt W' p:=by
 cases p with
 | cell b off=>exact cell?_eq (h b hp)
 | map b=>exact h b hp
theorem zhm {W W':World} (ho:W'.os=W.os) (hu:W'.output=W.output) (h: ∀q,q<W.heap.size->W'.heap[q]? =W.heap[q]?) (may:MemPlace->Prop):W.keptBut W' may:=by
 refine⟨ho,hu,fun i hi=> ?_⟩;rw[h i hi];split
 ·rename_i h1 h2;rw[h1]at h2;cases h2;exact⟨rfl,rfl,rfl,fun _ _=>rfl⟩
 ·rename_i h1 h2;rw[h1]at h2;cases h2;exact .inr ⟨rfl,rfl⟩
 ·rfl
theorem zka {N:Nam} {g f:Nat} {fn:Func} {s:ChangeSpec} {W:World} {args:Array Value} {ds gs:List (DataW H)} {before:List MemPlace} {av:List V} {tb:TypeId}
 (hp:zfl P N g av (vb true)) (hg:N.nm g=f) (hG:zjr N (fun r=>r<W.heap.size) W) (ha:zaZ W (fun r=>r<W.heap.size) N.nm (fun _=>0) (fun _=>none) args av)
 (hl:laidOutB P=true) (hr: ∀t∈fn.params.toList,P.readableRec t=true/\t<P.types.size) (EU:fn.resultTypes= #[tb]) (O8:P.underlying tb=some .bool)
 (hv:s.vars=[]) (hW:DataW.Whole enc P fn.params.toList s.vars false W args.toList ds gs before)
 (hs:gs=[]->s.fn H (ds++gs)= { results:=[.lit (.bool true)],args:=ds }):
 Calls P f args W fun e W'=> ∃v,e= .returned v/\s.post enc P fn false true false false W args v W':=by
 subst hg;refine(hp _ W args (fun r h=>h) hG ha).mono fun e W' ⟨v,he,⟨ho,hu⟩,AM,Lz,DY⟩=>⟨v,he,?_⟩
 have Jk:v= .bool true:=by
  have h1:RepT W' _ N.nm v (.bool true):=zxy.t_inv DY;cases h1;rfl
 subst Jk;have Ai:=hW.lt;have Ns:=hW;obtain⟨p,q,hA,hV,rfl,PR,Cs⟩:=Ns;have Pg:gs=[]/\q=[]:=by rw[hv]at hV;exact trodVars_none hV
 obtain⟨rfl,rfl⟩:=Pg;refine⟨ds,[],p++[],[],p,[],hW,?_,?_,?_,zhm ho hu Lz _,fun h=>by cases h⟩
 ·rw[hs rfl,EU];exact trodAll_mk1 ⟨1,by simp[DataW.trod,O8,Value.cells]⟩
 ·rw[hs rfl];refine zdz hl hr hA (fun x hx=>zgZ Lz (Ai x (by simpa using hx))) (fun x hx=> ?_);simpa using Ai x (by simpa using hx)
 ·rw[hs rfl,hv];rfl
end
section
variable {W:World} {nm:Nat->Nat} {A:Nat->Prop} {μ:Nat->Nat} {HO:Nat->Option O}
theorem zg7: ∀{vs:List Value} {xs:List V},vs.length=xs.length->(∀(i:Nat) (x:V) (v:Value),xs[i]? =some x->vs[i]? =some v->zxy W A nm μ HO v x)->zaZ W A nm μ HO vs.toArray xs
 | vs,xs,hl,h=>⟨by simpa using hl,fun i x hx=>by
    have:i<vs.length:=by rw[hl];exact(zH.1 hx).1
    exact⟨vs[i],by simp,h i x _ hx (by simp)⟩⟩
theorem zmD {cs:Array Value} {xs:List T} (h:zl7 W nm cs.toList xs):zxy W (fun r=>r<W.heap.size) nm μ HO (.agg cs) (.agg (xs.map V.t)):=by
 refine⟨cs,rfl,by rw[List.length_map];exact h.1,fun i c hc=> ?_⟩;rw[zJ,zE]at hc;obtain⟨x,hx,rfl⟩:=hc;obtain⟨v,hv,hr⟩:=h.2 i x hx;exact⟨v,hv,.t hr⟩
theorem ziW {v:Value} {x:T} (h:zl7 W nm [v] [x]):zxy W (fun r=>r<W.heap.size) nm μ HO v (.t x):=by
 obtain⟨u,hu,hr⟩:=h.2 0 x rfl;simp at hu;subst hu;exact RepC.toV (.t hr)
end
end Rg
end
section
namespace Rg
open Go
def zDx:Lit->T
 | .int k n=> .int k n
 | .string s=> .str ⟨s.toArray⟩
 | .bool b=> .bool b
 | _=> .nilp
theorem zeg {P:Program} {W:World}: ∀{laid:List (String×DataW Unit)} {ps:List MemPlace},DataW.LaidVars P W laid ps-> ∀{nm:String} {d:DataW Unit},(nm,d)∈laid->
 ∃g t cs f q,P.globalNamed nm=some g/\(P.globals[g]?).map (·.type)=some t/\W.var? P nm=some cs/\DataW.trod (fun _=>()) P W 0 (fun _=>true) false f t cs.toList=some (d,q)
 | [],_,_,_,_,hm=>by cases hm
 | (a,b)::r,ps,h,nm,d,hm=>by
   obtain⟨g,t,cs,f,p0,q0,h1,h2,h3,h4,h5,h6⟩:=h;rcases List.mem_cons.1 hm with hm | hm
   ·cases hm;exact⟨g,t,cs,f,p0,h1,h2,h3,h4⟩
   ·exact zeg h5 hm
theorem zi9 {P:Program} {W:World} {N:Nam} {laid:List (String×DataW Unit)} {nm:String} {g k:Nat} {t e:TypeId} {ls:List Lit}
 (Cm:(laid.all fun x=>x.2.handleName?.isNone)=true) (h:laidMetH P laid W) (CB:(nm,.agg (ls.map DataW.lit))∈laid)
 (hg:P.globalNamed nm=some g) (ht:(P.globals[g]?).map (·.type)=some t) (hu:P.underlying t=some (.array ls.length e)) (he:P.underlying e=some .string\/ ∃k,P.underlying e=some (.int k)) (hc:P.cellsOf e=1) (hn:P.cellsOf t=ls.length)
 (Jt:N.gm k=g) (hG:N.G k=ls.map zDx) (j:Nat) (x:T) (hx:(N.G k)[j]? =some x):
 N.gm k<W.heap.size/\(∃e,W.shape? (N.gm k)=some (e,(N.G k).length))/\ ∃v,W.cell? ⟨N.gm k,j,none⟩=some v/\RepT W (fun r=>r<W.heap.size) N.nm v x:=by
 rw[MakeChecks.laidMetH_plain _ _ _ Cm]at h;obtain⟨ps,hv,_⟩:=h;obtain⟨g0,t0,cs0,f0,q0,Ob,Ln,EQ,Po⟩:=zeg hv CB;obtain rfl:=Option.some.inj (hg.symm.trans Ob);obtain rfl:=Option.some.inj (ht.symm.trans Ln);obtain⟨xs,m1,rfl,JB,Ac,Hl,L4⟩:=DataW.trod_array hu Po;simp only[Prod.mk.injEq,DataW.agg.injEq]at JB;rw[hG,zJ,zE]at hx;obtain⟨m,hm,rfl⟩:=hx;have hj:j<ls.length:=(zH.1 hm).1;obtain⟨y,hy⟩: ∃y,xs[j]? =some y:=⟨_,zI (by omega)⟩
 have Ji:y.1= .lit m:=by
  have h2:=congrArg (·[j]?) JB.1;simp only[zJ,hm,hy,Option.map_some,zA]at h2;exact h2.symm
 have h3:=L4 j hj;rw[hy,hc,Nat.mul_one]at h3
 have Do: ∀v:Value,(cs0.toList.drop j).take 1=[v]->cs0[j]? =some v:=by
  intro v hq;have h4:=congrArg (·[0]?) hq;simp only[zO,List.getElem?_drop,Nat.add_zero]at h4;simpa using h4
 have BD: ∃v,cs0[j]? =some v/\RepT W (fun r=>r<W.heap.size) N.nm v (zDx m):=by
  rcases he with he | ⟨kk,he⟩
  ·obtain⟨s,hs,EN,_⟩:=DataW.trod_string he h3;have:m= .string s.data.toList:=by rw[EN]at Ji;simpa using Ji.symm
   subst this;refine⟨.string s,Do _ hs,?_⟩;have:zDx (.string s.data.toList)= .str s:=by simp[zDx]
   rw[this];exact .str s
  ·obtain⟨q,hq,On,_⟩:=DataW.trod_int he h3;have:m= .int kk q:=by rw[On]at Ji;simpa using Ji.symm
   subst this;exact⟨.int kk q,Do _ hq,.int kk q⟩
 obtain⟨v,O1,Ad⟩:=BD;have AP:W.cell? ⟨g,j,none⟩=some v:=by rw[World.var?_cell Ob EQ j];exact O1
 rw[Jt];refine⟨(cell?_spot AP).2,?_,v,AP,Ad⟩;unfold World.var? at EQ;rw[hg]at EQ;simp only[zD]at EQ;unfold World.shape?;split at EQ
 ·rename_i cs e0 z hb;simp only[zA]at EQ;subst EQ;rw[hb];refine⟨e0,?_⟩;simp only[zA,Prod.mk.injEq,true_and];have h5:=Ac;rw[Array.length_toList]at h5;rw[h5,hG,List.length_map,hn]
 ·cases EQ
theorem zpL {tbl:List Nat} {gi:Nat->Option Nat} {gm:Nat->Nat} {G:Nat->List T} {cr:Code->Nat->C->Prop} {tB tU:Nat} (hg: ∀q k,gi q=some k->gm k=q/\G k≠[]):
 Inv.Ok ⟨fun f=>tbl.findIdx? (· ==f),gi,some tB⟩ ⟨fun k=>tbl.getD k 0,gm,G,cr,tB,tU⟩:=by
 refine⟨fun f k h=> ?_,hg,fun t h=>by cases h;rfl⟩;obtain⟨Ai,he,_⟩:=List.findIdx?_eq_some_iff_getElem.1 h;show tbl.getD k 0=f;rw[zK,zI Ai];simpa using he
theorem zAA {α:Type} {k:Nat} {v:α}: ∀{l:List (Nat×α)},l.lookup k=some v->(k,v)∈l
 | [],h=>by simp at h
 | (a,b)::r,h=>by
   rw[List.lookup_cons]at h;split at h
   ·rename_i hk;simp only[beq_iff_eq]at hk;cases h;subst hk;exact List.mem_cons_self
   ·exact List.mem_cons_of_mem _ (zAA h)
end Rg
end
section
namespace Rg
open Go
section
variable {H:Type} {enc:TypeId×Value->H} {P:Program} {W:World} {nm μ:Nat->Nat} {HO:Nat->Option O} {y:Tys}
theorem trodAll_nil {sp:Nat->Bool} {vs:List Value} {ds:List (DataW H)} {ps:List MemPlace} (h:DataW.TrodAll enc P W 0 sp true [] vs ds ps):vs=[]/\ds=[]:=by
 cases vs<;>cases ds<;>first | exact⟨rfl,rfl⟩ | cases h
theorem trodAll_cons {sp:Nat->Bool} {t:TypeId} {ts:List TypeId} {vs:List Value} {ds:List (DataW H)} {ps:List MemPlace} (h:DataW.TrodAll enc P W 0 sp true (t::ts) vs ds ps):
 ∃v vs' d ds' p q,vs=v::vs'/\ds=d::ds'/\DataW.Trod enc P W 0 sp true t v d p/\DataW.TrodAll enc P W 0 sp true ts vs' ds' q:=by
 cases vs with
 | nil=>cases h
 | cons v vs=>
   cases ds with
   | nil=>cases h
   | cons d ds=>
     obtain⟨p,q,h1,h2,_⟩:=h;exact⟨v,vs,d,ds,p,q,rfl,rfl,h1,h2⟩
theorem zbx {t:TypeId} {ts:List TypeId} {d:DataW H} {ds:List (DataW H)} (h:(DataW.weightsEach P (t::ts) (d::ds)).all (· <=reachBytes)=true):
 (d.weights P t).all (· <=reachBytes)=true/\(DataW.weightsEach P ts ds).all (· <=reachBytes)=true:=by
 rw[DataW.weightsEach,List.all_append,zF]at h;exact h
theorem zp6 {α:Type} {t:TypeId} {tot:Nat} {fs:List (TypeId×Nat)} {f:α->List T} {good:α->Prop} {v:Value} {d:DataW H} {p:List MemPlace} {base:Nat} (hs:zzV P t tot fs=true) (hr: ∀n,Rd enc P W nm n t f good)
 (hv:Value.okWide P W .any base t v) (ht:DataW.Trod enc P W 0 (fun _=>true) true t v d p) (hw:(d.weights P t).all (· <=reachBytes)=true):
 ∃a,good a/\zxy W (fun r=>r<W.heap.size) nm μ HO v (.agg ((f a).map V.t)):=by
 obtain⟨n,hn⟩:=ht;obtain⟨a,ha,Cl⟩:=hr n _ _ hn hw;refine⟨a,ha,?_⟩;simp only[zzV,zF]at hs;have h1:=hs.1;split at h1
 ·rename_i u hu;unfold Value.okWide at hv;rw[hu]at hv;obtain⟨cs,rfl,_⟩:=hv;exact zmD (by simpa[Value.cells]using Cl)
 ·simp at h1
theorem zp7 {α:Type} {t e:TypeId} {f:α->T} {good:α->Prop} {v:Value} {d:DataW H} {p:List MemPlace} {base:Nat} (hs:zy9 P t e=true) (hr: ∀n,Rd enc P W nm n t (fun a=>[f a]) good)
 (hv:Value.okWide P W .any base t v) (ht:DataW.Trod enc P W 0 (fun _=>true) true t v d p) (hw:(d.weights P t).all (· <=reachBytes)=true):
 ∃a,good a/\zxy W (fun r=>r<W.heap.size) nm μ HO v (.t (f a)):=by
 obtain⟨n,hn⟩:=ht;obtain⟨a,ha,Cl⟩:=hr n _ _ hn hw;refine⟨a,ha,?_⟩;have hu:=zy9.u hs;unfold Value.okWide Cell.okWide Cell.ok at hv;rw[hu]at hv;cases v<;>first | exact ziW (by simpa[Value.cells]using Cl) | exact absurd hv (by simp)
theorem ziC {α:Type} {t:TypeId} {k:IntKind} {f:α->T} {good:α->Prop} {v:Value} {d:DataW H} {p:List MemPlace} {base:Nat} (hs:zyx P t k=true) (hr: ∀n,Rd enc P W nm n t (fun a=>[f a]) good)
 (hv:Value.okWide P W .any base t v) (ht:DataW.Trod enc P W 0 (fun _=>true) true t v d p) (hw:(d.weights P t).all (· <=reachBytes)=true):
 ∃a,good a/\zxy W (fun r=>r<W.heap.size) nm μ HO v (.t (f a)):=by
 obtain⟨n,hn⟩:=ht;obtain⟨a,ha,Cl⟩:=hr n _ _ hn hw;refine⟨a,ha,?_⟩;have hu:=zyx.u hs;unfold Value.okWide Cell.okWide Cell.ok at hv;rw[hu]at hv;cases v<;>first | exact ziW (by simpa[Value.cells]using Cl) | exact absurd hv (by simp)
theorem Prog.inMem.lite {p:Prog} (h:p.inMem):(∀x∈p.threads,x.steps.length<2^50)/\(∀c∈p.cells,c.name.size<2^50)/\(∀m∈p.modules,m.name.size<2^50/\m.owner.size<2^50)/\(∀t∈p.threads,t.name.size<2^50):=by
 have hb:reachBytes<2^50:=by decide
 exact⟨fun x hx=>Nat.lt_of_le_of_lt (h.threads x hx).steps hb,fun c hc=>Nat.lt_of_le_of_lt (h.cells c hc) hb,
  fun m hm=>⟨Nat.lt_of_le_of_lt (h.modules m hm).1 hb,Nat.lt_of_le_of_lt (h.modules m hm).2.1 hb⟩,fun x hx=>Nat.lt_of_le_of_lt (h.threads x hx).name hb⟩
end
end Rg
end
section
namespace Rg
open Go
section
variable {Γ:Nat->Option F} {G:Nat->List T}
theorem Big.det {t:Task} {o:Out} (h:Big Γ G t o): ∀{o':Out},Big Γ G t o'->o=o':=by
 induction h with
 | skip=>intro o' h';cases h';rfl
 | ret=>intro o' h';cases h';rfl
 | exit=>intro o' h';cases h';rfl
 | region _ ih=>intro o' h';cases h' with | region h=>have:=ih h;cases this;rfl
 | regionD _ _ ih=>intro o' h';cases h' with | regionD h _=>have:=ih h;cases this;rfl
 | seqN _ _ ih1 ih2=>
   intro o' h'
   cases h' with
   | seqN h1 h2=>have:=ih1 h1;cases this;exact ih2 h2
   | seqX h1 he=>have:=ih1 h1;cases this;exact absurd rfl he
 | seqX _ he ih=>
   intro o' h'
   cases h' with
   | seqN h1 h2=>have:=ih h1;cases this;exact absurd rfl he
   | seqX h1 he=>exact ih h1
 | cond hc _ ih=>
   intro o' h'
   cases h' with
   | cond Bp h=>rw[hc]at Bp;cases Bp;exact ih h
 | block _ ih=>
   intro o' h'
   cases h' with
   | block h=>have:=ih h;cases this;rfl
 | loop _ ih=>
   intro o' h'
   cases h' with
   | loop h=>exact ih h
 | loopN _ _ ih1 ih2=>
   intro o' h'
   cases h' with
   | loopN h1 h2=>have:=ih1 h1;cases this;exact ih2 h2
   | loopX h1 he=>have:=ih1 h1;cases this;exact absurd rfl he
 | loopX _ he ih=>
   intro o' h'
   cases h' with
   | loopN h1 h2=>have:=ih h1;cases this;exact absurd rfl he
   | loopX h1 he=>exact ih h1
 | opsNil=>intro o' h';cases h';rfl
 | opsSkip hw hf _ ih=>
   intro o' h'
   cases h' with
   | opsSkip Ay IN h=>exact ih h
   | opsEff Ay _ _ _=>rw[hw]at Ay;cases Ay
   | opsPure Ay _ _ _ _ _ _ _ _ _ _ _=>rw[hw]at Ay;cases Ay
   | opsRaw Ay _ _ _ _ _ _ _ _ _=>rw[hw]at Ay;cases Ay
   | opsFresh Ay _ _ _ _ _ _ _ _ _ _ _ _=>rw[hw]at Ay;cases Ay
   | opsYield Ay _ _ _ _ _ _ _ _ _ _ _=>rw[hw]at Ay;cases Ay
 | rangeF An Au hg hr hc hl he ihc=>
   intro o' h'
   cases h' with
   | rangeF AQ BI B2 Cv Bp EG BN=>
     rw[An]at AQ;cases AQ;rw[Au]at BI;cases BI;have:=ihc Bp;cases this;rw[hl]at EG;cases EG;rw[he]at BN;cases BN
     rfl
 | opsYield hw hf ho An hk Aq Ac Bd Ba C6 AX _ iha ihb ih=>
   intro o' h'
   cases h' with
   | opsSkip Ay IN h=>rw[hw]at Ay;cases Ay
   | opsEff Ay _ BN h=>rw[ho]at BN;simp[zw4]at BN
   | opsPure Ay _ AK AQ BI B2 Cv BQ D9 Bp D2 h=>rw[ho]at AK;cases AK
   | opsFresh Ay _ AK _ _ _ _ _ _ _ _ _ _=>rw[ho]at AK;cases AK
   | opsRaw Ay _ AK AQ BI B2 Cv BQ Bp h=>
     rw[ho]at AK;cases AK;rw[An]at AQ;cases AQ
     simp[zze]at BI
   | opsYield Ay _ AK AQ Ag BQ BF Nf Ez Nd Kz h=>
     rw[ho]at AK;cases AK;rw[An]at AQ;cases AQ;rw[hk]at Ag;cases Ag;rw[Aq]at BQ;cases BQ;have:=iha Nf;cases this;rw[Ba]at Ez;cases Ez;have:=ihb Nd;cases this;rw[AX]at Kz;cases Kz
     exact ih h
 | opsEff hw hf he _ ih=>
   intro o' h'
   cases h' with
   | opsSkip Ay IN h=>rw[hw]at Ay;cases Ay
   | opsEff Ay _ BN h=>rw[he]at BN;cases BN;exact ih h
   | opsPure Ay _ ho _ _ _ _ _ _ _ _ _=>rw[ho]at he;simp[zw4]at he
   | opsRaw Ay _ ho _ _ _ _ _ _ _=>rw[ho]at he;simp[zw4]at he
   | opsFresh Ay _ ho _ _ _ _ _ _ _ _ _ _=>rw[ho]at he;simp[zw4]at he
   | opsYield Ay _ ho _ _ _ _ _ _ _ _ _=>rw[ho]at he;simp[zw4]at he
 | opsPure hw hf ho An Au hg hr Aq AA hc hd _ ihc ih=>
   intro o' h'
   cases h' with
   | opsSkip Ay IN h=>rw[hw]at Ay;cases Ay
   | opsEff Ay _ BN h=>rw[ho]at BN;simp[zw4]at BN
   | opsPure Ay _ AK AQ BI B2 Cv BQ D9 Bp D2 h=>
     rw[ho]at AK;cases AK;rw[An]at AQ;cases AQ;rw[Au]at BI;cases BI;rw[Aq]at BQ;cases BQ;rw[AA]at D9;cases D9;have:=ihc Bp;cases this
     exact ih h
   | opsRaw Ay _ AK _ _ _ _ _ _ _=>rw[ho]at AK;cases AK
   | opsFresh Ay _ AK _ _ _ _ _ _ _ _ _ _=>rw[ho]at AK;cases AK
   | opsYield Ay _ AK _ _ _ _ _ _ _ _ _=>rw[ho]at AK;cases AK
 | opsRaw hw hf ho An Au hg hr Aq hc _ ihc ih=>
   intro o' h'
   cases h' with
   | opsSkip Ay IN h=>rw[hw]at Ay;cases Ay
   | opsEff Ay _ BN h=>rw[ho]at BN;simp[zw4]at BN
   | opsPure Ay _ AK AQ BI B2 Cv BQ D9 Bp D2 h=>rw[ho]at AK;cases AK
   | opsFresh Ay _ AK _ _ _ _ _ _ _ _ _ _=>rw[ho]at AK;cases AK
   | opsYield Ay _ AK AQ _ _ _ _ _ _ _ _=>
     rw[ho]at AK;cases AK;rw[An]at AQ;cases AQ
     simp[zze]at Au
   | opsRaw Ay _ AK AQ BI B2 Cv BQ Bp h=>
     rw[ho]at AK;cases AK;rw[An]at AQ;cases AQ;rw[Au]at BI;cases BI;rw[Aq]at BQ;cases BQ;have:=ihc Bp;cases this
     exact ih h
 | opsFresh hw hf ho An Au hg hr Aq AA hd hc he _ ihc ih=>
   intro o' h'
   cases h' with
   | opsSkip Ay IN h=>rw[hw]at Ay;cases Ay
   | opsEff Ay _ BN h=>rw[ho]at BN;simp[zw4]at BN
   | opsPure Ay _ AK AQ BI B2 Cv BQ D9 Bp D2 h=>rw[ho]at AK;cases AK
   | opsRaw Ay _ AK AQ BI B2 Cv BQ Bp h=>rw[ho]at AK;cases AK
   | opsYield Ay _ AK _ _ _ _ _ _ _ _ _=>rw[ho]at AK;cases AK
   | opsFresh Ay _ AK AQ BI B2 Cv BQ D9 D2 Bp BN h=>
     rw[ho]at AK;cases AK;rw[An]at AQ;cases AQ;rw[Au]at BI;cases BI;rw[Aq]at BQ;cases BQ;rw[AA]at D9;cases D9;have:=ihc Bp;cases this;rw[he]at BN;cases BN
     exact ih h
 | pcall hg hr HA he hv Bk ih=>
   intro o' h'
   cases h' with
   | pcall B2 Cv h BN Ej Id=>
     rw[hg]at B2;cases B2;have:=ih h;cases this;rw[hv]at Ej;cases Ej;rw[Bk]at Id;cases Id
     rfl
   | pext B2 Cv hx h2=>
     rw[hg]at B2;cases B2;rw[hx]at HA
     cases HA
 | rcall hg hr hb he hv ih=>
   intro o' h'
   cases h' with
   | rcall B2 Cv h BN Ej=>
     rw[hg]at B2;cases B2;have:=ih h;cases this;rw[hv]at Ej;cases Ej
     rfl
   | rext B2 Cv hx h=>
     rw[hg]at B2;cases B2
     rw[hx]at hb;cases hb
 | pext hg hr hx h=>
   intro o' h'
   cases h' with
   | pcall B2 Cv hb BN Ej Id=>
     rw[hg]at B2;cases B2
     rw[hx]at hb;cases hb
   | pext B2 Cv DX h2=>
     rw[hg]at B2;cases B2;rw[hx]at DX;cases DX;rw[h]at h2;cases h2
     rfl
 | rext hg hr hx h=>
   intro o' h'
   cases h' with
   | rcall B2 Cv hb BN Ej=>
     rw[hg]at B2;cases B2
     rw[hx]at hb;cases hb
   | rext B2 Cv DX h2=>
     rw[hg]at B2;cases B2;rw[hx]at DX;cases DX;rw[h]at h2;cases h2;rfl
variable (Γ G)
open Classical in
noncomputable def Den (g:Nat) (args:List V):Option V:=if h: ∃r,PC Γ G g args r then some h.choose else none
open Classical in
noncomputable def DenR (g:Nat) (args:List V) (h:Nat->Option O) (n:Nat):Option (V×(Nat->Option O)×Nat):=
 if h: ∃r:V×(Nat->Option O)×Nat,RC Γ G g args h n r.1 r.2.1 r.2.2 then some h.choose else none
open Classical in
noncomputable def DenY (k:Nat) (args:List V) (h:Nat->Option O) (n:Nat):Option (V×(Nat->Option O)×Nat):=
 if h: ∃r:V×(Nat->Option O)×Nat,YC Γ G k args h n r.1 r.2.1 r.2.2 then some h.choose else none
variable {Γ G}
theorem zp8 {k:Nat} {args:List V} {h:Nat->Option O} {n:Nat} {r r':V} {h1 h2:Nat->Option O} {n1 n2:Nat} (a:YC Γ G k args h n r h1 n1) (b:YC Γ G k args h n r' h2 n2):r=r'/\h1=h2/\n1=n2:=by
 obtain⟨env,ps,ca,cb,s1,enva,psa,bda,env',ps',bd',e,s2,g1,g2,g3,g3',g3'',g4,rfl,rfl,rfl⟩:=a;obtain⟨env0,ps0,ca0,cb0,s10,envb,psb,bdb,env1,ps1,bd1,e0,s0,q1,q2,q3,q3',q3'',q4,rfl,rfl,rfl⟩:=b;rw[g1]at q1;cases q1;have:=g3.det q3;cases this;rw[g3']at q3';cases q3';have:=g3''.det q3'';cases this;rw[g4]at q4;cases q4;exact⟨rfl,rfl,rfl⟩
theorem zgB {k:Nat} {args:List V} {h:Nat->Option O} {n:Nat} {r:V} {h':Nat->Option O} {n':Nat}:DenY Γ G k args h n=some (r,h',n')<->YC Γ G k args h n r h' n':=by
 unfold DenY;split
 ·rename_i h;have hc:=h.choose_spec;constructor
  ·intro e;simp only[zA]at e;rw[e]at hc;exact hc
  ·intro e;obtain⟨h1,h2,h3⟩:=zp8 hc e;simp only[zA];exact Prod.ext h1 (Prod.ext h2 h3)
 ·rename_i h;constructor
  ·intro e;cases e
  ·intro e;exact absurd ⟨(r,h',n'),e⟩ h
theorem zzw {g:Nat} {args:List V} {r:V}:Den Γ G g args=some r<->PC Γ G g args r:=by
 unfold Den;split
 ·rename_i h;have hc:=h.choose_spec;constructor
  ·intro e;cases e;exact hc
  ·intro e;have:=Big.det hc e;cases this;congr 1
 ·rename_i h;constructor
  ·intro e;cases e
  ·intro e;exact absurd ⟨r,e⟩ h
theorem zym {g:Nat} {args:List V} {h:Nat->Option O} {n:Nat} {r:V} {h':Nat->Option O} {n':Nat}:DenR Γ G g args h n=some (r,h',n')<->RC Γ G g args h n r h' n':=by
 unfold DenR;split
 ·rename_i h;have hc:=h.choose_spec;constructor
  ·intro e;simp only[zA]at e;rw[e]at hc;exact hc
  ·intro e;have:=Big.det hc e;simp only[Out.vals.injEq]at this;obtain⟨h1,h2,h3⟩:=this;simp only[zA];exact Prod.ext h1 (Prod.ext h2 h3)
 ·rename_i h;constructor
  ·intro e;cases e
  ·intro e;exact absurd ⟨(r,h',n'),e⟩ h
theorem zc7 {g:Nat} {fn:F} {e:Ext} {args:List V} {hp h':Nat->Option O} {n n':Nat} {r:V} (hg:Γ g=some fn) (hr:fn.raw=true) (hb:fn.body= .ext e)
 (h:zyL e args hp n=some (r,h',n')):DenR Γ G g args hp n=some (r,h',n'):=zym.2 (.rext hg hr hb h)
theorem zsH {g:Nat} {args:List V} {r:V} (h:PC Γ G g args r): ∃fn,Γ g=some fn/\fn.raw=false:=by
 cases h with
 | pcall hg hr _ _ _ _=>exact⟨_,hg,hr⟩
 | pext hg hr _ _=>exact⟨_,hg,hr⟩
theorem zoU {g:Nat} {args:List V} {h:Nat->Option O} {n:Nat} {r:V} {h':Nat->Option O} {n':Nat} (h:RC Γ G g args h n r h' n'): ∃fn,Γ g=some fn/\fn.raw=true:=by
 cases h with
 | rcall hg hr _ _ _=>exact⟨_,hg,hr⟩
 | rext hg hr _ _=>exact⟨_,hg,hr⟩
@[go_sem]theorem zol (d:Bool) (m:M) (dst:Option Nat) (g:Nat) (l:List V) (K:M->Prop):
 znw Γ G d m dst g l K=(m.free dst {}=true/\match l.mapM (toT1 m.heap)with
  | none=>False
  | some rs=>match Den Γ G g rs with
    | none=>False
    | some r=>zqG d m dst l r K):=by
 apply propext;unfold znw;constructor
 ·rintro⟨hf,rs,AA,r,hc,hg,hk⟩;refine⟨hf,?_⟩;rw[AA];simp only;rw[zzw.2 hc];exact hk
 ·rintro⟨hf,h⟩;refine⟨hf,?_⟩;split at h
  ·exact h.elim
  ·rename_i rs AA;split at h
   ·exact h.elim
   ·rename_i r hr;exact⟨rs,AA,r,zzw.1 hr,zsH (zzw.1 hr),h⟩
@[go_sem]theorem zok (m:M) (dst:Option Nat) (g:Nat) (l:List V) (K:M->Prop):
 znv Γ G m dst g l K=(m.free dst {}=true/\match DenR Γ G g l m.heap m.nxt with
  | none=>False
  | some (r,h',n')=>K ({ m with heap:=h',nxt:=n' }.apply dst { val:=r })):=by
 apply propext;unfold znv;constructor
 ·rintro⟨hf,r,h',n',hc,hg,hk⟩;refine⟨hf,?_⟩;rw[zym.2 hc];exact hk
 ·rintro⟨hf,h⟩;refine⟨hf,?_⟩;split at h
  ·exact h.elim
  ·rename_i r h' n' hr;exact⟨r,h',n',zym.1 hr,zoU (zym.1 hr),h⟩
theorem zoj (m:M) (dst:Option Nat) (k:Nat) (l:List V) (K:M->Prop):
 znu Γ G m dst k l K=(m.free dst {}=true/\match DenY Γ G k l m.heap m.nxt with
  | none=>False
  | some (r,h',n')=>K ({ m with heap:=h',nxt:=n' }.apply dst { val:=r })):=by
 apply propext;unfold znu;constructor
 ·rintro⟨hf,r,h',n',hc,hk⟩;refine⟨hf,?_⟩;rw[zgB.2 hc];exact hk
 ·rintro⟨hf,h⟩;refine⟨hf,?_⟩;split at h
  ·exact h.elim
  ·rename_i r h' n' hr;exact⟨r,h',n',zgB.1 hr,h⟩
def V.tree:V->Bool
 | .t _=>true
 | .agg cs=>cs.all fun c=>match c with | .t _=>true | _=>false
 | _=>false
theorem zfH {h:Nat->Option O} {v:V} (hv:v.tree=true):zxp h v=[]:=by
 cases v with
 | agg cs=>
   simp only[V.tree,zN]at hv;simp only[zxp,List.flatMap_eq_nil_iff];intro c hc;have:=hv c hc;cases c<;>simp at this
   rfl
 | t x=>rfl
 | _=>simp[V.tree]at hv
attribute [go_sem] V.tree List.all_cons List.all_nil Bool.and_self
theorem zpV {g:Nat} {args:List V} {fn:F} {r:V} (hg:Γ g=some fn) (hr:fn.raw=false)
 (h:wpC Γ G fn.body ⟨slots args 0,fun _=>false,fun _=>none,0,0⟩ (Fin fn.results r)):Den Γ G g args=some r:=zzw.2 (zDu hg hr h)
def zDa (rs:List Res) (P:V->(Nat->Option O)->Nat->Prop) (e:Ex) (m:M):Prop:=(∀id,e≠ .exit id)/\ ∃v,zyQ m.st rs=some v/\P v m.heap m.nxt
theorem zoI {g:Nat} {args:List V} {fn:F} {hp:Nat->Option O} {n:Nat} {P:V->(Nat->Option O)->Nat->Prop} (hg:Γ g=some fn) (hr:fn.raw=true)
 (h:wpC Γ G fn.body ⟨slots args 0,fun _=>false,hp,n,n⟩ (zDa fn.results P)): ∃r h' n',DenR Γ G g args hp n=some (r,h',n')/\P r h' n':=by
 obtain⟨e,m',hB,he,v,hv,hP⟩:=zB0 h;refine⟨v,m'.heap,m'.nxt,zym.2 ?_,hP⟩;have:M.st ⟨slots args 0,fun _=>false,hp,n,n⟩=St.init args hp n:=by rw[zn3,zlm]
 rw[this]at hB;exact .rcall hg hr hB he hv
@[go_sem]theorem zoh (rs:List Res) (P:V->(Nat->Option O)->Nat->Prop) (sl:Nat->Slot) (u:Nat->Bool) (h:Nat->Option O) (n b:Nat):
 zDa rs P .ret ⟨sl,u,h,n,b⟩= ∃v,zyQ (M.st ⟨sl,u,h,n,b⟩) rs=some v/\P v h n:=by simp[zDa]
@[go_sem]theorem zoi (rs:List Res) (P:V->(Nat->Option O)->Nat->Prop) (sl:Nat->Slot) (u:Nat->Bool) (h:Nat->Option O) (n b:Nat):
 zDa rs P .normal ⟨sl,u,h,n,b⟩= ∃v,zyQ (M.st ⟨sl,u,h,n,b⟩) rs=some v/\P v h n:=by simp[zDa]
theorem zrS {b:C} {sl:Nat->Slot} {us:Nat->Bool} {nx ba:Nat} {Q:Ex->M->Prop} (W:List Nat) (n:Nat) (Inv:Nat->(Nat->Slot)->Prop) (hW:b.wrIn W=true) (hH:b.noH=true)
 (h0:Inv 0 sl)
 (h: ∀i f u k bs,i<=n->Inv i f->wpC Γ G b ⟨ovr W f sl,u,fun _=>none,k,bs⟩ (zzp (fun m'=>SpN (i<n/\Inv (i+1) m'.sl) ⟨0⟩) Q)):WL Γ G b ⟨sl,us,fun _=>none,nx,ba⟩ Q:=by
 refine zoT W hW hH (fun k f=> ∃i,k=n-i/\i<=n/\Inv i f) n ⟨0,by omega,by omega,h0⟩ ?_;rintro k f u kk bs ⟨i,rfl,hi,hI⟩;refine zCq (zB0 (h i f u kk bs hi hI)) ?_;apply zzL;rintro m ⟨h1,h2⟩;exact⟨n-(i+1),by omega,i+1,rfl,by omega,h2⟩
theorem zpD {b:C} {sl:Nat->Slot} {us:Nat->Bool} {hp:Nat->Option O} {nx ba:Nat} {Q:Ex->M->Prop} (W:List Nat) (n:Nat) (Inv:Nat->(Nat->Slot)->(Nat->Option O)->Nat->Prop) (hW:b.wrIn W=true)
 (h0:Inv 0 sl hp nx)
 (h: ∀i f u h k bs,i<=n->Inv i f h k->wpC Γ G b ⟨ovr W f sl,u,h,k,bs⟩ (zzp (fun m'=>SpN (i<n/\Inv (i+1) m'.sl m'.heap m'.nxt) ⟨0⟩) Q)):WL Γ G b ⟨sl,us,hp,nx,ba⟩ Q:=by
 refine znX W hW (fun k f h x=> ∃i,k=n-i/\i<=n/\Inv i f h x) n ⟨0,by omega,by omega,h0⟩ ?_;rintro k f u h' kk bs ⟨i,rfl,hi,hI⟩;refine zCq (zB0 (h i f u h' kk bs hi hI)) ?_;apply zzL;rintro m ⟨h1,h2⟩;exact⟨n-(i+1),by omega,i+1,rfl,by omega,h2⟩
end
end Rg
end
section
namespace Rg
open Go
structure W3 (c:C) (Q:Ex->M->Prop) (m:M)where
 n:Nat
structure W4 (p:Nat) (l:List ROp) (Q:M->Prop) (m:M)where
 n:Nat
structure WK {α:Type} {β:Sort _} (K:α->β)where
 n:Nat
structure WV {α:Type} (x y:α)where
 n:Nat
def pk {α:Type} (b:Bool) (x y:α) (_:WV x y):α:=match b with
 | true=>x
 | false=>y
@[go_sem]theorem zvX {α:Type} (x y:α) (w:WV x y):pk true x y w=x:=rfl
@[go_sem]theorem zvY {α:Type} (x y:α) (w:WV x y):pk false x y w=y:=rfl
theorem zjH {α:Type} (i j:Nat) (x y:α) (w:WV x y):pk (j==i) x y w=if j=i then x else y:=by
 by_cases h:j=i
 ·simp[h,pk]
 ·have:(j==i)=false:=by simpa using h
  rw[this,if_neg h];rfl
noncomputable def updC {α:Type}:(Nat->α)->Nat->α->Nat->α:=(Classical.choice (⟨⟨@upd α,rfl⟩⟩:Nonempty {g:(Nat->α)->Nat->α->Nat->α// g= @upd α})).1
theorem zal {α:Type}: @updC α= @upd α:=(Classical.choice (⟨⟨@upd α,rfl⟩⟩:Nonempty {g:(Nat->α)->Nat->α->Nat->α// g= @upd α})).2
noncomputable def begC:(Nat->Slot)->Nat->Slot:=(Classical.choice (⟨⟨beg,rfl⟩⟩:Nonempty {g:(Nat->Slot)->Nat->Slot// g=beg})).1
theorem zgF:begC=beg:=(Classical.choice (⟨⟨beg,rfl⟩⟩:Nonempty {g:(Nat->Slot)->Nat->Slot// g=beg})).2
noncomputable def ovrC:List Nat->(Nat->Slot)->(Nat->Slot)->Nat->Slot:=(Classical.choice (⟨⟨ovr,rfl⟩⟩:Nonempty {g:List Nat->(Nat->Slot)->(Nat->Slot)->Nat->Slot// g=ovr})).1
theorem zgl:ovrC=ovr:=(Classical.choice (⟨⟨ovr,rfl⟩⟩:Nonempty {g:List Nat->(Nat->Slot)->(Nat->Slot)->Nat->Slot// g=ovr})).2
def zAm (k:Nat):List Nat:=(List.range (k.log2+1)).filter fun t=>(k>>> t) % 2==1
theorem zcU (k t:Nat):(zAm k).contains t=((k>>> t) % 2==1):=by
 by_cases ht:t<k.log2+1
 ·cases h:((k>>> t) % 2==1)with
  | true=>simp only[List.contains_eq_mem,zAm,List.mem_filter,List.mem_range,ht,h,and_self,decide_true]
  | false=>simp only[List.contains_eq_mem,zAm,List.mem_filter,List.mem_range,ht,h,zG,and_false,decide_false]
 ·have h0:k>>> t=0:=by
   rw[Nat.shiftRight_eq_div_pow];exact Nat.div_eq_of_lt (Nat.lt_of_lt_of_le Nat.lt_log2_self (Nat.pow_le_pow_right (by omega) (by omega)))
  rw[h0];simp only[List.contains_eq_mem,zAm,List.mem_filter,List.mem_range,ht,false_and,decide_false];rfl
noncomputable def slotsC:List V->Nat->Nat->Slot:=(Classical.choice (⟨⟨slots,rfl⟩⟩:Nonempty {g:List V->Nat->Nat->Slot// g=slots})).1
theorem zeI:slotsC=slots:=(Classical.choice (⟨⟨slots,rfl⟩⟩:Nonempty {g:List V->Nat->Nat->Slot// g=slots})).2
noncomputable def Av:(Nat->Option O)->List (Nat×O)->Nat->Option O:=(Classical.choice (⟨⟨zxu,rfl⟩⟩:Nonempty {g:(Nat->Option O)->List (Nat×O)->Nat->Option O// g=zxu})).1
theorem zb2:Av=zxu:=(Classical.choice (⟨⟨zxu,rfl⟩⟩:Nonempty {g:(Nat->Option O)->List (Nat×O)->Nat->Option O// g=zxu})).2
noncomputable def addC:Nat->List ROp->Nat:=(Classical.choice (⟨⟨fun n l=>n+l.length,rfl⟩⟩:Nonempty {g:Nat->List ROp->Nat// g=fun n l=>n+l.length})).1
theorem zgK:addC=fun n l=>n+l.length:=(Classical.choice (⟨⟨fun n l=>n+l.length,rfl⟩⟩:Nonempty {g:Nat->List ROp->Nat// g=fun n l=>n+l.length})).2
theorem zzS (n:Nat) (l:List ROp):n<=addC n l:=by rw[zgK];exact Nat.le_add_right n _
@[go_sem]theorem zrg (n:Nat) (l:List ROp):addC n l=n+l.length:=by rw[zgK]
@[go_sem ↓]theorem zs6 (f:Nat->Bool) (i j:Nat):updC f i true j=pk (j==i) true (f j) ⟨0⟩:=by rw[zal,zjH];rfl
@[go_sem]theorem zae {α:Type} (f:Nat->α) (i j:Nat) (v:α):updC f i v j=if j=i then v else f j:=by rw[zal];rfl
@[go_sem ↓]theorem zar (h:Nat->Option O):Av h []=h:=by rw[zb2];rfl
@[go_sem ↓]theorem zav (h:Nat->Option O) (k:Nat) (o:O) (r:List (Nat×O)):Av h ((k,o)::r)=Av (updC h k (some o)) r:=by rw[zb2,zal];rfl
def ob {α β:Type} (o:Option α) (K:α->Option β) (_:WK K):Option β:=o.bind K
@[go_sem]theorem zrQ {α β:Type} (a:α) (K:α->Option β) (w:WK K):ob (some a) K w=K a:=rfl
def zyF {α:Type} (us:Bool) (o:Option α) (K:α->Prop) (_:WK K):Prop:=match o with
 | none=>False
 | some v=>us=false/\K v
@[go_sem]theorem zpu {α:Type} (v:α) (K:α->Prop) (w:WK K):zyF false (some v) K w=K v:=by simp[zyF]
def zfo {α β:Type} (us:Bool) (o:Option (α×β)) (K:α->β->Prop) (_:WK K):Prop:=match o with
 | none=>False
 | some (a,b)=>us=false/\K a b
@[go_sem]theorem zbz {α β:Type} (a:α) (b:β) (K:α->β->Prop) (w:WK K):zfo false (some (a,b)) K w=K a b:=by simp[zfo]
theorem zgi {α β:Type} (us:Bool) (o:Option (α×β)) (K:α->β->Prop) (w:WK K) (w':WK fun y:α×β=>K y.1 y.2):zfo us o K w=zyF us o (fun y=>K y.1 y.2) w':=by
 cases o<;>rfl
def zpx {α β γ δ:Type} (o:Option (α×β×γ×δ)) (K:α->β->γ->δ->Prop) (_:WK K):Prop:=match o with
 | none=>False
 | some (a,b,c,d)=>K a b c d
@[go_sem]theorem zpw {α β γ δ:Type} (a:α) (b:β) (c:γ) (d:δ) (K:α->β->γ->δ->Prop) (w:WK K):zpx (some (a,b,c,d)) K w=K a b c d:=rfl
def valOf:V->Option V
 | .undef=>none
 | .lb=>none
 | v=>some v
@[go_sem]theorem zrC (x:T):valOf (.t x)=some (.t x):=rfl
@[go_sem]theorem zqw (k i l:Nat):valOf (.ms k i l)=some (.ms k i l):=rfl
@[go_sem]theorem zqx (k i l:Nat):valOf (.mp k i l)=some (.mp k i l):=rfl
@[go_sem]theorem zqy (k:Nat):valOf (.mm k)=some (.mm k):=rfl
@[go_sem]theorem zqv (k:Nat):valOf (.yl k)=some (.yl k):=rfl
@[go_sem]theorem zqz (f:Nat) (a b:List V):valOf (.fn f a b)=some (.fn f a b):=rfl
@[go_sem]theorem zpb (c:List V):valOf (.agg c)=some (.agg c):=rfl
@[go_sem]theorem zpa (c:List V):valOf (.tup c)=some (.tup c):=rfl
abbrev tyC:=(Nat->Option F)->(Nat->List T)->C->M->(Ex->M->Prop)->Prop
abbrev tyO:=(Nat->Option F)->(Nat->List T)->Bool->Nat->List ROp->M->(M->Prop)->Prop
noncomputable def wpCo:tyC:=(Classical.choice (⟨⟨@wpC,rfl⟩⟩:Nonempty {g:tyC// g= @wpC})).1
theorem zaU:wpCo= @wpC:=(Classical.choice (⟨⟨@wpC,rfl⟩⟩:Nonempty {g:tyC// g= @wpC})).2
noncomputable def WLo:tyC:=(Classical.choice (⟨⟨@WL,rfl⟩⟩:Nonempty {g:tyC// g= @WL})).1
theorem zcV:WLo= @WL:=(Classical.choice (⟨⟨@WL,rfl⟩⟩:Nonempty {g:tyC// g= @WL})).2
noncomputable def wpOo:tyO:=(Classical.choice (⟨⟨@wpO,rfl⟩⟩:Nonempty {g:tyO// g= @wpO})).1
theorem zaw:wpOo= @wpO:=(Classical.choice (⟨⟨@wpO,rfl⟩⟩:Nonempty {g:tyO// g= @wpO})).2
section
variable (Γ:Nat->Option F) (G:Nat->List T)
noncomputable def wC (c:C) (Q:Ex->M->Prop) (m:M) (_:W3 c Q m):Prop:=wpCo Γ G c m Q
noncomputable def wL (c:C) (Q:Ex->M->Prop) (m:M) (_:W3 c Q m):Prop:=WLo Γ G c m Q
noncomputable def wO (d:Bool) (p:Nat) (l:List ROp) (Q:M->Prop) (m:M) (_:W4 p l Q m):Prop:=wpOo Γ G d p l m Q
def zxo (sl:Nat->Slot):Opd->Option V
 | .s t=>valOf (sl t).v
 | .c v=>some v
 | .g k=>some (.t (.ip (G k)))
end
section
variable {Γ:Nat->Option F} {G:Nat->List T}
@[go_sem ↓]theorem ztn (sl:Nat->Slot) (t:Nat):zxo G sl (.s t)=valOf (sl t).v:=rfl
@[go_sem ↓]theorem ztp (sl:Nat->Slot) (v:V):zxo G sl (.c v)=some v:=rfl
@[go_sem ↓]theorem zto (sl:Nat->Slot) (k:Nat):zxo G sl (.g k)=some (.t (.ip (G k))):=rfl
theorem zaB (sl:Nat->Slot) (u:Nat->Bool) (h:Nat->Option O) (n b:Nat) (x:Opd):evl G (M.st ⟨sl,u,h,n,b⟩) x=zxo G sl x:=by
 cases x with
 | s t=>simp only[evl,M.st,zxo];cases(sl t).v<;>rfl
 | c v=>rfl
 | g k=>rfl
@[go_sem ↓]theorem zrh (f:Nat->Slot) (i j:Nat) (v:V) (bx:Option (List V)) (ad:Option (Nat×Nat)):(updC f i ⟨v,bx,ad⟩ j).v=pk (j==i) v (f j).v ⟨0⟩:=by rw[zal,zjH];unfold upd;split<;>rfl
@[go_sem ↓]theorem zo4 (f:Nat->Slot) (i j:Nat) (v:V) (bx:Option (List V)) (ad:Option (Nat×Nat)):(updC f i ⟨v,bx,ad⟩ j).box=pk (j==i) bx (f j).box ⟨0⟩:=by rw[zal,zjH];unfold upd;split<;>rfl
@[go_sem ↓]theorem zqe (f:Nat->Slot) (i j:Nat) (v:V) (bx:Option (List V)) (ad:Option (Nat×Nat)):(updC f i ⟨v,bx,ad⟩ j).ad=pk (j==i) ad (f j).ad ⟨0⟩:=by rw[zal,zjH];unfold upd;split<;>rfl
@[go_sem ↓]theorem zrB (f:Nat->Slot) (t:Nat):(begC f t).v=(f t).v:=by rw[zgF];rfl
@[go_sem ↓]theorem zo9 (f:Nat->Slot) (t:Nat):(begC f t).box=(f t).box:=by rw[zgF];rfl
@[go_sem ↓]theorem zqr (f:Nat->Slot) (t:Nat):(begC f t).ad=none:=by rw[zgF];rfl
noncomputable def ovrM (k:Nat) (f g:Nat->Slot):Nat->Slot:=ovrC (zAm k) f g
theorem zkS {α:Type} (b:Bool) (x y:α) (w:WV x y):pk b x y w=if b=true then x else y:=by cases b<;>rfl
@[go_sem ↓]theorem zrp (k:Nat) (f g:Nat->Slot) (t:Nat):(ovrM k f g t).v=pk ((k>>> t) % 2==1) (f t).v (g t).v ⟨0⟩:=by
 rw[ovrM,zgl,zrP,zcU,zkS]
@[go_sem ↓]theorem zo6 (k:Nat) (f g:Nat->Slot) (t:Nat):(ovrM k f g t).box=pk ((k>>> t) % 2==1) (f t).box (g t).box ⟨0⟩:=by
 rw[ovrM,zgl,zoq,zcU,zkS]
@[go_sem ↓]theorem zo5 (v:V) (l:List V) (i t:Nat):(slotsC (v::l) i t).v=pk (t==i) v (slotsC l (i+1) t).v ⟨0⟩:=by rw[zeI,zjH];simp only[slots,upd];split<;>rfl
inductive Kf where
 | seq (y:C)
 | blk (id:Nat)
variable (Γ G) in
def zBL:List Kf->(Ex->M->Prop)->Ex->M->Prop
 | [],Q=>Q
 | .seq y::ks,Q=>zzp (fun m'=>wpC Γ G y m' (zBL ks Q)) (zBL ks Q)
 | .blk id::ks,Q=>zAl id (zBL ks Q)
abbrev tyQ:=(Nat->Option F)->(Nat->List T)->List Kf->(Ex->M->Prop)->Ex->M->Prop
noncomputable def qOf:tyQ:=(Classical.choice (⟨⟨@zBL,rfl⟩⟩:Nonempty {g:tyQ// g= @zBL})).1
theorem zbb:qOf= @zBL:=(Classical.choice (⟨⟨@zBL,rfl⟩⟩:Nonempty {g:tyQ// g= @zBL})).2
@[go_sem ↓]theorem ztI (Q:Ex->M->Prop) (e:Ex) (m:M):qOf Γ G [] Q e m=Q e m:=by(try unfold wC);(try rw[zaU]);rw[zbb];rfl
@[go_sem ↓]theorem ztd (y:C) (ks:List Kf) (Q:Ex->M->Prop) (m:M):qOf Γ G (.seq y::ks) Q .normal m=wC Γ G y (qOf Γ G ks Q) m ⟨0⟩:=by(try unfold wC);(try rw[zaU]);rw[zbb];rfl
@[go_sem ↓]theorem ztc (y:C) (ks:List Kf) (Q:Ex->M->Prop) (m:M):qOf Γ G (.seq y::ks) Q .ret m=qOf Γ G ks Q .ret m:=by(try unfold wC);(try rw[zaU]);rw[zbb];rfl
@[go_sem ↓]theorem ztb (y:C) (ks:List Kf) (Q:Ex->M->Prop) (m:M) (id:Nat):qOf Γ G (.seq y::ks) Q (.exit id) m=qOf Γ G ks Q (.exit id) m:=by(try unfold wC);(try rw[zaU]);rw[zbb];rfl
@[go_sem ↓]theorem ztg (i:Nat) (ks:List Kf) (Q:Ex->M->Prop) (m:M):qOf Γ G (.blk i::ks) Q .normal m=qOf Γ G ks Q .normal m:=by rw[zbb];simp[zBL,zAl]
@[go_sem ↓]theorem ztf (i:Nat) (ks:List Kf) (Q:Ex->M->Prop) (m:M):qOf Γ G (.blk i::ks) Q .ret m=qOf Γ G ks Q .ret m:=by rw[zbb];simp[zBL,zAl]
structure W6 (P R:Prop)where
 n:Nat
def ifX (b:Bool) (P R:Prop) (_:W6 P R):Prop:=match b with
 | true=>P
 | false=>R
@[go_sem]theorem ztL (P R:Prop) (w:W6 P R):ifX true P R w=P:=rfl
@[go_sem]theorem ztM (P R:Prop) (w:W6 P R):ifX false P R w=R:=rfl
@[go_sem ↓]theorem zte (i id:Nat) (ks:List Kf) (Q:Ex->M->Prop) (m:M):qOf Γ G (.blk i::ks) Q (.exit id) m=ifX (id==i) (qOf Γ G ks Q .normal m) (qOf Γ G ks Q (.exit id) m) ⟨0⟩:=by
 rw[zbb]
 by_cases h:id=i
 ·simp[zBL,zAl,h,ifX]
 ·have:(id==i)=false:=by simpa using h
  simp[zBL,zAl,h,this,ifX]
@[go_sem ↓]theorem zsO (Q:Ex->M->Prop) (m:M) (w:W3 .skip Q m):wC Γ G .skip Q m w=Q .normal m:=by(try unfold wC wO);(try unfold wC);(try unfold wL);(try rw[zaU]);(try rw[zaw]);(try rw[zcV]);(try rw[zbb]);rfl
@[go_sem ↓]theorem ztw (Q:Ex->M->Prop) (m:M) (w:W3 .ret Q m):wC Γ G .ret Q m w=Q .ret m:=by(try unfold wC wO);(try unfold wC);(try unfold wL);(try rw[zaU]);(try rw[zaw]);(try rw[zcV]);(try rw[zbb]);rfl
@[go_sem ↓]theorem zsX (id:Nat) (Q:Ex->M->Prop) (m:M) (w:W3 (.exit id) Q m):wC Γ G (.exit id) Q m w=Q (.exit id) m:=by(try unfold wC wO);(try unfold wC);(try unfold wL);(try rw[zaU]);(try rw[zaw]);(try rw[zcV]);(try rw[zbb]);rfl
@[go_sem ↓]theorem zqh (d:Bool) (l:List ROp) (Q:Ex->M->Prop) (sl:Nat->Slot) (u:Nat->Bool) (h:Nat->Option O) (n b:Nat) (w:W3 (.region d l) Q ⟨sl,u,h,n,b⟩):
 wC Γ G (.region d l) Q ⟨sl,u,h,n,b⟩ w=wO Γ G d 0 l (Q .normal) ⟨begC sl,fun _=>false,h,addC n l,n⟩ ⟨0⟩:=by(try unfold wC wO);(try unfold wC);(try unfold wL);(try rw[zaU]);(try rw[zaw]);(try rw[zcV]);(try rw[zbb]);rw[zgF,zgK];rfl
@[go_sem ↓]theorem ztv (x y:C) (ks:List Kf) (Q:Ex->M->Prop) (m:M) (w:W3 (.seq x y) (qOf Γ G ks Q) m):wC Γ G (.seq x y) (qOf Γ G ks Q) m w=wC Γ G x (qOf Γ G (.seq y::ks) Q) m ⟨0⟩:=by(try unfold wC wO);(try unfold wC);(try unfold wL);(try rw[zaU]);(try rw[zaw]);(try rw[zcV]);(try rw[zbb]);rfl
@[go_sem ↓]theorem zs0 (t:Nat) (x y:C) (Q:Ex->M->Prop) (sl:Nat->Slot) (u:Nat->Bool) (h:Nat->Option O) (n b:Nat) (w:W3 (.cond (.s t) x y) Q ⟨sl,u,h,n,b⟩):
 wC Γ G (.cond (.s t) x y) Q ⟨sl,u,h,n,b⟩ w=zj3 (sl t).v (wC Γ G x Q ⟨sl,u,h,n,b⟩ ⟨0⟩) (wC Γ G y Q ⟨sl,u,h,n,b⟩ ⟨0⟩) ⟨0⟩:=by(try unfold wC wO);(try unfold wC);(try unfold wL);(try rw[zaU]);(try rw[zaw]);(try rw[zcV]);(try rw[zbb]);exact zpt sl u h n b t x y Q
@[go_sem ↓]theorem zrA (id:Nat) (x:C) (ks:List Kf) (Q:Ex->M->Prop) (m:M) (w:W3 (.block id x) (qOf Γ G ks Q) m):wC Γ G (.block id x) (qOf Γ G ks Q) m w=wC Γ G x (qOf Γ G (.blk id::ks) Q) m ⟨0⟩:=by(try unfold wC wO);(try unfold wC);(try unfold wL);(try rw[zaU]);(try rw[zaw]);(try rw[zcV]);(try rw[zbb]);rfl
@[go_sem ↓]theorem zsR (x:C) (Q:Ex->M->Prop) (m:M) (w:W3 (.loop x) Q m):wC Γ G (.loop x) Q m w=wL Γ G x Q m ⟨0⟩:=by(try unfold wC wO);(try unfold wC);(try unfold wL);(try rw[zaU]);(try rw[zaw]);(try rw[zcV]);(try rw[zbb]);rfl
@[go_sem ↓]theorem zrk (K:M->Prop) (Q:Ex->M->Prop) (m:M):zzp K Q .normal m=K m:=rfl
@[go_sem ↓]theorem zrj (K:M->Prop) (Q:Ex->M->Prop) (m:M):zzp K Q .ret m=Q .ret m:=rfl
@[go_sem ↓]theorem zri (K:M->Prop) (Q:Ex->M->Prop) (m:M) (id:Nat):zzp K Q (.exit id) m=Q (.exit id) m:=rfl
theorem zm7 {v:V} {g:Bool} {A B B':Prop} {w:Wit A B} {w':Wit A B'} (h:B=B'):zde v g A B w=zde v g A B' w':=by
 subst h;rfl
@[go_sem ↓]theorem ztx (d:Bool) (p:Nat) (Q:M->Prop) (m:M) (w:W4 p [] Q m):wO Γ G d p [] Q m w=Q m:=by unfold wO;rw[zaw];rfl
@[go_sem ↓]theorem zrs (d:Bool) (p g:Nat) (want:Bool) (t:Nat) (op:AOp) (l:List ROp) (Q:M->Prop) (sl:Nat->Slot) (u:Nat->Bool) (h:Nat->Option O) (n b:Nat)
 (w:W4 p (⟨some (g,want),some t,op⟩::l) Q ⟨sl,u,h,n,b⟩):
 wO Γ G d p (⟨some (g,want),some t,op⟩::l) Q ⟨sl,u,h,n,b⟩ w=zde (sl g).v want (wO Γ G d p (⟨none,some t,op⟩::l) Q ⟨sl,u,h,n,b⟩ ⟨0⟩)
  (zyF (u t) (some V.undef) (fun v=>wO Γ G d (p+1) l Q ⟨updC sl t ⟨v,none,none⟩,u,h,n,b⟩ ⟨0⟩) ⟨0⟩) ⟨0⟩:=by
 (try rw[zal (α:=Slot)])
 (try rw[zal (α:=Bool)])
 (try rw[zb2])
 unfold wO;rw[zaw];rw[zia,zaI];refine zm7 ?_;simp[M.free,M.apply,zyd,zyF,zxu]
def AOp.isCall:AOp->Bool
 | .call _ _ _=>true
 | .fcall _ _=>true
 | _=>false
theorem zbW {d:Bool} {p:Nat} {m:M} {dst:Option Nat} {op:AOp} {K:M->Prop} (hc:op.isCall=false):
 zz5 Γ G d p m dst op K=match zw4 G p m.st op with | none=>False | some e=>m.free dst e=true/\K (m.apply dst e):=by
 cases op<;>first | rfl | simp[AOp.isCall]at hc
theorem za1 {d:Bool} {p t:Nat} {op:AOp} {l:List ROp} {Q:M->Prop} {sl:Nat->Slot} {u:Nat->Bool} {h:Nat->Option O} {n b:Nat} {w:W4 p (⟨none,some t,op⟩::l) Q ⟨sl,u,h,n,b⟩} {ov:Option V}
 (hc:op.isCall=false) (ha:zw4 G p (M.st ⟨sl,u,h,n,b⟩) op=ov.map fun v=>({ val:=v }:Eff)):
 wO Γ G d p (⟨none,some t,op⟩::l) Q ⟨sl,u,h,n,b⟩ w=zyF (u t) ov (fun v=>wO Γ G d (p+1) l Q ⟨updC sl t ⟨v,none,none⟩,u,h,n,b⟩ ⟨0⟩) ⟨0⟩:=by
 (try rw[zal (α:=Slot)])
 (try rw[zal (α:=Bool)])
 (try rw[zb2])
 unfold wO;rw[zaw];rw[zaI,zbW hc,ha]
 cases ov with
 | none=>rfl
 | some v=>simp[M.free,M.apply,zyd,zyF,zxu]
theorem zgO {d:Bool} {p t:Nat} {op:AOp} {l:List ROp} {Q:M->Prop} {sl:Nat->Slot} {u:Nat->Bool} {h:Nat->Option O} {n b:Nat} {w:W4 p (⟨none,some t,op⟩::l) Q ⟨sl,u,h,n,b⟩} {ov:Option (V×List (Nat×O))}
 (hc:op.isCall=false) (ha:zw4 G p (M.st ⟨sl,u,h,n,b⟩) op=ov.map fun v=>({ val:=v.1,hp:=v.2 }:Eff)):
 wO Γ G d p (⟨none,some t,op⟩::l) Q ⟨sl,u,h,n,b⟩ w=zfo (u t) ov (fun v hp=>wO Γ G d (p+1) l Q ⟨updC sl t ⟨v,none,none⟩,u,Av h hp,n,b⟩ ⟨0⟩) ⟨0⟩:=by
 rw[zgi (w':=⟨0⟩)]
 (try rw[zal (α:=Slot)])
 (try rw[zal (α:=Bool)])
 (try rw[zb2])
 unfold wO;rw[zaw];rw[zaI,zbW hc,ha]
 cases ov with
 | none=>rfl
 | some v=>simp[M.free,M.apply,zyd,zyF]
theorem zkj {d:Bool} {p:Nat} {op:AOp} {l:List ROp} {Q:M->Prop} {sl:Nat->Slot} {u:Nat->Bool} {h:Nat->Option O} {n b:Nat} {w:W4 p (⟨none,none,op⟩::l) Q ⟨sl,u,h,n,b⟩} {ov:Option (V×List (Nat×O))}
 (hc:op.isCall=false) (ha:zw4 G p (M.st ⟨sl,u,h,n,b⟩) op=ov.map fun v=>({ val:=v.1,hp:=v.2 }:Eff)):
 wO Γ G d p (⟨none,none,op⟩::l) Q ⟨sl,u,h,n,b⟩ w=zfo false ov (fun _ hp=>wO Γ G d (p+1) l Q ⟨sl,u,Av h hp,n,b⟩ ⟨0⟩) ⟨0⟩:=by
 rw[zgi (w':=⟨0⟩)]
 (try rw[zal (α:=Slot)])
 (try rw[zal (α:=Bool)])
 (try rw[zb2])
 unfold wO;rw[zaw];rw[zaI,zbW hc,ha]
 cases ov with
 | none=>rfl
 | some v=>simp[M.free,M.apply,zyd,zyF]
def zDI (op:BinOp):V->V->Option V
 | .t a,.t b=>(zCJ op a b).map V.t
 | _,_=>none
def mxS (mn:Bool):V->V->Option V
 | .t a,.t b=>(mxT mn a b).map V.t
 | _,_=>none
def unS (op:UnOp):V->Option V
 | .t a=>(unT op a).map V.t
 | _=>none
def zAV:V->Option Bool
 | .t (.bool b)=>some b
 | _=>none
def zAd:V->Option Int
 | .t (.int _ n)=>some n
 | _=>none
def zDH (neg:Bool) (ks:List Nat):V->V->Option V
 | .agg a,.agg b=>(zxx ks a b).map fun r=> .t (.bool (r != neg))
 | _,_=>none
def zCB (h:Nat->Option O) (ag:Bool) (n:Nat):V->Option V
 | .mp k i off=>match h k with
   | some (.rows _ rs _)=>(rs[i]?).bind fun row=>(rd row off n).bind (zxZ ag)
   | _=>none
 | .t (.ip cs)=>(rd cs 0 n).bind fun r=>zxZ ag (r.map V.t)
 | _=>none
def zDD (h:Nat->Option O):V->Option V
 | .mp k i off=>match h k with
   | some (.rows _ _ _)=>some (.mp k i off)
   | _=>none
 | .t (.ip cs)=>some (.t (.ip cs))
 | .fn f a b=>some (.fn f a b)
 | .t (.fn f a b)=>some (.t (.fn f a b))
 | .t (.fa f c)=>some (.t (.fa f c))
 | _=>none
def zCk (h:Nat->Option O) (off:Nat):V->Option V
 | .mp k i o=>match h k with
   | some (.rows _ _ _)=>some (.mp k i (o+off))
   | _=>none
 | .t (.ip cs)=>some (.t (.ip (cs.drop off)))
 | _=>none
def zCh (ag:Bool) (off n:Nat):V->Option V
 | .agg cs=>(rd cs off n).bind (zxZ ag)
 | _=>none
def zAQ (h:Nat->Option O) (sz:Nat) (n:Int):V->Option V
 | .t (.sl es)=>if 0<=n then(es[n.toNat]?).bind fun row=>if row.length=sz then some (.t (.ip row))else none else none
 | .ms k j len=>match h k with
   | some (.rows sz' _ _)=>if 0<=n/\n<len/\sz'=sz then some (.mp k (j+n.toNat) 0)else none
   | _=>none
 | _=>none
def zBq (h:Nat->Option O) (len sz:Nat) (n:Int) (v:V):Option V:=
 if 0<=n/\n<len then match v with
  | .mp k j o=>match h k with
    | some (.rows _ _ _)=>some (.mp k j (o+n.toNat*sz))
    | _=>none
  | .t (.ip cs)=>some (.t (.ip (cs.drop (n.toNat*sz))))
  | _=>none
 else none
def zC4 (ag:Bool) (len sz:Nat) (n:Int):V->Option V
 | .agg cs=>if 0<=n/\n<len then(rd cs (n.toNat*sz) sz).bind (zxZ ag)else none
 | _=>none
def zC2 (n:Int):V->Option V
 | .t (.str b)=>if 0<=n then(b[n.toNat]?).map fun c=> .t (.int .u8 c.toNat)else none
 | _=>none
def zC7 (i:Nat):V->Option V
 | .tup cs=>cs[i]?
 | _=>none
def zBo (h:Nat->Option O):V->Option Nat
 | .t .nils=>some 0
 | .t (.sl es)=>some es.length
 | .t (.slc es)=>some es.length
 | .ms k _ len=>match h k with
   | some (.rows _ _ _)=>some len
   | _=>none
 | _=>none
def zpf:V->Option V
 | .t (.str b)=>some (.t (.int .i64 b.size))
 | _=>none
def rowsS (h:Nat->Option O):V->Option (List (List V))
 | .t .nils=>some []
 | .t (.sl es)=>some (es.map (·.map V.t))
 | .t (.slc es)=>some (es.map (·.map V.t))
 | .ms k i len=>match h k with
   | some (.rows _ rs _)=>rd rs i len
   | _=>none
 | _=>none
attribute [go_sem] zDI mxS unS zAV zAd zDH zCB zDD zCk zCh zAQ zBq zC4 zC2 zC7 zpf
@[go_sem]theorem zpG (h:Nat->Option O):zBo h (.t .nils)=some 0:=rfl
@[go_sem]theorem zrU (h:Nat->Option O) (es:List (List T)):zBo h (.t (.sl es))=some es.length:=rfl
@[go_sem]theorem zrV (h:Nat->Option O) (k i len:Nat):zBo h (.ms k i len)=match h k with
 | some (.rows _ _ _)=>some len
 | _=>none:=rfl
@[go_sem]theorem zoW (h:Nat->Option O):rowsS h (.t .nils)=some []:=rfl
@[go_sem]theorem zqC (h:Nat->Option O) (es:List (List T)):rowsS h (.t (.sl es))=some (es.map (·.map V.t)):=rfl
@[go_sem]theorem zqD (h:Nat->Option O) (k i len:Nat):rowsS h (.ms k i len)=match h k with
 | some (.rows _ rs _)=>rd rs i len
 | _=>none:=rfl
variable (G) in
def zyI (sl:Nat->Slot):List Opd->Option (List V)
 | []=>some []
 | x::xs=>ob (zxo G sl x) (fun v=>ob (zyI sl xs) (fun vs=>some (v::vs)) ⟨0⟩) ⟨0⟩
@[go_sem ↓]theorem zpR (sl:Nat->Slot):zyI G sl []=some []:=rfl
@[go_sem ↓]theorem zjY (sl:Nat->Slot) (x:Opd) (xs:List Opd):zyI G sl (x::xs)=ob (zxo G sl x) (fun v=>ob (zyI G sl xs) (fun vs=>some (v::vs)) ⟨0⟩) ⟨0⟩:=rfl
theorem zds (sl:Nat->Slot) (u:Nat->Bool) (h:Nat->Option O) (n b:Nat): ∀xs:List Opd,zzo G (M.st ⟨sl,u,h,n,b⟩) xs=zyI G sl xs
 | []=>rfl
 | x::xs=>by
   rw[zzo,zjY,zaB,zds sl u h n b xs];rfl
theorem zbw (sl:Nat->Slot) (u:Nat->Bool) (h:Nat->Option O) (n b:Nat) (x:Opd):zb7 G (M.st ⟨sl,u,h,n,b⟩) x=(zxo G sl x).bind zAd:=by
 rw[zb7,zaB]
 cases zxo G sl x with
 | none=>rfl
 | some v=>cases v with
   | t x=>cases x<;>rfl
   | _=>rfl
theorem zhA (sl:Nat->Slot) (u:Nat->Bool) (h:Nat->Option O) (n b:Nat) (x:Opd):zyM G (M.st ⟨sl,u,h,n,b⟩) x=(zxo G sl x).bind zAV:=by
 rw[zyM,zaB]
 cases zxo G sl x with
 | none=>rfl
 | some v=>cases v with
   | t x=>cases x<;>rfl
   | _=>rfl
variable (d:Bool) (p:Nat) (l:List ROp) (Q:M->Prop) (sl:Nat->Slot) (u:Nat->Bool) (h:Nat->Option O) (n b:Nat)
@[go_sem ↓]theorem zvS (t:Nat) (x:Opd) (w:W4 _ _ _ _):
 wO Γ G d p (⟨none,some t,.mv x⟩::l) Q ⟨sl,u,h,n,b⟩ w=zyF (u t) (zxo G sl x) (fun v=>wO Γ G d (p+1) l Q ⟨updC sl t ⟨v,none,none⟩,u,h,n,b⟩ ⟨0⟩) ⟨0⟩:=by
 refine za1 rfl ?_;simp only[zw4,zaB];cases zxo G sl x<;>rfl
@[go_sem ↓]theorem zqj (t:Nat) (x:Opd) (w:W4 _ _ _ _):
 wO Γ G d p (⟨none,some t,.nilchk x⟩::l) Q ⟨sl,u,h,n,b⟩ w=zyF (u t) (ob (zxo G sl x) (zDD h) ⟨0⟩) (fun v=>wO Γ G d (p+1) l Q ⟨updC sl t ⟨v,none,none⟩,u,h,n,b⟩ ⟨0⟩) ⟨0⟩:=by
 refine za1 rfl ?_;simp only[zw4,zaB,ob]
 cases zxo G sl x with
 | none=>rfl
 | some v=>cases v with
   | mp k i off=>simp only[zC,zD,zDD,M.st];cases h k with
     | none=>rfl
     | some o=>cases o<;>rfl
   | t x=>cases x<;>rfl
   | _=>rfl
@[go_sem ↓]theorem ztD (t:Nat) (op:BinOp) (x y:Opd) (w:W4 _ _ _ _):
 wO Γ G d p (⟨none,some t,.bin op x y⟩::l) Q ⟨sl,u,h,n,b⟩ w=zyF (u t) (ob (zxo G sl x) (fun a=>ob (zxo G sl y) (zDI op a) ⟨0⟩) ⟨0⟩) (fun v=>wO Γ G d (p+1) l Q ⟨updC sl t ⟨v,none,none⟩,u,h,n,b⟩ ⟨0⟩) ⟨0⟩:=by
 refine za1 rfl ?_;simp only[zw4,zaB,ob]
 cases zxo G sl x with
 | none=>rfl
 | some v=>cases zxo G sl y with
   | none=>rfl
   | some v'=>cases v<;>cases v'<;>simp only[zC,zD,zDI,Option.map_none]
              rename_i a c;cases zCJ op a c<;>rfl
@[go_sem ↓]theorem zvR (t:Nat) (mn:Bool) (x y:Opd) (w:W4 _ _ _ _):
 wO Γ G d p (⟨none,some t,.mx mn x y⟩::l) Q ⟨sl,u,h,n,b⟩ w=zyF (u t) (ob (zxo G sl x) (fun a=>ob (zxo G sl y) (mxS mn a) ⟨0⟩) ⟨0⟩) (fun v=>wO Γ G d (p+1) l Q ⟨updC sl t ⟨v,none,none⟩,u,h,n,b⟩ ⟨0⟩) ⟨0⟩:=by
 refine za1 rfl ?_;simp only[zw4,zaB,ob]
 cases zxo G sl x with
 | none=>rfl
 | some v=>cases zxo G sl y with
   | none=>rfl
   | some v'=>cases v<;>cases v'<;>simp only[zC,zD,mxS,Option.map_none]
              rename_i a c;cases mxT mn a c<;>rfl
@[go_sem ↓]theorem zvQ (t:Nat) (op:UnOp) (x:Opd) (w:W4 _ _ _ _):
 wO Γ G d p (⟨none,some t,.un op x⟩::l) Q ⟨sl,u,h,n,b⟩ w=zyF (u t) (ob (zxo G sl x) (unS op) ⟨0⟩) (fun v=>wO Γ G d (p+1) l Q ⟨updC sl t ⟨v,none,none⟩,u,h,n,b⟩ ⟨0⟩) ⟨0⟩:=by
 refine za1 rfl ?_;simp only[zw4,zaB,ob]
 cases zxo G sl x with
 | none=>rfl
 | some v=>cases v<;>simp only[zC,zD,unS,Option.map_none]
           rename_i a;cases unT op a<;>rfl
@[go_sem ↓]theorem ztB (t:Nat) (neg:Bool) (x y:Opd) (w:W4 _ _ _ _):
 wO Γ G d p (⟨none,some t,.eqb neg x y⟩::l) Q ⟨sl,u,h,n,b⟩ w=zyF (u t) (ob (zxo G sl x) (fun a=>ob (zAV a) (fun a=>ob (zxo G sl y) (fun b=>ob (zAV b) (fun b=>some (.t (.bool ((a==b) != neg)))) ⟨0⟩) ⟨0⟩) ⟨0⟩) ⟨0⟩) (fun v=>wO Γ G d (p+1) l Q ⟨updC sl t ⟨v,none,none⟩,u,h,n,b⟩ ⟨0⟩) ⟨0⟩:=by
 refine za1 rfl ?_;simp only[zw4,zhA,ob]
 cases zxo G sl x with
 | none=>rfl
 | some v=>simp only[zC,zD];cases zAV v with
   | none=>rfl
   | some a=>cases zxo G sl y with
     | none=>rfl
     | some v'=>simp only[zC,zD];cases zAV v'<;>rfl
@[go_sem ↓]theorem ztC (t:Nat) (neg:Bool) (ks:List Nat) (x y:Opd) (w:W4 _ _ _ _):
 wO Γ G d p (⟨none,some t,.eqa neg ks x y⟩::l) Q ⟨sl,u,h,n,b⟩ w=zyF (u t) (ob (zxo G sl x) (fun a=>ob (zxo G sl y) (zDH neg ks a) ⟨0⟩) ⟨0⟩) (fun v=>wO Γ G d (p+1) l Q ⟨updC sl t ⟨v,none,none⟩,u,h,n,b⟩ ⟨0⟩) ⟨0⟩:=by
 refine za1 rfl ?_;simp only[zw4,zaB,ob]
 cases zxo G sl x with
 | none=>rfl
 | some v=>cases zxo G sl y with
   | none=>rfl
   | some v'=>cases v<;>cases v'<;>simp only[zC,zD,zDH,Option.map_none]
              rename_i a c;cases zxx ks a c<;>rfl
@[go_sem ↓]theorem zsZ (t:Nat) (k:IntKind) (x:Opd) (w:W4 _ _ _ _):
 wO Γ G d p (⟨none,some t,.conv k x⟩::l) Q ⟨sl,u,h,n,b⟩ w=zyF (u t) (ob (zxo G sl x) (fun v=>ob (zAd v) (fun n=>some (.t (.int k (k.wrap n)))) ⟨0⟩) ⟨0⟩) (fun v=>wO Γ G d (p+1) l Q ⟨updC sl t ⟨v,none,none⟩,u,h,n,b⟩ ⟨0⟩) ⟨0⟩:=by
 refine za1 rfl ?_;simp only[zw4,zbw,ob]
 cases zxo G sl x with
 | none=>rfl
 | some v=>simp only[zC,zD];cases zAd v<;>rfl
@[go_sem ↓]theorem zsS (t:Nat) (ag:Bool) (k:Nat) (x:Opd) (w:W4 _ _ _ _):
 wO Γ G d p (⟨none,some t,.load ag k x⟩::l) Q ⟨sl,u,h,n,b⟩ w=zyF (u t) (ob (zxo G sl x) (zCB h ag k) ⟨0⟩) (fun v=>wO Γ G d (p+1) l Q ⟨updC sl t ⟨v,none,none⟩,u,h,n,b⟩ ⟨0⟩) ⟨0⟩:=by
 refine za1 rfl ?_;simp only[zw4,zaB,ob]
 cases zxo G sl x with
 | none=>rfl
 | some v=>cases v with
   | mp j i off=>simp only[zC,zD,zCB,M.st];cases h j with
     | none=>rfl
     | some o=>cases o with
       | rows s rs z=>
         simp only
         cases rs[i]? with
         | none=>rfl
         | some row=>simp only[zD];cases rd row off k with
           | none=>rfl
           | some r=>simp only[zD];cases zxZ ag r<;>rfl
       | _=>rfl
   | t x=>cases x with
     | ip cs=>simp only[zC,zD,zCB];cases rd cs 0 k with
       | none=>rfl
       | some r=>simp only[zD];cases zxZ ag (r.map V.t)<;>rfl
     | _=>rfl
   | _=>rfl
@[go_sem ↓]theorem zrx (t:Nat) (off:Nat) (x:Opd) (w:W4 _ _ _ _):
 wO Γ G d p (⟨none,some t,.faddr off x⟩::l) Q ⟨sl,u,h,n,b⟩ w=zyF (u t) (ob (zxo G sl x) (zCk h off) ⟨0⟩) (fun v=>wO Γ G d (p+1) l Q ⟨updC sl t ⟨v,none,none⟩,u,h,n,b⟩ ⟨0⟩) ⟨0⟩:=by
 refine za1 rfl ?_;simp only[zw4,zaB,ob]
 cases zxo G sl x with
 | none=>rfl
 | some v=>cases v with
   | mp k i o=>simp only[zC,zD,zCk,M.st];cases h k with
     | none=>rfl
     | some o=>cases o<;>rfl
   | t x=>cases x<;>rfl
   | _=>rfl
@[go_sem ↓]theorem zrv (t:Nat) (ag:Bool) (off k:Nat) (x:Opd) (w:W4 _ _ _ _):
 wO Γ G d p (⟨none,some t,.field ag off k x⟩::l) Q ⟨sl,u,h,n,b⟩ w=zyF (u t) (ob (zxo G sl x) (zCh ag off k) ⟨0⟩) (fun v=>wO Γ G d (p+1) l Q ⟨updC sl t ⟨v,none,none⟩,u,h,n,b⟩ ⟨0⟩) ⟨0⟩:=by
 refine za1 rfl ?_;simp only[zw4,zaB,ob]
 cases zxo G sl x with
 | none=>rfl
 | some v=>cases v with
   | agg cs=>simp only[zC,zD,zCh];cases rd cs off k with
     | none=>rfl
     | some r=>simp only[zD];cases zxZ ag r<;>rfl
   | _=>rfl
@[go_sem ↓]theorem zqm (t:Nat) (sz:Nat) (x i:Opd) (w:W4 _ _ _ _):
 wO Γ G d p (⟨none,some t,.iaddrS sz x i⟩::l) Q ⟨sl,u,h,n,b⟩ w=zyF (u t) (ob (zxo G sl i) (fun v=>ob (zAd v) (fun k=>ob (zxo G sl x) (zAQ h sz k) ⟨0⟩) ⟨0⟩) ⟨0⟩) (fun v=>wO Γ G d (p+1) l Q ⟨updC sl t ⟨v,none,none⟩,u,h,n,b⟩ ⟨0⟩) ⟨0⟩:=by
 refine za1 rfl ?_;simp only[zw4,zaB,zbw,ob]
 cases zxo G sl i with
 | none=>rfl
 | some v=>simp only[zC,zD];cases zAd v with
   | none=>rfl
   | some k=>cases zxo G sl x with
     | none=>rfl
     | some v=>cases v with
       | ms q j len=>simp only[zD,zAQ,M.st];cases h q with
         | none=>rfl
         | some o=>cases o with
           | rows s rs z=>simp only;split<;>rfl
           | _=>rfl
       | t x=>cases x with
         | sl es=>
           simp only[zD,zAQ];split
           ·cases es[k.toNat]? with
            | none=>rfl
            | some row=>simp only[zD];split<;>rfl
           ·rfl
         | _=>rfl
       | _=>rfl
@[go_sem ↓]theorem zqn (t:Nat) (len sz:Nat) (x i:Opd) (w:W4 _ _ _ _):
 wO Γ G d p (⟨none,some t,.iaddrA len sz x i⟩::l) Q ⟨sl,u,h,n,b⟩ w=zyF (u t) (ob (zxo G sl i) (fun v=>ob (zAd v) (fun k=>ob (zxo G sl x) (zBq h len sz k) ⟨0⟩) ⟨0⟩) ⟨0⟩) (fun v=>wO Γ G d (p+1) l Q ⟨updC sl t ⟨v,none,none⟩,u,h,n,b⟩ ⟨0⟩) ⟨0⟩:=by
 refine za1 rfl ?_;simp only[zw4,zaB,zbw,ob]
 cases zxo G sl i with
 | none=>rfl
 | some v=>simp only[zC,zD];cases zAd v with
   | none=>rfl
   | some k=>cases zxo G sl x with
     | none=>simp
     | some v=>simp only[zD,zBq];split
               ·cases v with
                | mp q j o=>simp only[M.st];cases h q with
                  | none=>rfl
                  | some o=>cases o<;>rfl
                | t x=>cases x<;>rfl
                | _=>rfl
               ·rfl
@[go_sem ↓]theorem zsU (t:Nat) (ag:Bool) (len sz:Nat) (x i:Opd) (w:W4 _ _ _ _):
 wO Γ G d p (⟨none,some t,.idxA ag len sz x i⟩::l) Q ⟨sl,u,h,n,b⟩ w=zyF (u t) (ob (zxo G sl i) (fun v=>ob (zAd v) (fun k=>ob (zxo G sl x) (zC4 ag len sz k) ⟨0⟩) ⟨0⟩) ⟨0⟩) (fun v=>wO Γ G d (p+1) l Q ⟨updC sl t ⟨v,none,none⟩,u,h,n,b⟩ ⟨0⟩) ⟨0⟩:=by
 refine za1 rfl ?_;simp only[zw4,zaB,zbw,ob]
 cases zxo G sl i with
 | none=>rfl
 | some v=>simp only[zC,zD];cases zAd v with
   | none=>rfl
   | some k=>cases zxo G sl x with
     | none=>rfl
     | some v=>cases v with
       | agg cs=>
         simp only[zD,zC4];split
         ·cases rd cs (k.toNat*sz) sz with
          | none=>rfl
          | some r=>simp only[zD];cases zxZ ag r<;>rfl
         ·rfl
       | _=>rfl
@[go_sem ↓]theorem zsT (t:Nat) (x i:Opd) (w:W4 _ _ _ _):
 wO Γ G d p (⟨none,some t,.idxS x i⟩::l) Q ⟨sl,u,h,n,b⟩ w=zyF (u t) (ob (zxo G sl i) (fun v=>ob (zAd v) (fun k=>ob (zxo G sl x) (zC2 k) ⟨0⟩) ⟨0⟩) ⟨0⟩) (fun v=>wO Γ G d (p+1) l Q ⟨updC sl t ⟨v,none,none⟩,u,h,n,b⟩ ⟨0⟩) ⟨0⟩:=by
 refine za1 rfl ?_;simp only[zw4,zaB,zbw,ob]
 cases zxo G sl i with
 | none=>rfl
 | some v=>simp only[zC,zD];cases zAd v with
   | none=>rfl
   | some k=>cases zxo G sl x with
     | none=>rfl
     | some v=>cases v with
       | t x=>cases x with
         | str s=>
           simp only[zD,zC2];split
           ·cases s[k.toNat]? <;>rfl
           ·rfl
         | _=>rfl
       | _=>rfl
@[go_sem ↓]theorem zsW (t:Nat) (x:Opd) (i:Nat) (w:W4 _ _ _ _):
 wO Γ G d p (⟨none,some t,.extr x i⟩::l) Q ⟨sl,u,h,n,b⟩ w=zyF (u t) (ob (zxo G sl x) (zC7 i) ⟨0⟩) (fun v=>wO Γ G d (p+1) l Q ⟨updC sl t ⟨v,none,none⟩,u,h,n,b⟩ ⟨0⟩) ⟨0⟩:=by
 refine za1 rfl ?_;simp only[zw4,zaB,ob]
 cases zxo G sl x with
 | none=>rfl
 | some v=>cases v with
   | tup cs=>simp only[zC,zD,zC7];cases cs[i]? <;>rfl
   | _=>rfl
theorem zgp (sl:Nat->Slot) (u:Nat->Bool) (h:Nat->Option O) (n b:Nat) (v:V):lenOf (M.st ⟨sl,u,h,n,b⟩) v=zBo h v:=by
 cases v with
 | t x=>cases x<;>rfl
 | ms k i len=>simp only[lenOf,zBo,M.st];cases h k with
   | none=>rfl
   | some o=>cases o<;>rfl
 | _=>rfl
theorem zg1 (sl:Nat->Slot) (u:Nat->Bool) (h:Nat->Option O) (n b:Nat) (v:V):zby (M.st ⟨sl,u,h,n,b⟩) v=rowsS h v:=by
 cases v with
 | t x=>cases x<;>rfl
 | ms k i len=>simp only[zby,rowsS,M.st];cases h k with
   | none=>rfl
   | some o=>cases o<;>rfl
 | _=>rfl
@[go_sem ↓]theorem zty (t:Nat) (x:Opd) (w:W4 _ _ _ _):
 wO Γ G d p (⟨none,some t,.len x⟩::l) Q ⟨sl,u,h,n,b⟩ w=zyF (u t) (ob (zxo G sl x) (fun v=>ob (zBo h v) (fun k=>some (.t (.int .i64 k))) ⟨0⟩) ⟨0⟩) (fun v=>wO Γ G d (p+1) l Q ⟨updC sl t ⟨v,none,none⟩,u,h,n,b⟩ ⟨0⟩) ⟨0⟩:=by
 refine za1 rfl ?_;simp only[zw4,zaB,ob,zgp]
 cases zxo G sl x with
 | none=>rfl
 | some v=>simp only[zC,zD];cases zBo h v<;>rfl
@[go_sem ↓]theorem zsN (t:Nat) (x:Opd) (w:W4 _ _ _ _):
 wO Γ G d p (⟨none,some t,.slen x⟩::l) Q ⟨sl,u,h,n,b⟩ w=zyF (u t) (ob (zxo G sl x) zpf ⟨0⟩) (fun v=>wO Γ G d (p+1) l Q ⟨updC sl t ⟨v,none,none⟩,u,h,n,b⟩ ⟨0⟩) ⟨0⟩:=by
 refine za1 rfl ?_;simp only[zw4,zaB,ob]
 cases zxo G sl x with
 | none=>rfl
 | some v=>cases v with
   | t x=>cases x<;>rfl
   | _=>rfl
def zts (v:V):Option V:=match v with
 | .t .nils=>some (.t (.int .i64 0))
 | _=>none
@[go_sem]theorem ztr:zts (.t .nils)=some (.t (.int .i64 0)):=rfl
@[go_sem ↓]theorem zs1 (t:Nat) (x:Opd) (w:W4 _ _ _ _):
 wO Γ G d p (⟨none,some t,.capN x⟩::l) Q ⟨sl,u,h,n,b⟩ w=zyF (u t) (ob (zxo G sl x) zts ⟨0⟩) (fun v=>wO Γ G d (p+1) l Q ⟨updC sl t ⟨v,none,none⟩,u,h,n,b⟩ ⟨0⟩) ⟨0⟩:=by
 refine za1 rfl ?_;simp only[zw4,zaB,ob]
 cases zxo G sl x with
 | none=>rfl
 | some v=>cases v with
   | t x=>cases x<;>rfl
   | _=>rfl
def zoK (o:Option V) (A B:Prop) (w:Wit A B):Prop:=match o with
 | some v=>zj3 v A B w
 | none=>False
@[go_sem]theorem zsA (b:Bool) (A B:Prop) (w:Wit A B):zoK (some (.t (.bool b))) A B w=zcQ b A B w:=rfl
@[go_sem ↓]theorem zsP (t:Nat) (c x y:Opd) (w:W4 _ _ _ _):
 wO Γ G d p (⟨none,some t,.pick c x y⟩::l) Q ⟨sl,u,h,n,b⟩ w=zoK (zxo G sl c)
  (zyF (u t) (zxo G sl x) (fun v=>wO Γ G d (p+1) l Q ⟨updC sl t ⟨v,none,none⟩,u,h,n,b⟩ ⟨0⟩) ⟨0⟩)
  (zyF (u t) (zxo G sl y) (fun v=>wO Γ G d (p+1) l Q ⟨updC sl t ⟨v,none,none⟩,u,h,n,b⟩ ⟨0⟩) ⟨0⟩) ⟨0⟩:=by
 rw[za1 (ov:=((zxo G sl c).bind zAV).bind fun t=>zxo G sl (if t then x else y)) rfl (by
  simp only[zw4,zaB,zhA]
  cases(zxo G sl c).bind zAV with
  | none=>rfl
  | some v=>simp only[zC,zD];cases zxo G sl (if v=true then x else y)<;>rfl)]
 cases zxo G sl c with
 | none=>rfl
 | some v=>cases v with
   | t z=>cases z with
     | bool z=>cases z<;>simp[zoK,zj3,zcQ,zAV]
     | _=>rfl
   | _=>rfl
@[go_sem ↓]theorem zqt (t:Nat) (cs:List V) (w:W4 _ _ _ _):
 wO Γ G d p (⟨none,some t,.allocL cs⟩::l) Q ⟨sl,u,h,n,b⟩ w=zyF (u t) (some cs) (fun cs=>wO Γ G d (p+1) l Q ⟨updC sl t ⟨.lb,some cs,none⟩,u,h,n,b⟩ ⟨0⟩) ⟨0⟩:=by
 (try rw[zal (α:=Slot)])
 (try rw[zal (α:=Bool)])
 (try rw[zb2])
 unfold wO;rw[zaw];rw[zaI,zbW rfl];simp[zw4,M.free,M.apply,zyd,zyF,zxu]
@[go_sem ↓]theorem zs3 (t k:Nat) (x:Opd) (w:W4 _ _ _ _):
 wO Γ G d p (⟨none,some t,.boxL k x⟩::l) Q ⟨sl,u,h,n,b⟩ w=zyF (u t) (ob (zxo G sl x) (fun v=>ob v.cells (fun cs=>if cs.length=k then some cs else none) ⟨0⟩) ⟨0⟩)
  (fun cs=>wO Γ G d (p+1) l Q ⟨updC sl t ⟨.lb,some cs,none⟩,u,h,n,b⟩ ⟨0⟩) ⟨0⟩:=by
 (try rw[zal (α:=Slot)])
 (try rw[zal (α:=Bool)])
 (try rw[zb2])
 unfold wO;rw[zaw];rw[zaI,zbW rfl];simp only[zw4,zaB,ob]
 cases zxo G sl x with
 | none=>rfl
 | some v=>
   simp only[zC,zD]
   cases v.cells with
   | none=>rfl
   | some cs=>
     simp only[zD]
     by_cases hk:cs.length=k
     ·simp[M.free,M.apply,zyd,zyF,zxu,hk]
     ·simp[zyF,hk]
def zCP {β:Type} (ad:Option (Nat×Nat)) (v:V) (t:Nat) (K:Nat->Nat->Option β) (_:WK K):Option β:=match ad with
 | some r=>K r.1 r.2
 | none=>match v with
   | .lb=>K t 0
   | _=>none
@[go_sem]theorem zpq {β:Type} (a o:Nat) (v:V) (t:Nat) (K:Nat->Nat->Option β) (w:WK K):zCP (some (a,o)) v t K w=K a o:=rfl
@[go_sem]theorem zrN {β:Type} (t:Nat) (K:Nat->Nat->Option β) (w:WK K):zCP none .lb t K w=K t 0:=rfl
theorem zgg (sl:Nat->Slot) (u:Nat->Bool) (h:Nat->Option O) (n b t:Nat) {β:Type} (K:Nat->Nat->Option β) (w:WK K):
 ((zyS (M.st ⟨sl,u,h,n,b⟩) (.s t)).bind fun r=>K r.1 r.2)=zCP (sl t).ad (sl t).v t K w:=by
 simp only[zyS,M.st,zCP]
 cases(sl t).ad with
 | some r=>rfl
 | none=>cases(sl t).v<;>rfl
@[go_sem ↓]theorem zrr (t:Nat) (ag:Bool) (k a:Nat) (w:W4 _ _ _ _):
 wO Γ G d p (⟨none,some t,.loadL ag k (.s a)⟩::l) Q ⟨sl,u,h,n,b⟩ w=zyF (u t) (zCP (sl a).ad (sl a).v a (fun r off=>ob (sl r).box (fun cs=>ob (rd cs off k) (zxZ ag) ⟨0⟩) ⟨0⟩) ⟨0⟩) (fun v=>wO Γ G d (p+1) l Q ⟨updC sl t ⟨v,none,none⟩,u,h,n,b⟩ ⟨0⟩) ⟨0⟩:=by
 refine za1 rfl ?_;rw[<- zgg sl u h n b a];simp only[zw4,ob]
 cases zyS (M.st ⟨sl,u,h,n,b⟩) (.s a)with
 | none=>rfl
 | some r=>
   simp only[zC,zD,M.st]
   cases(sl r.1).box with
   | none=>rfl
   | some cs=>simp only[zD];cases rd cs r.2 k with
     | none=>rfl
     | some x=>simp only[zD];cases zxZ ag x<;>rfl
@[go_sem ↓]theorem zqf (k a:Nat) (x:Opd) (w:W4 _ _ _ _):
 wO Γ G d p (⟨none,none,.storeL k (.s a) x⟩::l) Q ⟨sl,u,h,n,b⟩ w=
  zpx (zCP (sl a).ad (sl a).v a (fun r off=>ob (sl r).box (fun cs=>ob (zxo G sl x) (fun v=>ob v.cells (fun new=>if new.length=k then ob (wr cs off new) (fun cs'=>some (r,(sl r).v,cs',(sl r).ad)) ⟨0⟩else none) ⟨0⟩) ⟨0⟩) ⟨0⟩) ⟨0⟩)
   (fun r v cs ad=>wO Γ G d (p+1) l Q ⟨updC sl r ⟨v,some cs,ad⟩,u,h,n,b⟩ ⟨0⟩) ⟨0⟩:=by
 (try rw[zal (α:=Slot)])
 (try rw[zal (α:=Bool)])
 (try rw[zb2])
 unfold wO;rw[zaw];rw[zaI,zbW rfl,<- zgg sl u h n b a];simp only[zw4,ob,zaB]
 cases zyS (M.st ⟨sl,u,h,n,b⟩) (.s a)with
 | none=>rfl
 | some r=>
   simp only[zC,zD,M.st]
   cases(sl r.1).box with
   | none=>rfl
   | some cs=>simp only[zD];cases zxo G sl x with
     | none=>rfl
     | some v=>simp only[zD];cases v.cells with
       | none=>rfl
       | some new=>
         simp only[zD]
         by_cases hk:new.length=k
         ·cases wr cs r.2 new with
          | none=>simp[zpx,hk]
          | some cs'=>simp[M.free,M.apply,zyd,zpx,zxu,hk]
         ·simp[zpx,hk]
@[go_sem ↓]theorem zqo (t off a:Nat) (w:W4 _ _ _ _):
 wO Γ G d p (⟨none,some t,.faddrL off (.s a)⟩::l) Q ⟨sl,u,h,n,b⟩ w=
  zfo (u t) (zCP (sl a).ad (sl a).v a (fun r o=>if(sl r).box.isSome=true/\r≠t then some (r,o+off)else none) ⟨0⟩)
   (fun r o=>wO Γ G d (p+1) l Q ⟨updC sl t ⟨.lb,none,some (r,o)⟩,updC u r true,h,n,b⟩ ⟨0⟩) ⟨0⟩:=by
 rw[zgi (w':=⟨0⟩)]
 (try rw[zal (α:=Slot)])
 (try rw[zal (α:=Bool)])
 (try rw[zb2])
 unfold wO;rw[zaw];rw[zaI,zbW rfl,<- zgg sl u h n b a];simp only[zw4]
 cases zyS (M.st ⟨sl,u,h,n,b⟩) (.s a)with
 | none=>rfl
 | some r=>
   simp only[zC,zD,M.st]
   cases(sl r.1).box with
   | none=>simp[zyF]
   | some cs=>
     simp only[zD,Option.isSome_some,true_and]
     by_cases EU:r.1=t
     ·simp[M.free,zyF,EU]
     ·simp[M.free,M.apply,zyd,zyF,zxu,EU]
@[go_sem ↓]theorem zo8 (t len sz a:Nat) (i:Opd) (w:W4 _ _ _ _):
 wO Γ G d p (⟨none,some t,.iaddrAL len sz (.s a) i⟩::l) Q ⟨sl,u,h,n,b⟩ w=
  zfo (u t) (ob (zxo G sl i) (fun v=>ob (zAd v) (fun k=>zCP (sl a).ad (sl a).v a (fun r o=>if(sl r).box.isSome=true/\r≠t/\0<=k/\k<len then some (r,o+k.toNat*sz)else none) ⟨0⟩) ⟨0⟩) ⟨0⟩)
   (fun r o=>wO Γ G d (p+1) l Q ⟨updC sl t ⟨.lb,none,some (r,o)⟩,updC u r true,h,n,b⟩ ⟨0⟩) ⟨0⟩:=by
 rw[zgi (w':=⟨0⟩)]
 (try rw[zal (α:=Slot)])
 (try rw[zal (α:=Bool)])
 (try rw[zb2])
 unfold wO;rw[zaw];rw[zaI,zbW rfl];simp only[zw4,ob,zbw]
 cases zxo G sl i with
 | none=>rfl
 | some v=>
   simp only[zC,zD]
   cases zAd v with
   | none=>rfl
   | some k=>
     simp only[zD];rw[<- zgg sl u h n b a]
     cases zyS (M.st ⟨sl,u,h,n,b⟩) (.s a)with
     | none=>rfl
     | some r=>
       simp only[zD,M.st]
       cases(sl r.1).box with
       | none=>simp[zyF]
       | some cs=>
         simp only[zD,Option.isSome_some,true_and]
         by_cases EU:r.1=t
         ·by_cases hk:0<=k/\k<len
          ·simp[M.free,zyF,EU,hk]
          ·simp[M.free,zyF,EU,hk]
         ·by_cases hk:0<=k/\k<len
          ·simp[M.free,M.apply,zyd,zyF,zxu,EU,hk]
          ·have : ¬(r.1≠t/\0<=k/\k<len):=fun h=>hk h.2
           rw[if_neg hk,if_neg this];rfl
end
end Rg
end
