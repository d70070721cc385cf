/- Part of the proof of laws of relyguardlaw31. No condition. -/
import Derived.ChangeSame
import Derived.WideKeyArgs
import Derived.RowKit
import Derived.LaidLaws
import Derived.Stop.Joined
import Derived.Test.YtcmeofagpechdaaGreatDoorRartAQ
import Derived.OpenShut
import Derived.MakeChecks
import Derived.FnData
import Derived.Test.YtcmeofagpechdaaGreatDoorRartAN
set_option linter.unusedVariables false
set_option linter.unusedSimpArgs false
section
namespace Rg
open Go Go.ChangeShapes
section
variable {H:Type} {enc:TypeId×Value->H} {P:Program}
theorem zdn {W W':World} {sp:Nat->Bool} (hl:laidOutB P=true): ∀{ts:List TypeId} {vs:List Value} {ds:List (DataW H)} {ps:List MemPlace},
 (∀t∈ts,P.readableRec t=true/\t<P.types.size)->DataW.TrodAll enc P W 0 (fun _=>true) true ts vs ds ps->(∀p∈ps,W.sameAt W' p)->(∀p∈ps,sp p.block=true)->DataW.TrodAll enc P W' 0 sp true ts vs ds ps
 | [],[],[],ps,_,h,_,_=>h
 | t::ts,v::vs,d::ds,ps,hr,h,hs,hp=>by
   obtain⟨p,q,h1,h2,rfl⟩:=h
   exact⟨p,q,WideElems.Trod_stays hl (hr t List.mem_cons_self).1 (hr t List.mem_cons_self).2 h1 (fun x hx=>hs x (List.mem_append_left _ hx)) (fun x hx=>hp x (List.mem_append_left _ hx)),
    zdn hl (fun t ht=>hr t (List.mem_cons_of_mem _ ht)) h2 (fun x hx=>hs x (List.mem_append_right _ hx)) (fun x hx=>hp x (List.mem_append_right _ hx)),rfl⟩
 | [],[],_::_,_,_,h,_,_=>by cases h
 | [],_::_,_,_,_,h,_,_=>by cases h
 | _::_,[],_,_,_,h,_,_=>by cases h
 | _::_,_::_,[],_,_,h,_,_=>by cases h
theorem zgG {W W':World} (h: ∀q,q<W.heap.size->W'.heap[q]? =W.heap[q]?) {p:MemPlace} (hp:p.block<W.heap.size):W.sameAt W' p:=by
 cases p with
 | cell b off=>exact cell?_eq (h b hp)
 | map b=>exact h b hp
theorem zg7 {W W':World} (ho:W'.os=W.os) (hu:W'.output=W.output) (h: ∀q,q<W.heap.size->W'.heap[q]? =W.heap[q]?) (may:MemPlace->Prop):W.keptBut W' may:=by
 refine⟨ho,hu,fun i hi=> ?_⟩;rw[h i hi];split
 ·rename_i h1 h2;rw[h1]at h2;cases h2;exact⟨rfl,rfl,rfl,fun _ _=>rfl⟩
 ·rename_i h1 h2;rw[h1]at h2;cases h2;exact .inr ⟨rfl,rfl⟩
 ·rfl
theorem zfQ {N:Nam} {g f:Nat} {fn:Func} {s:ChangeSpec} {W:World} {args:Array Value} {ds gs:List (DataW H)} {before:List MemPlace} {av:List V} {tb:TypeId}
 (hp:zfc P N g av (vb true)) (hg:N.nm g=f) (hG:zja N (fun r=>r<W.heap.size) W) (ha:zaT W (fun r=>r<W.heap.size) N.nm (fun _=>0) (fun _=>none) args av)
 (hl:laidOutB P=true) (hr: ∀t∈fn.params.toList,P.readableRec t=true/\t<P.types.size) (hrt:fn.resultTypes= #[tb]) (htb:P.underlying tb=some .bool)
 (hv:s.vars=[]) (hW:DataW.Whole enc P fn.params.toList s.vars false W args.toList ds gs before)
 (hs:gs=[]->s.fn H (ds++gs)= { results:=[.lit (.bool true)],args:=ds }):
 Calls P f args W fun e W'=> ∃v,e= .returned v/\s.post enc P fn false true false false W args v W':=by
 subst hg;refine(hp _ W args (fun r h=>h) hG ha).mono fun e W' ⟨v,he,⟨ho,hu⟩,hsz,hhp,hrv⟩=>⟨v,he,?_⟩
 have hvt:v= .bool true:=by
  have h1:RepT W' _ N.nm v (.bool true):=RepV.t_inv hrv;cases h1;rfl
 subst hvt;have hlt:=hW.lt;have hW':=hW;obtain⟨p,q,hA,hV,rfl,hfz,hnd⟩:=hW';have hgs:gs=[]/\q=[]:=by rw[hv]at hV;exact trodVars_none hV
 obtain⟨rfl,rfl⟩:=hgs;refine⟨ds,[],p++[],[],p,[],hW,?_,?_,?_,zg7 ho hu hhp _,fun h=>by cases h⟩
 ·rw[hs rfl,hrt];exact trodAll_mk1 ⟨1,by simp[DataW.trod,htb,Value.cells]⟩
 ·rw[hs rfl];refine zdn hl hr hA (fun x hx=>zgG hhp (hlt x (by simpa using hx))) (fun x hx=> ?_);simpa using hlt x (by simpa using hx)
 ·rw[hs rfl,hv];rfl
end
section
variable {W:World} {nm:Nat->Nat} {A:Nat->Prop} {μ:Nat->Nat} {HO:Nat->Option O}
theorem zd0: ∀{vs:List Value} {xs:List V},vs.length=xs.length->(∀(i:Nat) (x:V) (v:Value),xs[i]? =some x->vs[i]? =some v->RepV W A nm μ HO v x)->zaT W A nm μ HO vs.toArray xs
 | vs,xs,hl,h=>⟨by simpa using hl,fun i x hx=>by
    have:i<vs.length:=by rw[hl];exact(zH.1 hx).1
    exact⟨vs[i],by simp,h i x _ hx (by simp)⟩⟩
theorem zmI {cs:Array Value} {xs:List T} (h:zl9 W nm cs.toList xs):RepV W (fun r=>r<W.heap.size) nm μ HO (.agg cs) (.agg (xs.map V.t)):=by
 refine⟨cs,rfl,by rw[List.length_map];exact h.1,fun i c hc=> ?_⟩;rw[zJ,zE]at hc;obtain⟨x,hx,rfl⟩:=hc;obtain⟨v,hv,hr⟩:=h.2 i x hx;exact⟨v,hv,.t hr⟩
theorem zmH {v:Value} {x:T} (h:zl9 W nm [v] [x]):RepV W (fun r=>r<W.heap.size) nm μ HO v (.t x):=by
 obtain⟨u,hu,hr⟩:=h.2 0 x rfl;simp at hu;subst hu;exact RepC.toV (.t hr)
end
end Rg
end
section
namespace Rg
open Go
def litT:Lit->T
 | .int k n=> .int k n
 | .string s=> .str ⟨s.toArray⟩
 | .bool b=> .bool b
 | _=> .nilp
theorem zd3 {P:Program} {W:World}: ∀{laid:List (String×DataW Unit)} {ps:List MemPlace},DataW.LaidVars P W laid ps-> ∀{nm:String} {d:DataW Unit},(nm,d)∈laid->
 ∃g t cs f q,P.globalNamed nm=some g/\(P.globals[g]?).map (·.type)=some t/\W.var? P nm=some cs/\DataW.trod (fun _=>()) P W 0 (fun _=>true) false f t cs.toList=some (d,q)
 | [],_,_,_,_,hm=>by cases hm
 | (a,b)::r,ps,h,nm,d,hm=>by
   obtain⟨g,t,cs,f,p0,q0,h1,h2,h3,h4,h5,h6⟩:=h;rcases List.mem_cons.1 hm with hm | hm
   ·cases hm;exact⟨g,t,cs,f,p0,h1,h2,h3,h4⟩
   ·exact zd3 h5 hm
theorem zne {P:Program} {W:World} {N:Nam} {laid:List (String×DataW Unit)} {nm:String} {g k:Nat} {t e:TypeId} {ls:List Lit}
 (hpl:(laid.all fun x=>x.2.handleName?.isNone)=true) (h:laidMetH P laid W) (hmem:(nm,.agg (ls.map DataW.lit))∈laid)
 (hg:P.globalNamed nm=some g) (ht:(P.globals[g]?).map (·.type)=some t) (hu:P.underlying t=some (.array ls.length e)) (he:P.underlying e=some .string\/ ∃k,P.underlying e=some (.int k)) (hc:P.cellsOf e=1) (hn:P.cellsOf t=ls.length)
 (hgm:N.gm k=g) (hG:N.G k=ls.map litT) (j:Nat) (x:T) (hx:(N.G k)[j]? =some x):
 N.gm k<W.heap.size/\(∃e,W.shape? (N.gm k)=some (e,(N.G k).length))/\ ∃v,W.cell? ⟨N.gm k,j,none⟩=some v/\RepT W (fun r=>r<W.heap.size) N.nm v x:=by
 rw[MakeChecks.laidMetH_plain _ _ _ hpl]at h;obtain⟨ps,hv,_⟩:=h;obtain⟨g0,t0,cs0,f0,q0,hg0,ht0,hv0,hd0⟩:=zd3 hv hmem;obtain rfl:=Option.some.inj (hg.symm.trans hg0);obtain rfl:=Option.some.inj (ht.symm.trans ht0);obtain⟨xs,m1,rfl,hx1,hlen,hxl,hel⟩:=DataW.trod_array hu hd0;simp only[Prod.mk.injEq,DataW.agg.injEq]at hx1;rw[hG,zJ,zE]at hx;obtain⟨m,hm,rfl⟩:=hx;have hj:j<ls.length:=(zH.1 hm).1;obtain⟨y,hy⟩: ∃y,xs[j]? =some y:=⟨_,zI (by omega)⟩
 have hy1:y.1= .lit m:=by
  have h2:=congrArg (·[j]?) hx1.1;simp only[zJ,hm,hy,Option.map_some,zA]at h2;exact h2.symm
 have h3:=hel j hj;rw[hy,hc,Nat.mul_one]at h3
 have hfirst: ∀v:Value,(cs0.toList.drop j).take 1=[v]->cs0[j]? =some v:=by
  intro v hq;have h4:=congrArg (·[0]?) hq;simp only[List.getElem?_take,List.getElem?_drop,Nat.add_zero]at h4;simpa using h4
 have hval: ∃v,cs0[j]? =some v/\RepT W (fun r=>r<W.heap.size) N.nm v (litT m):=by
  rcases he with he | ⟨kk,he⟩
  ·obtain⟨s,hs,hys,_⟩:=DataW.trod_string he h3;have:m= .string s.data.toList:=by rw[hys]at hy1;simpa using hy1.symm
   subst this;refine⟨.string s,hfirst _ hs,?_⟩;have:litT (.string s.data.toList)= .str s:=by simp[litT]
   rw[this];exact .str s
  ·obtain⟨q,hq,hyq,_⟩:=DataW.trod_int he h3;have:m= .int kk q:=by rw[hyq]at hy1;simpa using hy1.symm
   subst this;exact⟨.int kk q,hfirst _ hq,.int kk q⟩
 obtain⟨v,hvj,hrep⟩:=hval;have hcell:W.cell? ⟨g,j,none⟩=some v:=by rw[World.var?_cell hg0 hv0 j];exact hvj
 rw[hgm];refine⟨(cell?_spot hcell).2,?_,v,hcell,hrep⟩;unfold World.var? at hv0;rw[hg]at hv0;simp only[zD]at hv0;unfold World.shape?;split at hv0
 ·rename_i cs e0 z hb;simp only[zA]at hv0;subst hv0;rw[hb];refine⟨e0,?_⟩;simp only[zA,Prod.mk.injEq,true_and];have h5:=hlen;rw[Array.length_toList]at h5;rw[h5,hG,List.length_map,hn]
 ·cases hv0
theorem lookup_mem {α:Type} {k:Nat} {v:α}: ∀{l:List (Nat×α)},l.lookup k=some v->(k,v)∈l
 | [],h=>by simp at h
 | (a,b)::r,h=>by
   rw[List.lookup_cons]at h;split at h
   ·rename_i hk;simp only[beq_iff_eq]at hk;cases h;subst hk;exact List.mem_cons_self
   ·exact List.mem_cons_of_mem _ (lookup_mem h)
end Rg
end
section
namespace Rg
open Go
section
variable {H:Type} {enc:TypeId×Value->H} {P:Program} {W:World} {nm μ:Nat->Nat} {HO:Nat->Option O} {y:Tys}
theorem trodAll_nil {sp:Nat->Bool} {vs:List Value} {ds:List (DataW H)} {ps:List MemPlace} (h:DataW.TrodAll enc P W 0 sp true [] vs ds ps):vs=[]/\ds=[]:=by
 cases vs<;>cases ds<;>first | exact⟨rfl,rfl⟩ | cases h
theorem trodAll_cons {sp:Nat->Bool} {t:TypeId} {ts:List TypeId} {vs:List Value} {ds:List (DataW H)} {ps:List MemPlace} (h:DataW.TrodAll enc P W 0 sp true (t::ts) vs ds ps):
 ∃v vs' d ds' p q,vs=v::vs'/\ds=d::ds'/\DataW.Trod enc P W 0 sp true t v d p/\DataW.TrodAll enc P W 0 sp true ts vs' ds' q:=by
 cases vs with
 | nil=>cases h
 | cons v vs=>
   cases ds with
   | nil=>cases h
   | cons d ds=>
     obtain⟨p,q,h1,h2,_⟩:=h;exact⟨v,vs,d,ds,p,q,rfl,rfl,h1,h2⟩
theorem zcv {t:TypeId} {ts:List TypeId} {d:DataW H} {ds:List (DataW H)} (h:(DataW.weightsEach P (t::ts) (d::ds)).all (· <=reachBytes)=true):
 (d.weights P t).all (· <=reachBytes)=true/\(DataW.weightsEach P ts ds).all (· <=reachBytes)=true:=by
 rw[DataW.weightsEach,List.all_append,zF]at h;exact h
theorem zn8 {α:Type} {t:TypeId} {tot:Nat} {fs:List (TypeId×Nat)} {f:α->List T} {good:α->Prop} {v:Value} {d:DataW H} {p:List MemPlace} {base:Nat} (hs:isSt P t tot fs=true) (hr: ∀n,Rd enc P W nm n t f good)
 (hv:Value.okWide P W .any base t v) (ht:DataW.Trod enc P W 0 (fun _=>true) true t v d p) (hw:(d.weights P t).all (· <=reachBytes)=true):
 ∃a,good a/\RepV W (fun r=>r<W.heap.size) nm μ HO v (.agg ((f a).map V.t)):=by
 obtain⟨n,hn⟩:=ht;obtain⟨a,ha,hra⟩:=hr n _ _ hn hw;refine⟨a,ha,?_⟩;simp only[isSt,zF]at hs;have h1:=hs.1;split at h1
 ·rename_i u hu;unfold Value.okWide at hv;rw[hu]at hv;obtain⟨cs,rfl,_⟩:=hv;exact zmI (by simpa[Value.cells]using hra)
 ·simp at h1
theorem zwU {α:Type} {t e:TypeId} {f:α->T} {good:α->Prop} {v:Value} {d:DataW H} {p:List MemPlace} {base:Nat} (hs:isSl P t e=true) (hr: ∀n,Rd enc P W nm n t (fun a=>[f a]) good)
 (hv:Value.okWide P W .any base t v) (ht:DataW.Trod enc P W 0 (fun _=>true) true t v d p) (hw:(d.weights P t).all (· <=reachBytes)=true):
 ∃a,good a/\RepV W (fun r=>r<W.heap.size) nm μ HO v (.t (f a)):=by
 obtain⟨n,hn⟩:=ht;obtain⟨a,ha,hra⟩:=hr n _ _ hn hw;refine⟨a,ha,?_⟩;have hu:=isSl.u hs;unfold Value.okWide Cell.okWide Cell.ok at hv;rw[hu]at hv;cases v<;>first | exact zmH (by simpa[Value.cells]using hra) | exact absurd hv (by simp)
theorem zo4 {α:Type} {t:TypeId} {k:IntKind} {f:α->T} {good:α->Prop} {v:Value} {d:DataW H} {p:List MemPlace} {base:Nat} (hs:isInt P t k=true) (hr: ∀n,Rd enc P W nm n t (fun a=>[f a]) good)
 (hv:Value.okWide P W .any base t v) (ht:DataW.Trod enc P W 0 (fun _=>true) true t v d p) (hw:(d.weights P t).all (· <=reachBytes)=true):
 ∃a,good a/\RepV W (fun r=>r<W.heap.size) nm μ HO v (.t (f a)):=by
 obtain⟨n,hn⟩:=ht;obtain⟨a,ha,hra⟩:=hr n _ _ hn hw;refine⟨a,ha,?_⟩;have hu:=isInt.u hs;unfold Value.okWide Cell.okWide Cell.ok at hv;rw[hu]at hv;cases v<;>first | exact zmH (by simpa[Value.cells]using hra) | exact absurd hv (by simp)
theorem Prog.inMem.lite {p:Prog} (h:p.inMem):(∀x∈p.threads,x.steps.length<2^50)/\(∀c∈p.cells,c.name.size<2^50)/\(∀m∈p.modules,m.name.size<2^50/\m.owner.size<2^50)/\(∀t∈p.threads,t.name.size<2^50):=by
 have hb:reachBytes<2^50:=by decide
 exact⟨fun x hx=>Nat.lt_of_le_of_lt (h.threads x hx).steps hb,fun c hc=>Nat.lt_of_le_of_lt (h.cells c hc) hb,
  fun m hm=>⟨Nat.lt_of_le_of_lt (h.modules m hm).1 hb,Nat.lt_of_le_of_lt (h.modules m hm).2.1 hb⟩,fun x hx=>Nat.lt_of_le_of_lt (h.threads x hx).name hb⟩
end
end Rg
end
section
namespace Rg
open Go
section
variable {Γ:Nat->Option F} {G:Nat->List T}
theorem Big.det {t:Task} {o:Out} (h:Big Γ G t o): ∀{o':Out},Big Γ G t o'->o=o':=by
 induction h with
 | skip=>intro o' h';cases h';rfl
 | ret=>intro o' h';cases h';rfl
 | exit=>intro o' h';cases h';rfl
 | region _ ih=>intro o' h';cases h' with | region h=>have:=ih h;cases this;rfl
 | regionD _ _ ih=>intro o' h';cases h' with | regionD h _=>have:=ih h;cases this;rfl
 | seqN _ _ ih1 ih2=>
   intro o' h'
   cases h' with
   | seqN h1 h2=>have:=ih1 h1;cases this;exact ih2 h2
   | seqX h1 he=>have:=ih1 h1;cases this;exact absurd rfl he
 | seqX _ he ih=>
   intro o' h'
   cases h' with
   | seqN h1 h2=>have:=ih h1;cases this;exact absurd rfl he
   | seqX h1 he=>exact ih h1
 | cond hc _ ih=>
   intro o' h'
   cases h' with
   | cond hc' h=>rw[hc]at hc';cases hc';exact ih h
 | block _ ih=>
   intro o' h'
   cases h' with
   | block h=>have:=ih h;cases this;rfl
 | loop _ ih=>
   intro o' h'
   cases h' with
   | loop h=>exact ih h
 | loopN _ _ ih1 ih2=>
   intro o' h'
   cases h' with
   | loopN h1 h2=>have:=ih1 h1;cases this;exact ih2 h2
   | loopX h1 he=>have:=ih1 h1;cases this;exact absurd rfl he
 | loopX _ he ih=>
   intro o' h'
   cases h' with
   | loopN h1 h2=>have:=ih h1;cases this;exact absurd rfl he
   | loopX h1 he=>exact ih h1
 | opsNil=>intro o' h';cases h';rfl
 | opsSkip hw hf _ ih=>
   intro o' h'
   cases h' with
   | opsSkip hw' hf' h=>exact ih h
   | opsEff hw' _ _ _=>rw[hw]at hw';cases hw'
   | opsPure hw' _ _ _ _ _ _ _ _ _ _ _=>rw[hw]at hw';cases hw'
   | opsRaw hw' _ _ _ _ _ _ _ _ _=>rw[hw]at hw';cases hw'
   | opsFresh hw' _ _ _ _ _ _ _ _ _ _ _ _=>rw[hw]at hw';cases hw'
   | opsYield hw' _ _ _ _ _ _ _ _ _ _ _=>rw[hw]at hw';cases hw'
 | rangeF hfv hfn hg hr hc hl he ihc=>
   intro o' h'
   cases h' with
   | rangeF hfv' hfn' hg' hr' hc' hl' he'=>
     rw[hfv]at hfv';cases hfv';rw[hfn]at hfn';cases hfn';have:=ihc hc';cases this;rw[hl]at hl';cases hl';rw[he]at he';cases he'
     rfl
 | opsYield hw hf ho hfv hk hvs hlen hca hk1 hcb hk2 _ iha ihb ih=>
   intro o' h'
   cases h' with
   | opsSkip hw' hf' h=>rw[hw]at hw';cases hw'
   | opsEff hw' _ he' h=>rw[ho]at he';simp[aeval]at he'
   | opsPure hw' _ ho' hfv' hfn' hg' hr' hvs' hrs' hc' hd' h=>rw[ho]at ho';cases ho'
   | opsFresh hw' _ ho' _ _ _ _ _ _ _ _ _ _=>rw[ho]at ho';cases ho'
   | opsRaw hw' _ ho' hfv' hfn' hg' hr' hvs' hc' h=>
     rw[ho]at ho';cases ho';rw[hfv]at hfv';cases hfv'
     simp[fnOf]at hfn'
   | opsYield hw' _ ho' hfv' hk' hvs' hlen' hca' hk1' hcb' hk2' h=>
     rw[ho]at ho';cases ho';rw[hfv]at hfv';cases hfv';rw[hk]at hk';cases hk';rw[hvs]at hvs';cases hvs';have:=iha hca';cases this;rw[hk1]at hk1';cases hk1';have:=ihb hcb';cases this;rw[hk2]at hk2';cases hk2'
     exact ih h
 | opsEff hw hf he _ ih=>
   intro o' h'
   cases h' with
   | opsSkip hw' hf' h=>rw[hw]at hw';cases hw'
   | opsEff hw' _ he' h=>rw[he]at he';cases he';exact ih h
   | opsPure hw' _ ho _ _ _ _ _ _ _ _ _=>rw[ho]at he;simp[aeval]at he
   | opsRaw hw' _ ho _ _ _ _ _ _ _=>rw[ho]at he;simp[aeval]at he
   | opsFresh hw' _ ho _ _ _ _ _ _ _ _ _ _=>rw[ho]at he;simp[aeval]at he
   | opsYield hw' _ ho _ _ _ _ _ _ _ _ _=>rw[ho]at he;simp[aeval]at he
 | opsPure hw hf ho hfv hfn hg hr hvs hrs hc hd _ ihc ih=>
   intro o' h'
   cases h' with
   | opsSkip hw' hf' h=>rw[hw]at hw';cases hw'
   | opsEff hw' _ he' h=>rw[ho]at he';simp[aeval]at he'
   | opsPure hw' _ ho' hfv' hfn' hg' hr' hvs' hrs' hc' hd' h=>
     rw[ho]at ho';cases ho';rw[hfv]at hfv';cases hfv';rw[hfn]at hfn';cases hfn';rw[hvs]at hvs';cases hvs';rw[hrs]at hrs';cases hrs';have:=ihc hc';cases this
     exact ih h
   | opsRaw hw' _ ho' _ _ _ _ _ _ _=>rw[ho]at ho';cases ho'
   | opsFresh hw' _ ho' _ _ _ _ _ _ _ _ _ _=>rw[ho]at ho';cases ho'
   | opsYield hw' _ ho' _ _ _ _ _ _ _ _ _=>rw[ho]at ho';cases ho'
 | opsRaw hw hf ho hfv hfn hg hr hvs hc _ ihc ih=>
   intro o' h'
   cases h' with
   | opsSkip hw' hf' h=>rw[hw]at hw';cases hw'
   | opsEff hw' _ he' h=>rw[ho]at he';simp[aeval]at he'
   | opsPure hw' _ ho' hfv' hfn' hg' hr' hvs' hrs' hc' hd' h=>rw[ho]at ho';cases ho'
   | opsFresh hw' _ ho' _ _ _ _ _ _ _ _ _ _=>rw[ho]at ho';cases ho'
   | opsYield hw' _ ho' hfv' _ _ _ _ _ _ _ _=>
     rw[ho]at ho';cases ho';rw[hfv]at hfv';cases hfv'
     simp[fnOf]at hfn
   | opsRaw hw' _ ho' hfv' hfn' hg' hr' hvs' hc' h=>
     rw[ho]at ho';cases ho';rw[hfv]at hfv';cases hfv';rw[hfn]at hfn';cases hfn';rw[hvs]at hvs';cases hvs';have:=ihc hc';cases this
     exact ih h
 | opsFresh hw hf ho hfv hfn hg hr hvs hrs hd hc he _ ihc ih=>
   intro o' h'
   cases h' with
   | opsSkip hw' hf' h=>rw[hw]at hw';cases hw'
   | opsEff hw' _ he' h=>rw[ho]at he';simp[aeval]at he'
   | opsPure hw' _ ho' hfv' hfn' hg' hr' hvs' hrs' hc' hd' h=>rw[ho]at ho';cases ho'
   | opsRaw hw' _ ho' hfv' hfn' hg' hr' hvs' hc' h=>rw[ho]at ho';cases ho'
   | opsYield hw' _ ho' _ _ _ _ _ _ _ _ _=>rw[ho]at ho';cases ho'
   | opsFresh hw' _ ho' hfv' hfn' hg' hr' hvs' hrs' hd' hc' he' h=>
     rw[ho]at ho';cases ho';rw[hfv]at hfv';cases hfv';rw[hfn]at hfn';cases hfn';rw[hvs]at hvs';cases hvs';rw[hrs]at hrs';cases hrs';have:=ihc hc';cases this;rw[he]at he';cases he'
     exact ih h
 | pcall hg hr hcode he hv hre ih=>
   intro o' h'
   cases h' with
   | pcall hg' hr' h he' hv' hre'=>
     rw[hg]at hg';cases hg';have:=ih h;cases this;rw[hv]at hv';cases hv';rw[hre]at hre';cases hre'
     rfl
   | pext hg' hr' hx h2=>
     rw[hg]at hg';cases hg';rw[hx]at hcode
     cases hcode
 | rcall hg hr hb he hv ih=>
   intro o' h'
   cases h' with
   | rcall hg' hr' h he' hv'=>
     rw[hg]at hg';cases hg';have:=ih h;cases this;rw[hv]at hv';cases hv'
     rfl
   | rext hg' hr' hx h=>
     rw[hg]at hg';cases hg'
     rw[hx]at hb;cases hb
 | pext hg hr hx h=>
   intro o' h'
   cases h' with
   | pcall hg' hr' hb he' hv' hre'=>
     rw[hg]at hg';cases hg'
     rw[hx]at hb;cases hb
   | pext hg' hr' hx' h2=>
     rw[hg]at hg';cases hg';rw[hx]at hx';cases hx';rw[h]at h2;cases h2
     rfl
 | rext hg hr hx h=>
   intro o' h'
   cases h' with
   | rcall hg' hr' hb he' hv'=>
     rw[hg]at hg';cases hg'
     rw[hx]at hb;cases hb
   | rext hg' hr' hx' h2=>
     rw[hg]at hg';cases hg';rw[hx]at hx';cases hx';rw[h]at h2;cases h2;rfl
variable (Γ G)
open Classical in
noncomputable def Den (g:Nat) (args:List V):Option V:=if h: ∃r,PC Γ G g args r then some h.choose else none
open Classical in
noncomputable def DenR (g:Nat) (args:List V) (h:Nat->Option O) (n:Nat):Option (V×(Nat->Option O)×Nat):=
 if h: ∃r:V×(Nat->Option O)×Nat,RC Γ G g args h n r.1 r.2.1 r.2.2 then some h.choose else none
open Classical in
noncomputable def DenY (k:Nat) (args:List V) (h:Nat->Option O) (n:Nat):Option (V×(Nat->Option O)×Nat):=
 if h: ∃r:V×(Nat->Option O)×Nat,YC Γ G k args h n r.1 r.2.1 r.2.2 then some h.choose else none
variable {Γ G}
theorem zqt {k:Nat} {args:List V} {h:Nat->Option O} {n:Nat} {r r':V} {h1 h2:Nat->Option O} {n1 n2:Nat} (a:YC Γ G k args h n r h1 n1) (b:YC Γ G k args h n r' h2 n2):r=r'/\h1=h2/\n1=n2:=by
 obtain⟨env,ps,ca,cb,s1,enva,psa,bda,env',ps',bd',e,s2,g1,g2,g3,g3',g3'',g4,rfl,rfl,rfl⟩:=a;obtain⟨env0,ps0,ca0,cb0,s10,envb,psb,bdb,env1,ps1,bd1,e0,s0,q1,q2,q3,q3',q3'',q4,rfl,rfl,rfl⟩:=b;rw[g1]at q1;cases q1;have:=g3.det q3;cases this;rw[g3']at q3';cases q3';have:=g3''.det q3'';cases this;rw[g4]at q4;cases q4;exact⟨rfl,rfl,rfl⟩
theorem zgq {k:Nat} {args:List V} {h:Nat->Option O} {n:Nat} {r:V} {h':Nat->Option O} {n':Nat}:DenY Γ G k args h n=some (r,h',n')<->YC Γ G k args h n r h' n':=by
 unfold DenY;split
 ·rename_i h;have hc:=h.choose_spec;constructor
  ·intro e;simp only[zA]at e;rw[e]at hc;exact hc
  ·intro e;obtain⟨h1,h2,h3⟩:=zqt hc e;simp only[zA];exact Prod.ext h1 (Prod.ext h2 h3)
 ·rename_i h;constructor
  ·intro e;cases e
  ·intro e;exact absurd ⟨(r,h',n'),e⟩ h
theorem den_iff {g:Nat} {args:List V} {r:V}:Den Γ G g args=some r<->PC Γ G g args r:=by
 unfold Den;split
 ·rename_i h;have hc:=h.choose_spec;constructor
  ·intro e;cases e;exact hc
  ·intro e;have:=Big.det hc e;cases this;congr 1
 ·rename_i h;constructor
  ·intro e;cases e
  ·intro e;exact absurd ⟨r,e⟩ h
theorem denR_iff {g:Nat} {args:List V} {h:Nat->Option O} {n:Nat} {r:V} {h':Nat->Option O} {n':Nat}:DenR Γ G g args h n=some (r,h',n')<->RC Γ G g args h n r h' n':=by
 unfold DenR;split
 ·rename_i h;have hc:=h.choose_spec;constructor
  ·intro e;simp only[zA]at e;rw[e]at hc;exact hc
  ·intro e;have:=Big.det hc e;simp only[Out.vals.injEq]at this;obtain⟨h1,h2,h3⟩:=this;simp only[zA];exact Prod.ext h1 (Prod.ext h2 h3)
 ·rename_i h;constructor
  ·intro e;cases e
  ·intro e;exact absurd ⟨(r,h',n'),e⟩ h
theorem zbr {g:Nat} {fn:F} {e:Ext} {args:List V} {hp h':Nat->Option O} {n n':Nat} {r:V} (hg:Γ g=some fn) (hr:fn.raw=true) (hb:fn.body= .ext e)
 (h:extSem e args hp n=some (r,h',n')):DenR Γ G g args hp n=some (r,h',n'):=denR_iff.2 (.rext hg hr hb h)
theorem zlP {g:Nat} {fn:F} {e:Ext} {args:List V} {r:V} (hg:Γ g=some fn) (hr:fn.raw=false) (hb:fn.body= .ext e)
 (h:extPure e args=some r):Den Γ G g args=some r:=den_iff.2 (.pext hg hr hb h)
theorem ztg {g:Nat} {args:List V} {r:V} (h:PC Γ G g args r): ∃fn,Γ g=some fn/\fn.raw=false:=by
 cases h with
 | pcall hg hr _ _ _ _=>exact⟨_,hg,hr⟩
 | pext hg hr _ _=>exact⟨_,hg,hr⟩
theorem zpa {g:Nat} {args:List V} {h:Nat->Option O} {n:Nat} {r:V} {h':Nat->Option O} {n':Nat} (h:RC Γ G g args h n r h' n'): ∃fn,Γ g=some fn/\fn.raw=true:=by
 cases h with
 | rcall hg hr _ _ _=>exact⟨_,hg,hr⟩
 | rext hg hr _ _=>exact⟨_,hg,hr⟩
@[go_sem]theorem zoz (d:Bool) (m:M) (dst:Option Nat) (g:Nat) (l:List V) (K:M->Prop):
 znF Γ G d m dst g l K=(m.free dst {}=true/\match l.mapM (toT1 m.heap)with
  | none=>False
  | some rs=>match Den Γ G g rs with
    | none=>False
    | some r=>zq1 d m dst l r K):=by
 apply propext;unfold znF;constructor
 ·rintro⟨hf,rs,hrs,r,hc,hg,hk⟩;refine⟨hf,?_⟩;rw[hrs];simp only;rw[den_iff.2 hc];exact hk
 ·rintro⟨hf,h⟩;refine⟨hf,?_⟩;split at h
  ·exact h.elim
  ·rename_i rs hrs;split at h
   ·exact h.elim
   ·rename_i r hr;exact⟨rs,hrs,r,den_iff.1 hr,ztg (den_iff.1 hr),h⟩
@[go_sem]theorem zoy (m:M) (dst:Option Nat) (g:Nat) (l:List V) (K:M->Prop):
 znE Γ G m dst g l K=(m.free dst {}=true/\match DenR Γ G g l m.heap m.nxt with
  | none=>False
  | some (r,h',n')=>K ({ m with heap:=h',nxt:=n' }.apply dst { val:=r })):=by
 apply propext;unfold znE;constructor
 ·rintro⟨hf,r,h',n',hc,hg,hk⟩;refine⟨hf,?_⟩;rw[denR_iff.2 hc];exact hk
 ·rintro⟨hf,h⟩;refine⟨hf,?_⟩;split at h
  ·exact h.elim
  ·rename_i r h' n' hr;exact⟨r,h',n',denR_iff.1 hr,zpa (denR_iff.1 hr),h⟩
theorem zox (m:M) (dst:Option Nat) (k:Nat) (l:List V) (K:M->Prop):
 znD Γ G m dst k l K=(m.free dst {}=true/\match DenY Γ G k l m.heap m.nxt with
  | none=>False
  | some (r,h',n')=>K ({ m with heap:=h',nxt:=n' }.apply dst { val:=r })):=by
 apply propext;unfold znD;constructor
 ·rintro⟨hf,r,h',n',hc,hk⟩;refine⟨hf,?_⟩;rw[zgq.2 hc];exact hk
 ·rintro⟨hf,h⟩;refine⟨hf,?_⟩;split at h
  ·exact h.elim
  ·rename_i r h' n' hr;exact⟨r,h',n',zgq.1 hr,h⟩
def V.tree:V->Bool
 | .t _=>true
 | .agg cs=>cs.all fun c=>match c with | .t _=>true | _=>false
 | _=>false
theorem zfs {h:Nat->Option O} {v:V} (hv:v.tree=true):reach1 h v=[]:=by
 cases v with
 | agg cs=>
   simp only[V.tree,List.all_eq_true]at hv;simp only[reach1,List.flatMap_eq_nil_iff];intro c hc;have:=hv c hc;cases c<;>simp at this
   rfl
 | t x=>rfl
 | _=>simp[V.tree]at hv
attribute [go_sem] V.tree List.all_cons List.all_nil Bool.and_self
theorem zql {g:Nat} {args:List V} {fn:F} {r:V} (hg:Γ g=some fn) (hr:fn.raw=false)
 (h:wpC Γ G fn.body ⟨slots args 0,fun _=>false,fun _=>none,0,0⟩ (Fin fn.results r)):Den Γ G g args=some r:=den_iff.2 (PC_fin hg hr h)
def FinR (rs:List Res) (P:V->(Nat->Option O)->Nat->Prop) (e:Ex) (m:M):Prop:=(∀id,e≠ .exit id)/\ ∃v,resAll m.st rs=some v/\P v m.heap m.nxt
theorem zo0 {g:Nat} {args:List V} {fn:F} {hp:Nat->Option O} {n:Nat} {P:V->(Nat->Option O)->Nat->Prop} (hg:Γ g=some fn) (hr:fn.raw=true)
 (h:wpC Γ G fn.body ⟨slots args 0,fun _=>false,hp,n,n⟩ (FinR fn.results P)): ∃r h' n',DenR Γ G g args hp n=some (r,h',n')/\P r h' n':=by
 obtain⟨e,m',hB,he,v,hv,hP⟩:=W_of h;refine⟨v,m'.heap,m'.nxt,denR_iff.2 ?_,hP⟩;have:M.st ⟨slots args 0,fun _=>false,hp,n,n⟩=St.init args hp n:=by rw[zoe,zlm]
 rw[this]at hB;exact .rcall hg hr hB he hv
@[go_sem]theorem zov (rs:List Res) (P:V->(Nat->Option O)->Nat->Prop) (sl:Nat->Slot) (u:Nat->Bool) (h:Nat->Option O) (n b:Nat):
 FinR rs P .ret ⟨sl,u,h,n,b⟩= ∃v,resAll (M.st ⟨sl,u,h,n,b⟩) rs=some v/\P v h n:=by simp[FinR]
@[go_sem]theorem zow (rs:List Res) (P:V->(Nat->Option O)->Nat->Prop) (sl:Nat->Slot) (u:Nat->Bool) (h:Nat->Option O) (n b:Nat):
 FinR rs P .normal ⟨sl,u,h,n,b⟩= ∃v,resAll (M.st ⟨sl,u,h,n,b⟩) rs=some v/\P v h n:=by simp[FinR]
theorem zsI {b:C} {sl:Nat->Slot} {us:Nat->Bool} {nx ba:Nat} {Q:Ex->M->Prop} (W:List Nat) (n:Nat) (Inv:Nat->(Nat->Slot)->Prop) (hW:b.wrIn W=true) (hH:b.noH=true)
 (h0:Inv 0 sl)
 (h: ∀i f u k bs,i<=n->Inv i f->wpC Γ G b ⟨ovr W f sl,u,fun _=>none,k,bs⟩ (thenQ (fun m'=>SpN (i<n/\Inv (i+1) m'.sl) ⟨0⟩) Q)):WL Γ G b ⟨sl,us,fun _=>none,nx,ba⟩ Q:=by
 refine zo8 W hW hH (fun k f=> ∃i,k=n-i/\i<=n/\Inv i f) n ⟨0,by omega,by omega,h0⟩ ?_;rintro k f u kk bs ⟨i,rfl,hi,hI⟩;refine W_mono (W_of (h i f u kk bs hi hI)) ?_;apply thenQ_mono;rintro m ⟨h1,h2⟩;exact⟨n-(i+1),by omega,i+1,rfl,by omega,h2⟩
theorem zp7 {b:C} {sl:Nat->Slot} {us:Nat->Bool} {hp:Nat->Option O} {nx ba:Nat} {Q:Ex->M->Prop} (W:List Nat) (n:Nat) (Inv:Nat->(Nat->Slot)->(Nat->Option O)->Nat->Prop) (hW:b.wrIn W=true)
 (h0:Inv 0 sl hp nx)
 (h: ∀i f u h k bs,i<=n->Inv i f h k->wpC Γ G b ⟨ovr W f sl,u,h,k,bs⟩ (thenQ (fun m'=>SpN (i<n/\Inv (i+1) m'.sl m'.heap m'.nxt) ⟨0⟩) Q)):WL Γ G b ⟨sl,us,hp,nx,ba⟩ Q:=by
 refine zn9 W hW (fun k f h x=> ∃i,k=n-i/\i<=n/\Inv i f h x) n ⟨0,by omega,by omega,h0⟩ ?_;rintro k f u h' kk bs ⟨i,rfl,hi,hI⟩;refine W_mono (W_of (h i f u h' kk bs hi hI)) ?_;apply thenQ_mono;rintro m ⟨h1,h2⟩;exact⟨n-(i+1),by omega,i+1,rfl,by omega,h2⟩
end
end Rg
end
