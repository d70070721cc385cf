/- Part of the proof of laws of relyguardtop. No condition. -/
import Derived.ChangeSame
import Derived.WideKeyArgs
import Derived.RowKit
import Derived.LaidLaws
import Derived.Stop.Joined
import Derived.Test.YtoidcnbdndioaaaGreatDoorJartAH
import Derived.OpenShut
import Derived.MakeChecks
import Derived.FnData
import Derived.Test.YtoidcnbdndioaaaGreatDoorJartAG
set_option linter.unusedVariables false
set_option linter.unusedSimpArgs false
section
namespace Rg
open Go Go.ChangeShapes
section
variable {H:Type} {enc:TypeId×Value->H} {P:Program}
theorem zgM {W W':World} {sp:Nat->Bool} (hl:laidOutB P=true): ∀{ts:List TypeId} {vs:List Value} {ds:List (DataW H)} {ps:List MemPlace},
 (∀t∈ts,P.readableRec t=true/\t<P.types.size)->DataW.TrodAll enc P W 0 (fun _=>true) true ts vs ds ps->(∀p∈ps,W.sameAt W' p)->(∀p∈ps,sp p.block=true)->DataW.TrodAll enc P W' 0 sp true ts vs ds ps
 | [],[],[],ps,_,h,_,_=>h
 | t::ts,v::vs,d::ds,ps,hr,h,hs,hp=>by
   obtain⟨p,q,h1,h2,rfl⟩:=h
   exact⟨p,q,WideElems.Trod_stays hl (hr t List.mem_cons_self).1 (hr t List.mem_cons_self).2 h1 (fun x hx=>hs x (List.mem_append_left _ hx)) (fun x hx=>hp x (List.mem_append_left _ hx)),
    zgM hl (fun t ht=>hr t (List.mem_cons_of_mem _ ht)) h2 (fun x hx=>hs x (List.mem_append_right _ hx)) (fun x hx=>hp x (List.mem_append_right _ hx)),rfl⟩
 | [],[],_::_,_,_,h,_,_=>by cases h
 | [],_::_,_,_,_,h,_,_=>by cases h
 | _::_,[],_,_,_,h,_,_=>by cases h
 | _::_,_::_,[],_,_,h,_,_=>by cases h
theorem zmo {W W':World} (h: ∀q,q<W.heap.size->W'.heap[q]? =W.heap[q]?) {p:MemPlace} (hp:p.block<W.heap.size):W.sameAt W' p:=by
 cases p with
 | cell b off=>exact cell?_eq (h b hp)
 | map b=>exact h b hp
theorem zmW {W W':World} (ho:W'.os=W.os) (hu:W'.output=W.output) (h: ∀q,q<W.heap.size->W'.heap[q]? =W.heap[q]?) (may:MemPlace->Prop):W.keptBut W' may:=by
 refine⟨ho,hu,fun i hi=> ?_⟩;rw[h i hi];split
 ·rename_i h1 h2;rw[h1]at h2;cases h2;exact⟨rfl,rfl,rfl,fun _ _=>rfl⟩
 ·rename_i h1 h2;rw[h1]at h2;cases h2;exact .inr ⟨rfl,rfl⟩
 ·rfl
theorem zqV {N:Nam} {g f:Nat} {fn:Func} {s:ChangeSpec} {W:World} {args:Array Value} {ds gs:List (DataW H)} {before:List MemPlace} {av:List V} {tb:TypeId}
 (hp:zjO P N g av (vb true)) (hg:N.nm g=f) (hG:zpW N (fun r=>r<W.heap.size) W) (ha:zb1 W (fun r=>r<W.heap.size) N.nm (fun _=>0) (fun _=>none) args av)
 (hl:laidOutB P=true) (hr: ∀t∈fn.params.toList,P.readableRec t=true/\t<P.types.size) (DM:fn.resultTypes= #[tb]) (PR:P.underlying tb=some .bool)
 (hv:s.vars=[]) (hW:DataW.Whole enc P fn.params.toList s.vars false W args.toList ds gs before)
 (hs:gs=[]->s.fn H (ds++gs)= { results:=[.lit (.bool true)],args:=ds }):
 Calls P f args W fun e W'=> ∃v,e= .returned v/\s.post enc P fn false true false false W args v W':=by
 subst hg;refine(hp _ W args (fun r h=>h) hG ha).mono fun e W' ⟨v,he,⟨ho,hu⟩,AS,M0,DY⟩=>⟨v,he,?_⟩
 have Ke:v= .bool true:=by
  have h1:RepT W' _ N.nm v (.bool true):=zbl.t_inv DY;cases h1;rfl
 subst Ke;have Ad:=hW.lt;have Ot:=hW;obtain⟨p,q,hA,hV,rfl,RL,Bt⟩:=Ot;have NS:gs=[]/\q=[]:=by rw[hv]at hV;exact trodVars_none hV
 obtain⟨rfl,rfl⟩:=NS;refine⟨ds,[],p++[],[],p,[],hW,?_,?_,?_,zmW ho hu M0 _,fun h=>by cases h⟩
 ·rw[hs rfl,DM];exact trodAll_mk1 ⟨1,by simp[DataW.trod,PR,Value.cells]⟩
 ·rw[hs rfl];refine zgM hl hr hA (fun x hx=>zmo M0 (Ad x (by simpa using hx))) (fun x hx=> ?_);simpa using Ad x (by simpa using hx)
 ·rw[hs rfl,hv];rfl
end
section
variable {W:World} {nm:Nat->Nat} {A:Nat->Prop} {μ:Nat->Nat} {HO:Nat->Option O}
theorem zmx: ∀{vs:List Value} {xs:List V},vs.length=xs.length->(∀(i:Nat) (x:V) (v:Value),xs[i]? =some x->vs[i]? =some v->zbl W A nm μ HO v x)->zb1 W A nm μ HO vs.toArray xs
 | vs,xs,hl,h=>⟨by simpa using hl,fun i x hx=>by
    have:i<vs.length:=by rw[hl];exact(zH.1 hx).1
    exact⟨vs[i],by simp,h i x _ hx (by simp)⟩⟩
theorem zuh {cs:Array Value} {xs:List T} (h:ztv W nm cs.toList xs):zbl W (fun r=>r<W.heap.size) nm μ HO (.agg cs) (.agg (xs.map V.t)):=by
 refine⟨cs,rfl,by rw[List.length_map];exact h.1,fun i c hc=> ?_⟩;rw[zJ,zE]at hc;obtain⟨x,hx,rfl⟩:=hc;obtain⟨v,hv,hr⟩:=h.2 i x hx;exact⟨v,hv,.t hr⟩
theorem zug {v:Value} {x:T} (h:ztv W nm [v] [x]):zbl W (fun r=>r<W.heap.size) nm μ HO v (.t x):=by
 obtain⟨u,hu,hr⟩:=h.2 0 x rfl;simp at hu;subst hu;exact RepC.toV (.t hr)
end
end Rg
end
section
namespace Rg
open Go
def zzL:Lit->T
 | .int k n=> .int k n
 | .string s=> .str ⟨s.toArray⟩
 | .bool b=> .bool b
 | _=> .nilp
theorem zhS {P:Program} {W:World}: ∀{laid:List (String×DataW Unit)} {ps:List MemPlace},DataW.LaidVars P W laid ps-> ∀{nm:String} {d:DataW Unit},(nm,d)∈laid->
 ∃g t cs f q,P.globalNamed nm=some g/\(P.globals[g]?).map (·.type)=some t/\W.var? P nm=some cs/\DataW.trod (fun _=>()) P W 0 (fun _=>true) false f t cs.toList=some (d,q)
 | [],_,_,_,_,hm=>by cases hm
 | (a,b)::r,ps,h,nm,d,hm=>by
   obtain⟨g,t,cs,f,p0,q0,h1,h2,h3,h4,h5,h6⟩:=h;rcases List.mem_cons.1 hm with hm | hm
   ·cases hm;exact⟨g,t,cs,f,p0,h1,h2,h3,h4⟩
   ·exact zhS h5 hm
theorem zpt {P:Program} {W:World} {N:Nam} {laid:List (String×DataW Unit)} {nm:String} {g k:Nat} {t e:TypeId} {ls:List Lit}
 (BL:(laid.all fun x=>x.2.handleName?.isNone)=true) (h:laidMetH P laid W) (Ce:(nm,.agg (ls.map DataW.lit))∈laid)
 (hg:P.globalNamed nm=some g) (ht:(P.globals[g]?).map (·.type)=some t) (hu:P.underlying t=some (.array ls.length e)) (he:P.underlying e=some .string\/ ∃k,P.underlying e=some (.int k)) (hc:P.cellsOf e=1) (hn:P.cellsOf t=ls.length)
 (Ku:N.gm k=g) (hG:N.GL k=ls.map zzL) (j:Nat) (x:T) (hx:(N.GL k)[j]? =some x):
 N.gm k<W.heap.size/\(∃e,W.shape? (N.gm k)=some (e,(N.GL k).length))/\ ∃v,W.cell? ⟨N.gm k,j,none⟩=some v/\RepT W (fun r=>r<W.heap.size) N.nm v x:=by
 rw[MakeChecks.laidMetH_plain _ _ _ BL]at h;obtain⟨ps,hv,_⟩:=h;obtain⟨g0,t0,cs0,f0,q0,Po,Mo,Fz,QI⟩:=zhS hv Ce;obtain rfl:=Option.some.inj (hg.symm.trans Po);obtain rfl:=Option.some.inj (ht.symm.trans Mo);obtain⟨xs,m1,rfl,KA,Ac,Iq,M2⟩:=DataW.trod_array hu QI;simp only[Prod.mk.injEq,DataW.agg.injEq]at KA;rw[hG,zJ,zE]at hx;obtain⟨m,hm,rfl⟩:=hx;have hj:j<ls.length:=(zH.1 hm).1;obtain⟨y,hy⟩: ∃y,xs[j]? =some y:=⟨_,zI (by omega)⟩
 have IP:y.1= .lit m:=by
  have h2:=congrArg (·[j]?) KA.1;simp only[zJ,hm,hy,Option.map_some,zA]at h2;exact h2.symm
 have h3:=M2 j hj;rw[hy,hc,Nat.mul_one]at h3
 have DF: ∀v:Value,(cs0.toList.drop j).take 1=[v]->cs0[j]? =some v:=by
  intro v hq;have h4:=congrArg (·[0]?) hq;simp only[zO,List.getElem?_drop,Nat.add_zero]at h4;simpa using h4
 have BP: ∃v,cs0[j]? =some v/\RepT W (fun r=>r<W.heap.size) N.nm v (zzL m):=by
  rcases he with he | ⟨kk,he⟩
  ·obtain⟨s,hs,FN,_⟩:=DataW.trod_string he h3;have:m= .string s.data.toList:=by rw[FN]at IP;simpa using IP.symm
   subst this;refine⟨.string s,DF _ hs,?_⟩;have:zzL (.string s.data.toList)= .str s:=by simp[zzL]
   rw[this];exact .str s
  ·obtain⟨q,hq,P5,_⟩:=DataW.trod_int he h3;have:m= .int kk q:=by rw[P5]at IP;simpa using IP.symm
   subst this;exact⟨.int kk q,DF _ hq,.int kk q⟩
 obtain⟨v,PJ,Ae⟩:=BP;have AW:W.cell? ⟨g,j,none⟩=some v:=by rw[World.var?_cell Po Fz j];exact PJ
 rw[Ku];refine⟨(cell?_spot AW).2,?_,v,AW,Ae⟩;unfold World.var? at Fz;rw[hg]at Fz;simp only[zD]at Fz;unfold World.shape?;split at Fz
 ·rename_i cs e0 z hb;simp only[zA]at Fz;subst Fz;rw[hb];refine⟨e0,?_⟩;simp only[zA,Prod.mk.injEq,true_and];have h5:=Ac;rw[Array.length_toList]at h5;rw[h5,hG,List.length_map,hn]
 ·cases Fz
theorem zkG {α:Type} {k:Nat} {v:α}: ∀{l:List (Nat×α)},l.lookup k=some v->(k,v)∈l
 | [],h=>by simp at h
 | (a,b)::r,h=>by
   rw[List.lookup_cons]at h;split at h
   ·rename_i hk;simp only[beq_iff_eq]at hk;cases h;subst hk;exact List.mem_cons_self
   ·exact List.mem_cons_of_mem _ (zkG h)
end Rg
end
section
namespace Rg
open Go
theorem zFg {a b:Bool} (h:a=true) (g:b=true):(a&&b)=true:=by rw[h,g];rfl
section
variable {H:Type} {enc:TypeId×Value->H} {P:Program} {W:World} {nm μ:Nat->Nat} {HO:Nat->Option O} {y:Tys}
theorem trodAll_nil {sp:Nat->Bool} {vs:List Value} {ds:List (DataW H)} {ps:List MemPlace} (h:DataW.TrodAll enc P W 0 sp true [] vs ds ps):vs=[]/\ds=[]:=by
 cases vs<;>cases ds<;>first | exact⟨rfl,rfl⟩ | cases h
theorem trodAll_cons {sp:Nat->Bool} {t:TypeId} {ts:List TypeId} {vs:List Value} {ds:List (DataW H)} {ps:List MemPlace} (h:DataW.TrodAll enc P W 0 sp true (t::ts) vs ds ps):
 ∃v vs' d ds' p q,vs=v::vs'/\ds=d::ds'/\DataW.Trod enc P W 0 sp true t v d p/\DataW.TrodAll enc P W 0 sp true ts vs' ds' q:=by
 cases vs with
 | nil=>cases h
 | cons v vs=>
   cases ds with
   | nil=>cases h
   | cons d ds=>
     obtain⟨p,q,h1,h2,_⟩:=h;exact⟨v,vs,d,ds,p,q,rfl,rfl,h1,h2⟩
theorem zdu {t:TypeId} {ts:List TypeId} {d:DataW H} {ds:List (DataW H)} (h:(DataW.weightsEach P (t::ts) (d::ds)).all (· <=reachBytes)=true):
 (d.weights P t).all (· <=reachBytes)=true/\(DataW.weightsEach P ts ds).all (· <=reachBytes)=true:=by
 rw[DataW.weightsEach,List.all_append,zF]at h;exact h
theorem zy5 {α:Type} {t:TypeId} {tot:Nat} {fs:List (TypeId×Nat)} {f:α->List T} {good:α->Prop} {v:Value} {d:DataW H} {p:List MemPlace} {base:Nat} (hs:zhU P t tot fs=true) (hr: ∀n,Rd enc P W nm n t f good)
 (hv:Value.okWide P W .any base t v) (ht:DataW.Trod enc P W 0 (fun _=>true) true t v d p) (hw:(d.weights P t).all (· <=reachBytes)=true):
 ∃a,good a/\zbl W (fun r=>r<W.heap.size) nm μ HO v (.agg ((f a).map V.t)):=by
 obtain⟨n,hn⟩:=ht;obtain⟨a,ha,Cu⟩:=hr n _ _ hn hw;refine⟨a,ha,?_⟩;simp only[zhU,zF]at hs;have h1:=hs.1;split at h1
 ·rename_i u hu;unfold Value.okWide at hv;rw[hu]at hv;obtain⟨cs,rfl,_⟩:=hv;exact zuh (by simpa[Value.cells]using Cu)
 ·simp at h1
theorem zKU {α:Type} {t e:TypeId} {f:α->T} {good:α->Prop} {v:Value} {d:DataW H} {p:List MemPlace} {base:Nat} (hs:zfl P t e=true) (hr: ∀n,Rd enc P W nm n t (fun a=>[f a]) good)
 (hv:Value.okWide P W .any base t v) (ht:DataW.Trod enc P W 0 (fun _=>true) true t v d p) (hw:(d.weights P t).all (· <=reachBytes)=true):
 ∃a,good a/\zbl W (fun r=>r<W.heap.size) nm μ HO v (.t (f a)):=by
 obtain⟨n,hn⟩:=ht;obtain⟨a,ha,Cu⟩:=hr n _ _ hn hw;refine⟨a,ha,?_⟩;have hu:=zfl.u hs;unfold Value.okWide Cell.okWide Cell.ok at hv;rw[hu]at hv;cases v<;>first | exact zug (by simpa[Value.cells]using Cu) | exact absurd hv (by simp)
end
end Rg
end
section
namespace Rg
open Go
section
variable {Γ:Nat->Option F} {G:Nat->List T}
theorem Big.det {t:Task} {o:Out} (h:Big Γ G t o): ∀{o':Out},Big Γ G t o'->o=o':=by
 induction h with
 | skip=>intro o' h';cases h';rfl
 | ret=>intro o' h';cases h';rfl
 | exit=>intro o' h';cases h';rfl
 | region _ ih=>intro o' h';cases h' with | region h=>have:=ih h;cases this;rfl
 | regionD _ _ ih=>intro o' h';cases h' with | regionD h _=>have:=ih h;cases this;rfl
 | seqN _ _ ih1 ih2=>
   intro o' h'
   cases h' with
   | seqN h1 h2=>have:=ih1 h1;cases this;exact ih2 h2
   | seqX h1 he=>have:=ih1 h1;cases this;exact absurd rfl he
 | seqX _ he ih=>
   intro o' h'
   cases h' with
   | seqN h1 h2=>have:=ih h1;cases this;exact absurd rfl he
   | seqX h1 he=>exact ih h1
 | cond hc _ ih=>
   intro o' h'
   cases h' with
   | cond Bz h=>rw[hc]at Bz;cases Bz;exact ih h
 | block _ ih=>
   intro o' h'
   cases h' with
   | block h=>have:=ih h;cases this;rfl
 | loop _ ih=>
   intro o' h'
   cases h' with
   | loop h=>exact ih h
 | loopN _ _ ih1 ih2=>
   intro o' h'
   cases h' with
   | loopN h1 h2=>have:=ih1 h1;cases this;exact ih2 h2
   | loopX h1 he=>have:=ih1 h1;cases this;exact absurd rfl he
 | loopX _ he ih=>
   intro o' h'
   cases h' with
   | loopN h1 h2=>have:=ih h1;cases this;exact absurd rfl he
   | loopX h1 he=>exact ih h1
 | opsNil=>intro o' h';cases h';rfl
 | opsSkip hw hf _ ih=>
   intro o' h'
   cases h' with
   | opsSkip Aw JO h=>exact ih h
   | opsEff Aw _ _ _=>rw[hw]at Aw;cases Aw
   | opsPure Aw _ _ _ _ _ _ _ _ _ _ _=>rw[hw]at Aw;cases Aw
   | opsRaw Aw _ _ _ _ _ _ _ _ _=>rw[hw]at Aw;cases Aw
   | opsFresh Aw _ _ _ _ _ _ _ _ _ _ _ _=>rw[hw]at Aw;cases Aw
   | opsYield Aw _ _ _ _ _ _ _ _ _ _ _=>rw[hw]at Aw;cases Aw
 | rangeF As Ax hg hr hc hl he ihc=>
   intro o' h'
   cases h' with
   | rangeF AY BT B9 Dz Bz CE BZ=>
     rw[As]at AY;cases AY;rw[Ax]at BT;cases BT;have:=ihc Bz;cases this;rw[hl]at CE;cases CE;rw[he]at BZ;cases BZ
     rfl
 | opsYield hw hf ho As hk Au Ac Bi A3 CL AF _ iha ihb ih=>
   intro o' h'
   cases h' with
   | opsSkip Aw JO h=>rw[hw]at Aw;cases Aw
   | opsEff Aw _ BZ h=>rw[ho]at BZ;simp[zaj]at BZ
   | opsPure Aw _ AR AY BT B9 Dz Cb DZ Bz JS h=>rw[ho]at AR;cases AR
   | opsFresh Aw _ AR _ _ _ _ _ _ _ _ _ _=>rw[ho]at AR;cases AR
   | opsRaw Aw _ AR AY BT B9 Dz Cb Bz h=>
     rw[ho]at AR;cases AR;rw[As]at AY;cases AY
     simp[zfC]at BT
   | opsYield Aw _ AR AY Ah Cb BS Og EM Of HX h=>
     rw[ho]at AR;cases AR;rw[As]at AY;cases AY;rw[hk]at Ah;cases Ah;rw[Au]at Cb;cases Cb;have:=iha Og;cases this;rw[A3]at EM;cases EM;have:=ihb Of;cases this;rw[AF]at HX;cases HX
     exact ih h
 | opsEff hw hf he _ ih=>
   intro o' h'
   cases h' with
   | opsSkip Aw JO h=>rw[hw]at Aw;cases Aw
   | opsEff Aw _ BZ h=>rw[he]at BZ;cases BZ;exact ih h
   | opsPure Aw _ ho _ _ _ _ _ _ _ _ _=>rw[ho]at he;simp[zaj]at he
   | opsRaw Aw _ ho _ _ _ _ _ _ _=>rw[ho]at he;simp[zaj]at he
   | opsFresh Aw _ ho _ _ _ _ _ _ _ _ _ _=>rw[ho]at he;simp[zaj]at he
   | opsYield Aw _ ho _ _ _ _ _ _ _ _ _=>rw[ho]at he;simp[zaj]at he
 | opsPure hw hf ho As Ax hg hr Au AD hc hd _ ihc ih=>
   intro o' h'
   cases h' with
   | opsSkip Aw JO h=>rw[hw]at Aw;cases Aw
   | opsEff Aw _ BZ h=>rw[ho]at BZ;simp[zaj]at BZ
   | opsPure Aw _ AR AY BT B9 Dz Cb DZ Bz JS h=>
     rw[ho]at AR;cases AR;rw[As]at AY;cases AY;rw[Ax]at BT;cases BT;rw[Au]at Cb;cases Cb;rw[AD]at DZ;cases DZ;have:=ihc Bz;cases this
     exact ih h
   | opsRaw Aw _ AR _ _ _ _ _ _ _=>rw[ho]at AR;cases AR
   | opsFresh Aw _ AR _ _ _ _ _ _ _ _ _ _=>rw[ho]at AR;cases AR
   | opsYield Aw _ AR _ _ _ _ _ _ _ _ _=>rw[ho]at AR;cases AR
 | opsRaw hw hf ho As Ax hg hr Au hc _ ihc ih=>
   intro o' h'
   cases h' with
   | opsSkip Aw JO h=>rw[hw]at Aw;cases Aw
   | opsEff Aw _ BZ h=>rw[ho]at BZ;simp[zaj]at BZ
   | opsPure Aw _ AR AY BT B9 Dz Cb DZ Bz JS h=>rw[ho]at AR;cases AR
   | opsFresh Aw _ AR _ _ _ _ _ _ _ _ _ _=>rw[ho]at AR;cases AR
   | opsYield Aw _ AR AY _ _ _ _ _ _ _ _=>
     rw[ho]at AR;cases AR;rw[As]at AY;cases AY
     simp[zfC]at Ax
   | opsRaw Aw _ AR AY BT B9 Dz Cb Bz h=>
     rw[ho]at AR;cases AR;rw[As]at AY;cases AY;rw[Ax]at BT;cases BT;rw[Au]at Cb;cases Cb;have:=ihc Bz;cases this
     exact ih h
 | opsFresh hw hf ho As Ax hg hr Au AD hd hc he _ ihc ih=>
   intro o' h'
   cases h' with
   | opsSkip Aw JO h=>rw[hw]at Aw;cases Aw
   | opsEff Aw _ BZ h=>rw[ho]at BZ;simp[zaj]at BZ
   | opsPure Aw _ AR AY BT B9 Dz Cb DZ Bz JS h=>rw[ho]at AR;cases AR
   | opsRaw Aw _ AR AY BT B9 Dz Cb Bz h=>rw[ho]at AR;cases AR
   | opsYield Aw _ AR _ _ _ _ _ _ _ _ _=>rw[ho]at AR;cases AR
   | opsFresh Aw _ AR AY BT B9 Dz Cb DZ JS Bz BZ h=>
     rw[ho]at AR;cases AR;rw[As]at AY;cases AY;rw[Ax]at BT;cases BT;rw[Au]at Cb;cases Cb;rw[AD]at DZ;cases DZ;have:=ihc Bz;cases this;rw[he]at BZ;cases BZ
     exact ih h
 | pcall hg hr IC he hv Bh ih=>
   intro o' h'
   cases h' with
   | pcall B9 Dz h BZ BQ Jf=>
     rw[hg]at B9;cases B9;have:=ih h;cases this;rw[hv]at BQ;cases BQ;rw[Bh]at Jf;cases Jf
     rfl
   | pext B9 Dz hx h2=>
     rw[hg]at B9;cases B9;rw[hx]at IC
     cases IC
 | rcall hg hr hb he hv ih=>
   intro o' h'
   cases h' with
   | rcall B9 Dz h BZ BQ=>
     rw[hg]at B9;cases B9;have:=ih h;cases this;rw[hv]at BQ;cases BQ
     rfl
   | rext B9 Dz hx h=>
     rw[hg]at B9;cases B9
     rw[hx]at hb;cases hb
   | rpure B9 Dz _ _=>rw[hg]at B9;cases B9;rw[hr]at Dz;cases Dz
 | rpure hg hr AD hc ih=>
   intro o' h'
   cases h' with
   | rcall B9 Dz _ _ _=>rw[hg]at B9;cases B9;rw[hr]at Dz;cases Dz
   | rext B9 Dz _ _=>rw[hg]at B9;cases B9;rw[hr]at Dz;cases Dz
   | rpure B9 Dz DZ Bz=>
     rw[AD]at DZ;cases DZ;have:=ih Bz;cases this
     rfl
 | pext hg hr hx h=>
   intro o' h'
   cases h' with
   | pcall B9 Dz hb BZ BQ Jf=>
     rw[hg]at B9;cases B9
     rw[hx]at hb;cases hb
   | pext B9 Dz Dc h2=>
     rw[hg]at B9;cases B9;rw[hx]at Dc;cases Dc;rw[h]at h2;cases h2
     rfl
 | rext hg hr hx h=>
   intro o' h'
   cases h' with
   | rcall B9 Dz hb BZ BQ=>
     rw[hg]at B9;cases B9
     rw[hx]at hb;cases hb
   | rext B9 Dz Dc h2=>
     rw[hg]at B9;cases B9;rw[hx]at Dc;cases Dc;rw[h]at h2;cases h2
     rfl
   | rpure B9 Dz _ _=>rw[hg]at B9;cases B9;rw[hr]at Dz;cases Dz
variable (Γ G)
open Classical in
noncomputable def Den (g:Nat) (args:List V):Option V:=if h: ∃r,PC Γ G g args r then some h.choose else none
open Classical in
noncomputable def DenR (g:Nat) (args:List V) (h:Nat->Option O) (n:Nat):Option (V×(Nat->Option O)×Nat):=
 if h: ∃r:V×(Nat->Option O)×Nat,RC Γ G g args h n r.1 r.2.1 r.2.2 then some h.choose else none
open Classical in
noncomputable def DenY (k:Nat) (args:List V) (h:Nat->Option O) (n:Nat):Option (V×(Nat->Option O)×Nat):=
 if h: ∃r:V×(Nat->Option O)×Nat,YC Γ G k args h n r.1 r.2.1 r.2.2 then some h.choose else none
variable {Γ G}
theorem zy7 {k:Nat} {args:List V} {h:Nat->Option O} {n:Nat} {r r':V} {h1 h2:Nat->Option O} {n1 n2:Nat} (a:YC Γ G k args h n r h1 n1) (b:YC Γ G k args h n r' h2 n2):r=r'/\h1=h2/\n1=n2:=by
 obtain⟨env,ps,ca,cb,s1,enva,psa,bda,env',ps',bd',e,s2,g1,g2,g3,g3',g3'',g4,rfl,rfl,rfl⟩:=a;obtain⟨env0,ps0,ca0,cb0,s10,envb,psb,bdb,env1,ps1,bd1,e0,s0,q1,q2,q3,q3',q3'',q4,rfl,rfl,rfl⟩:=b;rw[g1]at q1;cases q1;have:=g3.det q3;cases this;rw[g3']at q3';cases q3';have:=g3''.det q3'';cases this;rw[g4]at q4;cases q4;exact⟨rfl,rfl,rfl⟩
theorem zlM {k:Nat} {args:List V} {h:Nat->Option O} {n:Nat} {r:V} {h':Nat->Option O} {n':Nat}:DenY Γ G k args h n=some (r,h',n')<->YC Γ G k args h n r h' n':=by
 unfold DenY;split
 ·rename_i h;have hc:=h.choose_spec;constructor
  ·intro e;simp only[zA]at e;rw[e]at hc;exact hc
  ·intro e;obtain⟨h1,h2,h3⟩:=zy7 hc e;simp only[zA];exact Prod.ext h1 (Prod.ext h2 h3)
 ·rename_i h;constructor
  ·intro e;cases e
  ·intro e;exact absurd ⟨(r,h',n'),e⟩ h
theorem zhC {g:Nat} {args:List V} {r:V}:Den Γ G g args=some r<->PC Γ G g args r:=by
 unfold Den;split
 ·rename_i h;have hc:=h.choose_spec;constructor
  ·intro e;cases e;exact hc
  ·intro e;have:=Big.det hc e;cases this;congr 1
 ·rename_i h;constructor
  ·intro e;cases e
  ·intro e;exact absurd ⟨r,e⟩ h
theorem zcI {g:Nat} {args:List V} {h:Nat->Option O} {n:Nat} {r:V} {h':Nat->Option O} {n':Nat}:DenR Γ G g args h n=some (r,h',n')<->RC Γ G g args h n r h' n':=by
 unfold DenR;split
 ·rename_i h;have hc:=h.choose_spec;constructor
  ·intro e;simp only[zA]at e;rw[e]at hc;exact hc
  ·intro e;have:=Big.det hc e;simp only[Out.vals.injEq]at this;obtain⟨h1,h2,h3⟩:=this;simp only[zA];exact Prod.ext h1 (Prod.ext h2 h3)
 ·rename_i h;constructor
  ·intro e;cases e
  ·intro e;exact absurd ⟨(r,h',n'),e⟩ h
theorem zf6 {g:Nat} {fn:F} {e:Ext} {args:List V} {hp h':Nat->Option O} {n n':Nat} {r:V} (hg:Γ g=some fn) (hr:fn.raw=true) (hb:fn.body= .ext e)
 (h:zd3 e args hp n=some (r,h',n')):DenR Γ G g args hp n=some (r,h',n'):=zcI.2 (.rext hg hr hb h)
theorem zB0 {g:Nat} {args:List V} {r:V} (h:PC Γ G g args r): ∃fn,Γ g=some fn/\fn.raw=false:=by
 cases h with
 | pcall hg hr _ _ _ _=>exact⟨_,hg,hr⟩
 | pext hg hr _ _=>exact⟨_,hg,hr⟩
theorem zxp {g:Nat} {args:List V} {h:Nat->Option O} {n:Nat} {r:V} {h':Nat->Option O} {n':Nat} (h:RC Γ G g args h n r h' n'): ∃fn,Γ g=some fn/\True:=by
 cases h with
 | rcall hg hr _ _ _=>exact⟨_,hg,trivial⟩
 | rext hg hr _ _=>exact⟨_,hg,trivial⟩
 | rpure hg hr _ _=>exact⟨_,hg,trivial⟩
@[go_sem]theorem zwB (d:Bool) (m:M) (dst:Option Nat) (g:Nat) (l:List V) (K:M->Prop):
 zvr Γ G d m dst g l K=(m.free dst {}=true/\match l.mapM (toT1 m.heap)with
  | none=>False
  | some rs=>match Den Γ G g rs with
    | none=>False
    | some r=>zzH d m dst l r K):=by
 apply propext;unfold zvr;constructor
 ·rintro⟨hf,rs,AD,r,hc,hg,hk⟩;refine⟨hf,?_⟩;rw[AD];simp only;rw[zhC.2 hc];exact hk
 ·rintro⟨hf,h⟩;refine⟨hf,?_⟩;split at h
  ·exact h.elim
  ·rename_i rs AD;split at h
   ·exact h.elim
   ·rename_i r hr;exact⟨rs,AD,r,zhC.1 hr,zB0 (zhC.1 hr),h⟩
@[go_sem]theorem zwA (m:M) (dst:Option Nat) (g:Nat) (l:List V) (K:M->Prop):
 zvq Γ G m dst g l K=(m.free dst {}=true/\match DenR Γ G g l m.heap m.nxt with
  | none=>False
  | some (r,h',n')=>K ({ m with heap:=h',nxt:=n' }.apply dst { val:=r })):=by
 apply propext;unfold zvq;constructor
 ·rintro⟨hf,r,h',n',hc,hg,hk⟩;refine⟨hf,?_⟩;rw[zcI.2 hc];exact hk
 ·rintro⟨hf,h⟩;refine⟨hf,?_⟩;split at h
  ·exact h.elim
  ·rename_i r h' n' hr;exact⟨r,h',n',zcI.1 hr,zxp (zcI.1 hr),h⟩
theorem zwz (m:M) (dst:Option Nat) (k:Nat) (l:List V) (K:M->Prop):
 zvp Γ G m dst k l K=(m.free dst {}=true/\match DenY Γ G k l m.heap m.nxt with
  | none=>False
  | some (r,h',n')=>K ({ m with heap:=h',nxt:=n' }.apply dst { val:=r })):=by
 apply propext;unfold zvp;constructor
 ·rintro⟨hf,r,h',n',hc,hk⟩;refine⟨hf,?_⟩;rw[zlM.2 hc];exact hk
 ·rintro⟨hf,h⟩;refine⟨hf,?_⟩;split at h
  ·exact h.elim
  ·rename_i r h' n' hr;exact⟨r,h',n',zlM.1 hr,h⟩
def V.tree:V->Bool
 | .t _=>true
 | .agg cs=>cs.all fun c=>match c with | .t _=>true | _=>false
 | _=>false
theorem zkt {h:Nat->Option O} {v:V} (hv:v.tree=true):zba h v=[]:=by
 cases v with
 | agg cs=>
   simp only[V.tree,zN]at hv;simp only[zba,List.flatMap_eq_nil_iff];intro c hc;have:=hv c hc;cases c<;>simp at this
   rfl
 | t x=>rfl
 | _=>simp[V.tree]at hv
attribute [go_sem] V.tree List.all_cons List.all_nil Bool.and_self
theorem zyV {g:Nat} {args:List V} {fn:F} {r:V} (hg:Γ g=some fn) (hr:fn.raw=false)
 (h:wpC Γ G fn.body ⟨slots args 0,fun _=>false,fun _=>none,0,0⟩ (Fin fn.results r)):Den Γ G g args=some r:=zhC.2 (zzc hg hr h)
def zxA (rs:List Res) (P:V->(Nat->Option O)->Nat->Prop) (e:Ex) (m:M):Prop:=(∀id,e≠ .exit id)/\ ∃v,zeM m.st rs=some v/\P v m.heap m.nxt
theorem zw9 {g:Nat} {args:List V} {fn:F} {hp:Nat->Option O} {n:Nat} {P:V->(Nat->Option O)->Nat->Prop} (hg:Γ g=some fn) (hr:fn.raw=true)
 (h:wpC Γ G fn.body ⟨slots args 0,fun _=>false,hp,n,n⟩ (zxA fn.results P)): ∃r h' n',DenR Γ G g args hp n=some (r,h',n')/\P r h' n':=by
 obtain⟨e,m',hB,he,v,hv,hP⟩:=zq7 h;refine⟨v,m'.heap,m'.nxt,zcI.2 ?_,hP⟩;have:M.st ⟨slots args 0,fun _=>false,hp,n,n⟩=St.init args hp n:=by rw[zwd,zsv]
 rw[this]at hB;exact .rcall hg hr hB he hv
@[go_sem]theorem zwx (rs:List Res) (P:V->(Nat->Option O)->Nat->Prop) (sl:Nat->Slot) (u:Nat->Bool) (h:Nat->Option O) (n b:Nat):
 zxA rs P .ret ⟨sl,u,h,n,b⟩= ∃v,zeM (M.st ⟨sl,u,h,n,b⟩) rs=some v/\P v h n:=by simp[zxA]
@[go_sem]theorem zwy (rs:List Res) (P:V->(Nat->Option O)->Nat->Prop) (sl:Nat->Slot) (u:Nat->Bool) (h:Nat->Option O) (n b:Nat):
 zxA rs P .normal ⟨sl,u,h,n,b⟩= ∃v,zeM (M.st ⟨sl,u,h,n,b⟩) rs=some v/\P v h n:=by simp[zxA]
theorem zBA {b:C} {sl:Nat->Slot} {us:Nat->Bool} {nx ba:Nat} {Q:Ex->M->Prop} (W:List Nat) (n:Nat) (Inv:Nat->(Nat->Slot)->Prop) (hW:b.wrIn W=true) (hH:b.noH=true)
 (h0:Inv 0 sl)
 (h: ∀i f u k bs,i<=n->Inv i f->wpC Γ G b ⟨ovr W f sl,u,fun _=>none,k,bs⟩ (zf8 (fun m'=>SpN (i<n/\Inv (i+1) m'.sl) ⟨0⟩) Q)):WL Γ G b ⟨sl,us,fun _=>none,nx,ba⟩ Q:=by
 refine zxo W hW hH (fun k f=> ∃i,k=n-i/\i<=n/\Inv i f) n ⟨0,by omega,by omega,h0⟩ ?_;rintro k f u kk bs ⟨i,rfl,hi,hI⟩;refine zts (zq7 (h i f u kk bs hi hI)) ?_;apply zhm;rintro m ⟨h1,h2⟩;exact⟨n-(i+1),by omega,i+1,rfl,by omega,h2⟩
theorem zyB {b:C} {sl:Nat->Slot} {us:Nat->Bool} {hp:Nat->Option O} {nx ba:Nat} {Q:Ex->M->Prop} (W:List Nat) (n:Nat) (Inv:Nat->(Nat->Slot)->(Nat->Option O)->Nat->Prop) (hW:b.wrIn W=true)
 (h0:Inv 0 sl hp nx)
 (h: ∀i f u h k bs,i<=n->Inv i f h k->wpC Γ G b ⟨ovr W f sl,u,h,k,bs⟩ (zf8 (fun m'=>SpN (i<n/\Inv (i+1) m'.sl m'.heap m'.nxt) ⟨0⟩) Q)):WL Γ G b ⟨sl,us,hp,nx,ba⟩ Q:=by
 refine zv8 W hW (fun k f h x=> ∃i,k=n-i/\i<=n/\Inv i f h x) n ⟨0,by omega,by omega,h0⟩ ?_;rintro k f u h' kk bs ⟨i,rfl,hi,hI⟩;refine zts (zq7 (h i f u h' kk bs hi hI)) ?_;apply zhm;rintro m ⟨h1,h2⟩;exact⟨n-(i+1),by omega,i+1,rfl,by omega,h2⟩
end
end Rg
end
section
namespace Rg
open Go
structure W3 (c:C) (Q:Ex->M->Prop) (m:M)where
 n:Nat
structure W4 (p:Nat) (l:List ROp) (Q:M->Prop) (m:M)where
 n:Nat
structure WK {α:Type} {β:Sort _} (K:α->β)where
 n:Nat
structure WV {α:Type} (x y:α)where
 n:Nat
def pk {α:Type} (b:Bool) (x y:α) (_:WV x y):α:=match b with
 | true=>x
 | false=>y
@[go_sem]theorem zFr {α:Type} (x y:α) (w:WV x y):pk true x y w=x:=rfl
@[go_sem]theorem zFs {α:Type} (x y:α) (w:WV x y):pk false x y w=y:=rfl
theorem zql {α:Type} (i j:Nat) (x y:α) (w:WV x y):pk (j==i) x y w=if j=i then x else y:=by
 by_cases h:j=i
 ·simp[h,pk]
 ·have:(j==i)=false:=by simpa using h
  rw[this,if_neg h];rfl
noncomputable def updC {α:Type}:(Nat->α)->Nat->α->Nat->α:=(Classical.choice (⟨⟨@upd α,rfl⟩⟩:Nonempty {g:(Nat->α)->Nat->α->Nat->α// g= @upd α})).1
theorem zaL {α:Type}: @updC α= @upd α:=(Classical.choice (⟨⟨@upd α,rfl⟩⟩:Nonempty {g:(Nat->α)->Nat->α->Nat->α// g= @upd α})).2
noncomputable def begC:(Nat->Slot)->Nat->Slot:=(Classical.choice (⟨⟨beg,rfl⟩⟩:Nonempty {g:(Nat->Slot)->Nat->Slot// g=beg})).1
theorem zjL:begC=beg:=(Classical.choice (⟨⟨beg,rfl⟩⟩:Nonempty {g:(Nat->Slot)->Nat->Slot// g=beg})).2
noncomputable def ovrC:List Nat->(Nat->Slot)->(Nat->Slot)->Nat->Slot:=(Classical.choice (⟨⟨ovr,rfl⟩⟩:Nonempty {g:List Nat->(Nat->Slot)->(Nat->Slot)->Nat->Slot// g=ovr})).1
theorem zlr:ovrC=ovr:=(Classical.choice (⟨⟨ovr,rfl⟩⟩:Nonempty {g:List Nat->(Nat->Slot)->(Nat->Slot)->Nat->Slot// g=ovr})).2
def zjJ (k:Nat):List Nat:=(List.range (k.log2+1)).filter fun t=>(k>>> t) % 2==1
theorem zfO (k t:Nat):(zjJ k).contains t=((k>>> t) % 2==1):=by
 by_cases ht:t<k.log2+1
 ·cases h:((k>>> t) % 2==1)with
  | true=>simp only[List.contains_eq_mem,zjJ,List.mem_filter,List.mem_range,ht,h,and_self,decide_true]
  | false=>simp only[List.contains_eq_mem,zjJ,List.mem_filter,List.mem_range,ht,h,zG,and_false,decide_false]
 ·have h0:k>>> t=0:=by
   rw[Nat.shiftRight_eq_div_pow];exact Nat.div_eq_of_lt (Nat.lt_of_lt_of_le Nat.lt_log2_self (Nat.pow_le_pow_right (by omega) (by omega)))
  rw[h0];simp only[List.contains_eq_mem,zjJ,List.mem_filter,List.mem_range,ht,false_and,decide_false];rfl
noncomputable def slotsC:List V->Nat->Nat->Slot:=(Classical.choice (⟨⟨slots,rfl⟩⟩:Nonempty {g:List V->Nat->Nat->Slot// g=slots})).1
theorem ziG:slotsC=slots:=(Classical.choice (⟨⟨slots,rfl⟩⟩:Nonempty {g:List V->Nat->Nat->Slot// g=slots})).2
noncomputable def At:(Nat->Option O)->List (Nat×O)->Nat->Option O:=(Classical.choice (⟨⟨zbf,rfl⟩⟩:Nonempty {g:(Nat->Option O)->List (Nat×O)->Nat->Option O// g=zbf})).1
theorem zek:At=zbf:=(Classical.choice (⟨⟨zbf,rfl⟩⟩:Nonempty {g:(Nat->Option O)->List (Nat×O)->Nat->Option O// g=zbf})).2
noncomputable def addC:Nat->List ROp->Nat:=(Classical.choice (⟨⟨fun n l=>n+l.length,rfl⟩⟩:Nonempty {g:Nat->List ROp->Nat// g=fun n l=>n+l.length})).1
theorem zfQ:addC=fun n l=>n+l.length:=(Classical.choice (⟨⟨fun n l=>n+l.length,rfl⟩⟩:Nonempty {g:Nat->List ROp->Nat// g=fun n l=>n+l.length})).2
theorem zhI (n:Nat) (l:List ROp):n<=addC n l:=by rw[zfQ];exact Nat.le_add_right n _
@[go_sem]theorem zAR (n:Nat) (l:List ROp):addC n l=n+l.length:=by rw[zfQ]
@[go_sem ↓]theorem zCq (f:Nat->Bool) (i j:Nat):updC f i true j=pk (j==i) true (f j) ⟨0⟩:=by rw[zaL,zql];rfl
@[go_sem]theorem zaa {α:Type} (f:Nat->α) (i j:Nat) (v:α):updC f i v j=if j=i then v else f j:=by rw[zaL];rfl
@[go_sem ↓]theorem zaA (h:Nat->Option O):At h []=h:=by rw[zek];rfl
@[go_sem ↓]theorem zaC (h:Nat->Option O) (k:Nat) (o:O) (r:List (Nat×O)):At h ((k,o)::r)=At (updC h k (some o)) r:=by rw[zek,zaL];rfl
def ob {α β:Type} (o:Option α) (K:α->Option β) (_:WK K):Option β:=o.bind K
@[go_sem]theorem zBv {α β:Type} (a:α) (K:α->Option β) (w:WK K):ob (some a) K w=K a:=rfl
def zdr {α:Type} (us:Bool) (o:Option α) (K:α->Prop) (_:WK K):Prop:=match o with
 | none=>False
 | some v=>us=false/\K v
@[go_sem]theorem zym {α:Type} (v:α) (K:α->Prop) (w:WK K):zdr false (some v) K w=K v:=by simp[zdr]
def ziX {α β:Type} (us:Bool) (o:Option (α×β)) (K:α->β->Prop) (_:WK K):Prop:=match o with
 | none=>False
 | some (a,b)=>us=false/\K a b
@[go_sem]theorem zcb {α β:Type} (a:α) (b:β) (K:α->β->Prop) (w:WK K):ziX false (some (a,b)) K w=K a b:=by simp[ziX]
theorem zln {α β:Type} (us:Bool) (o:Option (α×β)) (K:α->β->Prop) (w:WK K) (w':WK fun y:α×β=>K y.1 y.2):ziX us o K w=zdr us o (fun y=>K y.1 y.2) w':=by
 cases o<;>rfl
def zyq {α β γ δ:Type} (o:Option (α×β×γ×δ)) (K:α->β->γ->δ->Prop) (_:WK K):Prop:=match o with
 | none=>False
 | some (a,b,c,d)=>K a b c d
@[go_sem]theorem zyp {α β γ δ:Type} (a:α) (b:β) (c:γ) (d:δ) (K:α->β->γ->δ->Prop) (w:WK K):zyq (some (a,b,c,d)) K w=K a b c d:=rfl
def valOf:V->Option V
 | .undef=>none
 | .lb=>none
 | v=>some v
@[go_sem]theorem zBd (x:T):valOf (.t x)=some (.t x):=rfl
@[go_sem]theorem zzw (k i l:Nat):valOf (.ms k i l)=some (.ms k i l):=rfl
@[go_sem]theorem zzx (k i l:Nat):valOf (.mp k i l)=some (.mp k i l):=rfl
@[go_sem]theorem zzv (k:Nat):valOf (.yl k)=some (.yl k):=rfl
@[go_sem]theorem zzz (f:Nat) (a b:List V):valOf (.fn f a b)=some (.fn f a b):=rfl
@[go_sem]theorem zxK (c:List V):valOf (.agg c)=some (.agg c):=rfl
@[go_sem]theorem zxJ (c:List V):valOf (.tup c)=some (.tup c):=rfl
abbrev tyC:=(Nat->Option F)->(Nat->List T)->C->M->(Ex->M->Prop)->Prop
abbrev tyO:=(Nat->Option F)->(Nat->List T)->Bool->Nat->List ROp->M->(M->Prop)->Prop
noncomputable def wpCo:tyC:=(Classical.choice (⟨⟨@wpC,rfl⟩⟩:Nonempty {g:tyC// g= @wpC})).1
theorem zbS:wpCo= @wpC:=(Classical.choice (⟨⟨@wpC,rfl⟩⟩:Nonempty {g:tyC// g= @wpC})).2
noncomputable def WLo:tyC:=(Classical.choice (⟨⟨@WL,rfl⟩⟩:Nonempty {g:tyC// g= @WL})).1
theorem zfi:WLo= @WL:=(Classical.choice (⟨⟨@WL,rfl⟩⟩:Nonempty {g:tyC// g= @WL})).2
noncomputable def wpOo:tyO:=(Classical.choice (⟨⟨@wpO,rfl⟩⟩:Nonempty {g:tyO// g= @wpO})).1
theorem zaX:wpOo= @wpO:=(Classical.choice (⟨⟨@wpO,rfl⟩⟩:Nonempty {g:tyO// g= @wpO})).2
section
variable (Γ:Nat->Option F) (G:Nat->List T)
noncomputable def wC (c:C) (Q:Ex->M->Prop) (m:M) (_:W3 c Q m):Prop:=wpCo Γ G c m Q
noncomputable def wL (c:C) (Q:Ex->M->Prop) (m:M) (_:W3 c Q m):Prop:=WLo Γ G c m Q
noncomputable def wO (d:Bool) (p:Nat) (l:List ROp) (Q:M->Prop) (m:M) (_:W4 p l Q m):Prop:=wpOo Γ G d p l m Q
def zLQ (mt:List (Nat×Nat)):V->Option V
 | .ifc k x=>(mt.lookup k).map fun g=> .fn g [x] []
 | _=>none
def zaW (sl:Nat->Slot):Opd->Option V
 | .s t=>valOf (sl t).v
 | .c v=>some v
 | .g k=>some (.t (.ip (G k)))
 | .m mt t=>zLQ mt (sl t).v
end
section
variable {Γ:Nat->Option F} {G:Nat->List T}
@[go_sem ↓]theorem zCJ (sl:Nat->Slot) (t:Nat):zaW G sl (.s t)=valOf (sl t).v:=rfl
@[go_sem ↓]theorem zCL (sl:Nat->Slot) (v:V):zaW G sl (.c v)=some v:=rfl
@[go_sem ↓]theorem zCK (sl:Nat->Slot) (k:Nat):zaW G sl (.g k)=some (.t (.ip (G k))):=rfl
theorem za2 (sl:Nat->Slot) (u:Nat->Bool) (h:Nat->Option O) (n b:Nat) (x:Opd):evl G (M.st ⟨sl,u,h,n,b⟩) x=zaW G sl x:=by
 cases x with
 | s t=>simp only[evl,M.st,zaW];cases(sl t).v<;>rfl
 | c v=>rfl
 | g k=>rfl
 | m mt t=>simp only[evl,M.st,zaW];cases(sl t).v<;>rfl
@[go_sem ↓]theorem zAS (f:Nat->Slot) (i j:Nat) (v:V) (bx:Option (List V)) (ad:Option (Nat×Nat)):(updC f i ⟨v,bx,ad⟩ j).v=pk (j==i) v (f j).v ⟨0⟩:=by rw[zaL,zql];unfold upd;split<;>rfl
@[go_sem ↓]theorem zxB (f:Nat->Slot) (i j:Nat) (v:V) (bx:Option (List V)) (ad:Option (Nat×Nat)):(updC f i ⟨v,bx,ad⟩ j).box=pk (j==i) bx (f j).box ⟨0⟩:=by rw[zaL,zql];unfold upd;split<;>rfl
@[go_sem ↓]theorem zze (f:Nat->Slot) (i j:Nat) (v:V) (bx:Option (List V)) (ad:Option (Nat×Nat)):(updC f i ⟨v,bx,ad⟩ j).ad=pk (j==i) ad (f j).ad ⟨0⟩:=by rw[zaL,zql];unfold upd;split<;>rfl
@[go_sem ↓]theorem zBc (f:Nat->Slot) (t:Nat):(begC f t).v=(f t).v:=by rw[zjL];rfl
@[go_sem ↓]theorem zxH (f:Nat->Slot) (t:Nat):(begC f t).box=(f t).box:=by rw[zjL];rfl
@[go_sem ↓]theorem zzr (f:Nat->Slot) (t:Nat):(begC f t).ad=none:=by rw[zjL];rfl
noncomputable def ovrM (k:Nat) (f g:Nat->Slot):Nat->Slot:=ovrC (zjJ k) f g
theorem zr0 {α:Type} (b:Bool) (x y:α) (w:WV x y):pk b x y w=if b=true then x else y:=by cases b<;>rfl
@[go_sem ↓]theorem zA0 (k:Nat) (f g:Nat->Slot) (t:Nat):(ovrM k f g t).v=pk ((k>>> t) % 2==1) (f t).v (g t).v ⟨0⟩:=by
 rw[ovrM,zlr,zBu,zfO,zr0]
@[go_sem ↓]theorem zxE (k:Nat) (f g:Nat->Slot) (t:Nat):(ovrM k f g t).box=pk ((k>>> t) % 2==1) (f t).box (g t).box ⟨0⟩:=by
 rw[ovrM,zlr,zwH,zfO,zr0]
@[go_sem ↓]theorem zxC (v:V) (l:List V) (i t:Nat):(slotsC (v::l) i t).v=pk (t==i) v (slotsC l (i+1) t).v ⟨0⟩:=by rw[ziG,zql];simp only[slots,upd];split<;>rfl
inductive Kf where
 | seq (y:C)
 | blk (id:Nat)
variable (Γ G) in
def zqi:List Kf->(Ex->M->Prop)->Ex->M->Prop
 | [],Q=>Q
 | .seq y::ks,Q=>zf8 (fun m'=>wpC Γ G y m' (zqi ks Q)) (zqi ks Q)
 | .blk id::ks,Q=>zjI id (zqi ks Q)
abbrev tyQ:=(Nat->Option F)->(Nat->List T)->List Kf->(Ex->M->Prop)->Ex->M->Prop
noncomputable def qOf:tyQ:=(Classical.choice (⟨⟨@zqi,rfl⟩⟩:Nonempty {g:tyQ// g= @zqi})).1
theorem zcz:qOf= @zqi:=(Classical.choice (⟨⟨@zqi,rfl⟩⟩:Nonempty {g:tyQ// g= @zqi})).2
@[go_sem ↓]theorem zC4 (Q:Ex->M->Prop) (e:Ex) (m:M):qOf Γ G [] Q e m=Q e m:=by(try unfold wC);(try rw[zbS]);rw[zcz];rfl
@[go_sem ↓]theorem zCA (y:C) (ks:List Kf) (Q:Ex->M->Prop) (m:M):qOf Γ G (.seq y::ks) Q .normal m=wC Γ G y (qOf Γ G ks Q) m ⟨0⟩:=by(try unfold wC);(try rw[zbS]);rw[zcz];rfl
@[go_sem ↓]theorem zCz (y:C) (ks:List Kf) (Q:Ex->M->Prop) (m:M):qOf Γ G (.seq y::ks) Q .ret m=qOf Γ G ks Q .ret m:=by(try unfold wC);(try rw[zbS]);rw[zcz];rfl
@[go_sem ↓]theorem zCy (y:C) (ks:List Kf) (Q:Ex->M->Prop) (m:M) (id:Nat):qOf Γ G (.seq y::ks) Q (.exit id) m=qOf Γ G ks Q (.exit id) m:=by(try unfold wC);(try rw[zbS]);rw[zcz];rfl
@[go_sem ↓]theorem zCD (i:Nat) (ks:List Kf) (Q:Ex->M->Prop) (m:M):qOf Γ G (.blk i::ks) Q .normal m=qOf Γ G ks Q .normal m:=by rw[zcz];simp[zqi,zjI]
@[go_sem ↓]theorem zCC (i:Nat) (ks:List Kf) (Q:Ex->M->Prop) (m:M):qOf Γ G (.blk i::ks) Q .ret m=qOf Γ G ks Q .ret m:=by rw[zcz];simp[zqi,zjI]
structure W6 (P R:Prop)where
 n:Nat
def ifX (b:Bool) (P R:Prop) (_:W6 P R):Prop:=match b with
 | true=>P
 | false=>R
@[go_sem]theorem zC7 (P R:Prop) (w:W6 P R):ifX true P R w=P:=rfl
@[go_sem]theorem zC8 (P R:Prop) (w:W6 P R):ifX false P R w=R:=rfl
@[go_sem ↓]theorem zCB (i id:Nat) (ks:List Kf) (Q:Ex->M->Prop) (m:M):qOf Γ G (.blk i::ks) Q (.exit id) m=ifX (id==i) (qOf Γ G ks Q .normal m) (qOf Γ G ks Q (.exit id) m) ⟨0⟩:=by
 rw[zcz]
 by_cases h:id=i
 ·simp[zqi,zjI,h,ifX]
 ·have:(id==i)=false:=by simpa using h
  simp[zqi,zjI,h,this,ifX]
@[go_sem ↓]theorem zB7 (Q:Ex->M->Prop) (m:M) (w:W3 .skip Q m):wC Γ G .skip Q m w=Q .normal m:=by(try unfold wC wO);(try unfold wC);(try unfold wL);(try rw[zbS]);(try rw[zaX]);(try rw[zfi]);(try rw[zcz]);rfl
@[go_sem ↓]theorem zCS (Q:Ex->M->Prop) (m:M) (w:W3 .ret Q m):wC Γ G .ret Q m w=Q .ret m:=by(try unfold wC wO);(try unfold wC);(try unfold wL);(try rw[zbS]);(try rw[zaX]);(try rw[zfi]);(try rw[zcz]);rfl
@[go_sem ↓]theorem zCg (id:Nat) (Q:Ex->M->Prop) (m:M) (w:W3 (.exit id) Q m):wC Γ G (.exit id) Q m w=Q (.exit id) m:=by(try unfold wC wO);(try unfold wC);(try unfold wL);(try rw[zbS]);(try rw[zaX]);(try rw[zfi]);(try rw[zcz]);rfl
@[go_sem ↓]theorem zzh (d:Bool) (l:List ROp) (Q:Ex->M->Prop) (sl:Nat->Slot) (u:Nat->Bool) (h:Nat->Option O) (n b:Nat) (w:W3 (.region d l) Q ⟨sl,u,h,n,b⟩):
 wC Γ G (.region d l) Q ⟨sl,u,h,n,b⟩ w=wO Γ G d 0 l (Q .normal) ⟨begC sl,fun _=>false,h,addC n l,n⟩ ⟨0⟩:=by(try unfold wC wO);(try unfold wC);(try unfold wL);(try rw[zbS]);(try rw[zaX]);(try rw[zfi]);(try rw[zcz]);rw[zjL,zfQ];rfl
@[go_sem ↓]theorem zCR (x y:C) (ks:List Kf) (Q:Ex->M->Prop) (m:M) (w:W3 (.seq x y) (qOf Γ G ks Q) m):wC Γ G (.seq x y) (qOf Γ G ks Q) m w=wC Γ G x (qOf Γ G (.seq y::ks) Q) m ⟨0⟩:=by(try unfold wC wO);(try unfold wC);(try unfold wL);(try rw[zbS]);(try rw[zaX]);(try rw[zfi]);(try rw[zcz]);rfl
@[go_sem ↓]theorem zCj (t:Nat) (x y:C) (Q:Ex->M->Prop) (sl:Nat->Slot) (u:Nat->Bool) (h:Nat->Option O) (n b:Nat) (w:W3 (.cond (.s t) x y) Q ⟨sl,u,h,n,b⟩):
 wC Γ G (.cond (.s t) x y) Q ⟨sl,u,h,n,b⟩ w=zqN (sl t).v (wC Γ G x Q ⟨sl,u,h,n,b⟩ ⟨0⟩) (wC Γ G y Q ⟨sl,u,h,n,b⟩ ⟨0⟩) ⟨0⟩:=by(try unfold wC wO);(try unfold wC);(try unfold wL);(try rw[zbS]);(try rw[zaX]);(try rw[zfi]);(try rw[zcz]);exact zyl sl u h n b t x y Q
@[go_sem ↓]theorem zBb (id:Nat) (x:C) (ks:List Kf) (Q:Ex->M->Prop) (m:M) (w:W3 (.block id x) (qOf Γ G ks Q) m):wC Γ G (.block id x) (qOf Γ G ks Q) m w=wC Γ G x (qOf Γ G (.blk id::ks) Q) m ⟨0⟩:=by(try unfold wC wO);(try unfold wC);(try unfold wL);(try rw[zbS]);(try rw[zaX]);(try rw[zfi]);(try rw[zcz]);rfl
@[go_sem ↓]theorem zCa (x:C) (Q:Ex->M->Prop) (m:M) (w:W3 (.loop x) Q m):wC Γ G (.loop x) Q m w=wL Γ G x Q m ⟨0⟩:=by(try unfold wC wO);(try unfold wC);(try unfold wL);(try rw[zbS]);(try rw[zaX]);(try rw[zfi]);(try rw[zcz]);rfl
@[go_sem ↓]theorem zAV (K:M->Prop) (Q:Ex->M->Prop) (m:M):zf8 K Q .normal m=K m:=rfl
@[go_sem ↓]theorem zAU (K:M->Prop) (Q:Ex->M->Prop) (m:M):zf8 K Q .ret m=Q .ret m:=rfl
@[go_sem ↓]theorem zAT (K:M->Prop) (Q:Ex->M->Prop) (m:M) (id:Nat):zf8 K Q (.exit id) m=Q (.exit id) m:=rfl
theorem zuV {v:V} {g:Bool} {A B B':Prop} {w:Wit A B} {w':Wit A B'} (h:B=B'):zgj v g A B w=zgj v g A B' w':=by
 subst h;rfl
@[go_sem ↓]theorem zCT (d:Bool) (p:Nat) (Q:M->Prop) (m:M) (w:W4 p [] Q m):wO Γ G d p [] Q m w=Q m:=by unfold wO;rw[zaX];rfl
@[go_sem ↓]theorem zA3 (d:Bool) (p g:Nat) (want:Bool) (t:Nat) (op:AOp) (l:List ROp) (Q:M->Prop) (sl:Nat->Slot) (u:Nat->Bool) (h:Nat->Option O) (n b:Nat)
 (w:W4 p (⟨some (g,want),some t,op⟩::l) Q ⟨sl,u,h,n,b⟩):
 wO Γ G d p (⟨some (g,want),some t,op⟩::l) Q ⟨sl,u,h,n,b⟩ w=zgj (sl g).v want (wO Γ G d p (⟨none,some t,op⟩::l) Q ⟨sl,u,h,n,b⟩ ⟨0⟩)
  (zdr (u t) (some V.undef) (fun v=>wO Γ G d (p+1) l Q ⟨updC sl t ⟨v,none,none⟩,u,h,n,b⟩ ⟨0⟩) ⟨0⟩) ⟨0⟩:=by
 (try rw[zaL (α:=Slot)])
 (try rw[zaL (α:=Bool)])
 (try rw[zek])
 unfold wO;rw[zaX];rw[znU,zbs];refine zuV ?_;simp[M.free,M.apply,zcy,zdr,zbf]
def AOp.isCall:AOp->Bool
 | .call _ _ _=>true
 | .fcall _ _=>true
 | _=>false
theorem zec {d:Bool} {p:Nat} {m:M} {dst:Option Nat} {op:AOp} {K:M->Prop} (hc:op.isCall=false):
 ziE Γ G d p m dst op K=match zaj G p m.st op with | none=>False | some e=>m.free dst e=true/\K (m.apply dst e):=by
 cases op<;>first | rfl | simp[AOp.isCall]at hc
theorem zbW {d:Bool} {p t:Nat} {op:AOp} {l:List ROp} {Q:M->Prop} {sl:Nat->Slot} {u:Nat->Bool} {h:Nat->Option O} {n b:Nat} {w:W4 p (⟨none,some t,op⟩::l) Q ⟨sl,u,h,n,b⟩} {ov:Option V}
 (hc:op.isCall=false) (ha:zaj G p (M.st ⟨sl,u,h,n,b⟩) op=ov.map fun v=>({ val:=v }:Eff)):
 wO Γ G d p (⟨none,some t,op⟩::l) Q ⟨sl,u,h,n,b⟩ w=zdr (u t) ov (fun v=>wO Γ G d (p+1) l Q ⟨updC sl t ⟨v,none,none⟩,u,h,n,b⟩ ⟨0⟩) ⟨0⟩:=by
 (try rw[zaL (α:=Slot)])
 (try rw[zaL (α:=Bool)])
 (try rw[zek])
 unfold wO;rw[zaX];rw[zbs,zec hc,ha]
 cases ov with
 | none=>rfl
 | some v=>simp[M.free,M.apply,zcy,zdr,zbf]
theorem zma {d:Bool} {p t:Nat} {op:AOp} {l:List ROp} {Q:M->Prop} {sl:Nat->Slot} {u:Nat->Bool} {h:Nat->Option O} {n b:Nat} {w:W4 p (⟨none,some t,op⟩::l) Q ⟨sl,u,h,n,b⟩} {ov:Option (V×List (Nat×O))}
 (hc:op.isCall=false) (ha:zaj G p (M.st ⟨sl,u,h,n,b⟩) op=ov.map fun v=>({ val:=v.1,hp:=v.2 }:Eff)):
 wO Γ G d p (⟨none,some t,op⟩::l) Q ⟨sl,u,h,n,b⟩ w=ziX (u t) ov (fun v hp=>wO Γ G d (p+1) l Q ⟨updC sl t ⟨v,none,none⟩,u,At h hp,n,b⟩ ⟨0⟩) ⟨0⟩:=by
 rw[zln (w':=⟨0⟩)]
 (try rw[zaL (α:=Slot)])
 (try rw[zaL (α:=Bool)])
 (try rw[zek])
 unfold wO;rw[zaX];rw[zbs,zec hc,ha]
 cases ov with
 | none=>rfl
 | some v=>simp[M.free,M.apply,zcy,zdr]
theorem zrd {d:Bool} {p:Nat} {op:AOp} {l:List ROp} {Q:M->Prop} {sl:Nat->Slot} {u:Nat->Bool} {h:Nat->Option O} {n b:Nat} {w:W4 p (⟨none,none,op⟩::l) Q ⟨sl,u,h,n,b⟩} {ov:Option (V×List (Nat×O))}
 (hc:op.isCall=false) (ha:zaj G p (M.st ⟨sl,u,h,n,b⟩) op=ov.map fun v=>({ val:=v.1,hp:=v.2 }:Eff)):
 wO Γ G d p (⟨none,none,op⟩::l) Q ⟨sl,u,h,n,b⟩ w=ziX false ov (fun _ hp=>wO Γ G d (p+1) l Q ⟨sl,u,At h hp,n,b⟩ ⟨0⟩) ⟨0⟩:=by
 rw[zln (w':=⟨0⟩)]
 (try rw[zaL (α:=Slot)])
 (try rw[zaL (α:=Bool)])
 (try rw[zek])
 unfold wO;rw[zaX];rw[zbs,zec hc,ha]
 cases ov with
 | none=>rfl
 | some v=>simp[M.free,M.apply,zcy,zdr]
def zBU (op:BinOp):V->V->Option V
 | .t a,.t b=>(zvs op a b).map V.t
 | _,_=>none
def mxS (mn:Bool):V->V->Option V
 | .t a,.t b=>(mxT mn a b).map V.t
 | _,_=>none
def unS (op:UnOp):V->Option V
 | .t a=>(unT op a).map V.t
 | _=>none
def zlT:V->Option Bool
 | .t (.bool b)=>some b
 | _=>none
def zji:V->Option Int
 | .t (.int _ n)=>some n
 | _=>none
def zBN (neg:Bool) (ks:List Nat):V->V->Option V
 | .agg a,.agg b=>(zbh ks a b).map fun r=> .t (.bool (r != neg))
 | _,_=>none
def zuA (h:Nat->Option O) (ag:Bool) (n:Nat):V->Option V
 | .mp k i off=>match h k with
   | some (.rows _ rs _)=>(rs[i]?).bind fun row=>(rd row off n).bind (zb9 ag)
   | _=>none
 | .t (.ip cs)=>(rd cs 0 n).bind fun r=>zb9 ag (r.map V.t)
 | _=>none
def zBw (h:Nat->Option O):V->Option V
 | .mp k i off=>match h k with
   | some (.rows _ _ _)=>some (.mp k i off)
   | _=>none
 | .t (.ip cs)=>some (.t (.ip cs))
 | .fn f a b=>some (.fn f a b)
 | .t (.fn f a b)=>some (.t (.fn f a b))
 | .t (.fa f c)=>some (.t (.fa f c))
 | _=>none
def zsM (h:Nat->Option O) (off:Nat):V->Option V
 | .mp k i o=>match h k with
   | some (.rows _ _ _)=>some (.mp k i (o+off))
   | _=>none
 | .t (.ip cs)=>some (.t (.ip (cs.drop off)))
 | _=>none
def zsI (ag:Bool) (off n:Nat):V->Option V
 | .agg cs=>(rd cs off n).bind (zb9 ag)
 | _=>none
def zlx (h:Nat->Option O) (sz:Nat) (n:Int):V->Option V
 | .t (.sl es)=>if 0<=n then(es[n.toNat]?).bind fun row=>if row.length=sz then some (.t (.ip row))else none else none
 | .t (.slc es)=>if 0<=n then(es[n.toNat]?).bind fun row=>if row.length=sz then some (.t (.ip row))else none else none
 | .ms k j len=>match h k with
   | some (.rows sz' _ _)=>if 0<=n/\n<len/\sz'=sz then some (.mp k (j+n.toNat) 0)else none
   | _=>none
 | _=>none
def zoe (h:Nat->Option O) (len sz:Nat) (n:Int) (v:V):Option V:=
 if 0<=n/\n<len then match v with
  | .mp k j o=>match h k with
    | some (.rows _ _ _)=>some (.mp k j (o+n.toNat*sz))
    | _=>none
  | .t (.ip cs)=>some (.t (.ip (cs.drop (n.toNat*sz))))
  | _=>none
 else none
def zwX (ag:Bool) (len sz:Nat) (n:Int):V->Option V
 | .agg cs=>if 0<=n/\n<len then(rd cs (n.toNat*sz) sz).bind (zb9 ag)else none
 | _=>none
def zw3 (i:Nat):V->Option V
 | .tup cs=>cs[i]?
 | _=>none
def lenS (h:Nat->Option O):V->Option Nat
 | .t .nils=>some 0
 | .t (.sl es)=>some es.length
 | .t (.slc es)=>some es.length
 | .ms k _ len=>match h k with
   | some (.rows _ _ _)=>some len
   | _=>none
 | _=>none
def rowsS (h:Nat->Option O):V->Option (List (List V))
 | .t .nils=>some []
 | .t (.sl es)=>some (es.map (·.map V.t))
 | .t (.slc es)=>some (es.map (·.map V.t))
 | .ms k i len=>match h k with
   | some (.rows _ rs _)=>rd rs i len
   | _=>none
 | _=>none
attribute [go_sem] zBU mxS unS zlT zji zBN zuA zBw zsM zsI zlx zoe zwX zw3
@[go_sem]theorem zyE (h:Nat->Option O):lenS h (.t .nils)=some 0:=rfl
@[go_sem]theorem zBC (h:Nat->Option O) (es:List (List T)):lenS h (.t (.sl es))=some es.length:=rfl
@[go_sem]theorem zBD (h:Nat->Option O) (k i len:Nat):lenS h (.ms k i len)=match h k with
 | some (.rows _ _ _)=>some len
 | _=>none:=rfl
@[go_sem]theorem zxs (h:Nat->Option O):rowsS h (.t .nils)=some []:=rfl
@[go_sem]theorem zzD (h:Nat->Option O) (k i len:Nat):rowsS h (.ms k i len)=match h k with
 | some (.rows _ rs _)=>rd rs i len
 | _=>none:=rfl
variable (G) in
def zdE (sl:Nat->Slot):List Opd->Option (List V)
 | []=>some []
 | x::xs=>ob (zaW G sl x) (fun v=>ob (zdE sl xs) (fun vs=>some (v::vs)) ⟨0⟩) ⟨0⟩
@[go_sem ↓]theorem zyS (sl:Nat->Slot):zdE G sl []=some []:=rfl
@[go_sem ↓]theorem zqJ (sl:Nat->Slot) (x:Opd) (xs:List Opd):zdE G sl (x::xs)=ob (zaW G sl x) (fun v=>ob (zdE G sl xs) (fun vs=>some (v::vs)) ⟨0⟩) ⟨0⟩:=rfl
theorem zgD (sl:Nat->Slot) (u:Nat->Bool) (h:Nat->Option O) (n b:Nat): ∀xs:List Opd,zgE G (M.st ⟨sl,u,h,n,b⟩) xs=zdE G sl xs
 | []=>rfl
 | x::xs=>by
   rw[zgE,zqJ,za2,zgD sl u h n b xs];rfl
theorem zds (sl:Nat->Slot) (u:Nat->Bool) (h:Nat->Option O) (n b:Nat) (x:Opd):zex G (M.st ⟨sl,u,h,n,b⟩) x=(zaW G sl x).bind zji:=by
 rw[zex,za2]
 cases zaW G sl x with
 | none=>rfl
 | some v=>cases v with
   | t x=>cases x<;>rfl
   | _=>rfl
theorem zm9 (sl:Nat->Slot) (u:Nat->Bool) (h:Nat->Option O) (n b:Nat) (x:Opd):zd5 G (M.st ⟨sl,u,h,n,b⟩) x=(zaW G sl x).bind zlT:=by
 rw[zd5,za2]
 cases zaW G sl x with
 | none=>rfl
 | some v=>cases v with
   | t x=>cases x<;>rfl
   | _=>rfl
variable (d:Bool) (p:Nat) (l:List ROp) (Q:M->Prop) (sl:Nat->Slot) (u:Nat->Bool) (h:Nat->Option O) (n b:Nat)
@[go_sem ↓]theorem zFm (t:Nat) (x:Opd) (w:W4 _ _ _ _):
 wO Γ G d p (⟨none,some t,.mv x⟩::l) Q ⟨sl,u,h,n,b⟩ w=zdr (u t) (zaW G sl x) (fun v=>wO Γ G d (p+1) l Q ⟨updC sl t ⟨v,none,none⟩,u,h,n,b⟩ ⟨0⟩) ⟨0⟩:=by
 refine zbW rfl ?_;simp only[zaj,za2];cases zaW G sl x<;>rfl
@[go_sem ↓]theorem zzj (t:Nat) (x:Opd) (w:W4 _ _ _ _):
 wO Γ G d p (⟨none,some t,.nilchk x⟩::l) Q ⟨sl,u,h,n,b⟩ w=zdr (u t) (ob (zaW G sl x) (zBw h) ⟨0⟩) (fun v=>wO Γ G d (p+1) l Q ⟨updC sl t ⟨v,none,none⟩,u,h,n,b⟩ ⟨0⟩) ⟨0⟩:=by
 refine zbW rfl ?_;simp only[zaj,za2,ob]
 cases zaW G sl x with
 | none=>rfl
 | some v=>cases v with
   | mp k i off=>simp only[zC,zD,zBw,M.st];cases h k with
     | none=>rfl
     | some o=>cases o<;>rfl
   | t x=>cases x<;>rfl
   | _=>rfl
@[go_sem ↓]theorem zCZ (t:Nat) (op:BinOp) (x y:Opd) (w:W4 _ _ _ _):
 wO Γ G d p (⟨none,some t,.bin op x y⟩::l) Q ⟨sl,u,h,n,b⟩ w=zdr (u t) (ob (zaW G sl x) (fun a=>ob (zaW G sl y) (zBU op a) ⟨0⟩) ⟨0⟩) (fun v=>wO Γ G d (p+1) l Q ⟨updC sl t ⟨v,none,none⟩,u,h,n,b⟩ ⟨0⟩) ⟨0⟩:=by
 refine zbW rfl ?_;simp only[zaj,za2,ob]
 cases zaW G sl x with
 | none=>rfl
 | some v=>cases zaW G sl y with
   | none=>rfl
   | some v'=>cases v<;>cases v'<;>simp only[zC,zD,zBU,Option.map_none]
              rename_i a c;cases zvs op a c<;>rfl
@[go_sem ↓]theorem zFl (t:Nat) (mn:Bool) (x y:Opd) (w:W4 _ _ _ _):
 wO Γ G d p (⟨none,some t,.mx mn x y⟩::l) Q ⟨sl,u,h,n,b⟩ w=zdr (u t) (ob (zaW G sl x) (fun a=>ob (zaW G sl y) (mxS mn a) ⟨0⟩) ⟨0⟩) (fun v=>wO Γ G d (p+1) l Q ⟨updC sl t ⟨v,none,none⟩,u,h,n,b⟩ ⟨0⟩) ⟨0⟩:=by
 refine zbW rfl ?_;simp only[zaj,za2,ob]
 cases zaW G sl x with
 | none=>rfl
 | some v=>cases zaW G sl y with
   | none=>rfl
   | some v'=>cases v<;>cases v'<;>simp only[zC,zD,mxS,Option.map_none]
              rename_i a c;cases mxT mn a c<;>rfl
@[go_sem ↓]theorem zFk (t:Nat) (op:UnOp) (x:Opd) (w:W4 _ _ _ _):
 wO Γ G d p (⟨none,some t,.un op x⟩::l) Q ⟨sl,u,h,n,b⟩ w=zdr (u t) (ob (zaW G sl x) (unS op) ⟨0⟩) (fun v=>wO Γ G d (p+1) l Q ⟨updC sl t ⟨v,none,none⟩,u,h,n,b⟩ ⟨0⟩) ⟨0⟩:=by
 refine zbW rfl ?_;simp only[zaj,za2,ob]
 cases zaW G sl x with
 | none=>rfl
 | some v=>cases v<;>simp only[zC,zD,unS,Option.map_none]
           rename_i a;cases unT op a<;>rfl
@[go_sem ↓]theorem zCX (t:Nat) (neg:Bool) (x y:Opd) (w:W4 _ _ _ _):
 wO Γ G d p (⟨none,some t,.eqb neg x y⟩::l) Q ⟨sl,u,h,n,b⟩ w=zdr (u t) (ob (zaW G sl x) (fun a=>ob (zlT a) (fun a=>ob (zaW G sl y) (fun b=>ob (zlT b) (fun b=>some (.t (.bool ((a==b) != neg)))) ⟨0⟩) ⟨0⟩) ⟨0⟩) ⟨0⟩) (fun v=>wO Γ G d (p+1) l Q ⟨updC sl t ⟨v,none,none⟩,u,h,n,b⟩ ⟨0⟩) ⟨0⟩:=by
 refine zbW rfl ?_;simp only[zaj,zm9,ob]
 cases zaW G sl x with
 | none=>rfl
 | some v=>simp only[zC,zD];cases zlT v with
   | none=>rfl
   | some a=>cases zaW G sl y with
     | none=>rfl
     | some v'=>simp only[zC,zD];cases zlT v'<;>rfl
@[go_sem ↓]theorem zCi (t:Nat) (k:IntKind) (x:Opd) (w:W4 _ _ _ _):
 wO Γ G d p (⟨none,some t,.conv k x⟩::l) Q ⟨sl,u,h,n,b⟩ w=zdr (u t) (ob (zaW G sl x) (fun v=>ob (zji v) (fun n=>some (.t (.int k (k.wrap n)))) ⟨0⟩) ⟨0⟩) (fun v=>wO Γ G d (p+1) l Q ⟨updC sl t ⟨v,none,none⟩,u,h,n,b⟩ ⟨0⟩) ⟨0⟩:=by
 refine zbW rfl ?_;simp only[zaj,zds,ob]
 cases zaW G sl x with
 | none=>rfl
 | some v=>simp only[zC,zD];cases zji v<;>rfl
@[go_sem ↓]theorem zCb (t:Nat) (ag:Bool) (k:Nat) (x:Opd) (w:W4 _ _ _ _):
 wO Γ G d p (⟨none,some t,.load ag k x⟩::l) Q ⟨sl,u,h,n,b⟩ w=zdr (u t) (ob (zaW G sl x) (zuA h ag k) ⟨0⟩) (fun v=>wO Γ G d (p+1) l Q ⟨updC sl t ⟨v,none,none⟩,u,h,n,b⟩ ⟨0⟩) ⟨0⟩:=by
 refine zbW rfl ?_;simp only[zaj,za2,ob]
 cases zaW G sl x with
 | none=>rfl
 | some v=>cases v with
   | mp j i off=>simp only[zC,zD,zuA,M.st];cases h j with
     | none=>rfl
     | some o=>cases o with
       | rows s rs z=>
         simp only
         cases rs[i]? with
         | none=>rfl
         | some row=>simp only[zD];cases rd row off k with
           | none=>rfl
           | some r=>simp only[zD];cases zb9 ag r<;>rfl
       | _=>rfl
   | t x=>cases x with
     | ip cs=>simp only[zC,zD,zuA];cases rd cs 0 k with
       | none=>rfl
       | some r=>simp only[zD];cases zb9 ag (r.map V.t)<;>rfl
     | _=>rfl
   | _=>rfl
@[go_sem ↓]theorem zA8 (t:Nat) (off:Nat) (x:Opd) (w:W4 _ _ _ _):
 wO Γ G d p (⟨none,some t,.faddr off x⟩::l) Q ⟨sl,u,h,n,b⟩ w=zdr (u t) (ob (zaW G sl x) (zsM h off) ⟨0⟩) (fun v=>wO Γ G d (p+1) l Q ⟨updC sl t ⟨v,none,none⟩,u,h,n,b⟩ ⟨0⟩) ⟨0⟩:=by
 refine zbW rfl ?_;simp only[zaj,za2,ob]
 cases zaW G sl x with
 | none=>rfl
 | some v=>cases v with
   | mp k i o=>simp only[zC,zD,zsM,M.st];cases h k with
     | none=>rfl
     | some o=>cases o<;>rfl
   | t x=>cases x<;>rfl
   | _=>rfl
@[go_sem ↓]theorem zzm (t:Nat) (sz:Nat) (x i:Opd) (w:W4 _ _ _ _):
 wO Γ G d p (⟨none,some t,.iaddrS sz x i⟩::l) Q ⟨sl,u,h,n,b⟩ w=zdr (u t) (ob (zaW G sl i) (fun v=>ob (zji v) (fun k=>ob (zaW G sl x) (zlx h sz k) ⟨0⟩) ⟨0⟩) ⟨0⟩) (fun v=>wO Γ G d (p+1) l Q ⟨updC sl t ⟨v,none,none⟩,u,h,n,b⟩ ⟨0⟩) ⟨0⟩:=by
 refine zbW rfl ?_;simp only[zaj,za2,zds,ob]
 cases zaW G sl i with
 | none=>rfl
 | some v=>simp only[zC,zD];cases zji v with
   | none=>rfl
   | some k=>cases zaW G sl x with
     | none=>rfl
     | some v=>cases v with
       | ms q j len=>simp only[zD,zlx,M.st];cases h q with
         | none=>rfl
         | some o=>cases o with
           | rows s rs z=>simp only;split<;>rfl
           | _=>rfl
       | t x=>cases x with
         | sl es=>
           simp only[zD,zlx];split
           ·cases es[k.toNat]? with
            | none=>rfl
            | some row=>simp only[zD];split<;>rfl
           ·rfl
         | slc es=>
           simp only[zD,zlx];split
           ·cases es[k.toNat]? with
            | none=>rfl
            | some row=>simp only[zD];split<;>rfl
           ·rfl
         | _=>rfl
       | _=>rfl
@[go_sem ↓]theorem zzn (t:Nat) (len sz:Nat) (x i:Opd) (w:W4 _ _ _ _):
 wO Γ G d p (⟨none,some t,.iaddrA len sz x i⟩::l) Q ⟨sl,u,h,n,b⟩ w=zdr (u t) (ob (zaW G sl i) (fun v=>ob (zji v) (fun k=>ob (zaW G sl x) (zoe h len sz k) ⟨0⟩) ⟨0⟩) ⟨0⟩) (fun v=>wO Γ G d (p+1) l Q ⟨updC sl t ⟨v,none,none⟩,u,h,n,b⟩ ⟨0⟩) ⟨0⟩:=by
 refine zbW rfl ?_;simp only[zaj,za2,zds,ob]
 cases zaW G sl i with
 | none=>rfl
 | some v=>simp only[zC,zD];cases zji v with
   | none=>rfl
   | some k=>cases zaW G sl x with
     | none=>simp
     | some v=>simp only[zD,zoe];split
               ·cases v with
                | mp q j o=>simp only[M.st];cases h q with
                  | none=>rfl
                  | some o=>cases o<;>rfl
                | t x=>cases x<;>rfl
                | _=>rfl
               ·rfl
@[go_sem ↓]theorem zCd (t:Nat) (ag:Bool) (len sz:Nat) (x i:Opd) (w:W4 _ _ _ _):
 wO Γ G d p (⟨none,some t,.idxA ag len sz x i⟩::l) Q ⟨sl,u,h,n,b⟩ w=zdr (u t) (ob (zaW G sl i) (fun v=>ob (zji v) (fun k=>ob (zaW G sl x) (zwX ag len sz k) ⟨0⟩) ⟨0⟩) ⟨0⟩) (fun v=>wO Γ G d (p+1) l Q ⟨updC sl t ⟨v,none,none⟩,u,h,n,b⟩ ⟨0⟩) ⟨0⟩:=by
 refine zbW rfl ?_;simp only[zaj,za2,zds,ob]
 cases zaW G sl i with
 | none=>rfl
 | some v=>simp only[zC,zD];cases zji v with
   | none=>rfl
   | some k=>cases zaW G sl x with
     | none=>rfl
     | some v=>cases v with
       | agg cs=>
         simp only[zD,zwX];split
         ·cases rd cs (k.toNat*sz) sz with
          | none=>rfl
          | some r=>simp only[zD];cases zb9 ag r<;>rfl
         ·rfl
       | _=>rfl
@[go_sem ↓]theorem zCf (t:Nat) (x:Opd) (i:Nat) (w:W4 _ _ _ _):
 wO Γ G d p (⟨none,some t,.extr x i⟩::l) Q ⟨sl,u,h,n,b⟩ w=zdr (u t) (ob (zaW G sl x) (zw3 i) ⟨0⟩) (fun v=>wO Γ G d (p+1) l Q ⟨updC sl t ⟨v,none,none⟩,u,h,n,b⟩ ⟨0⟩) ⟨0⟩:=by
 refine zbW rfl ?_;simp only[zaj,za2,ob]
 cases zaW G sl x with
 | none=>rfl
 | some v=>cases v with
   | tup cs=>simp only[zC,zD,zw3];cases cs[i]? <;>rfl
   | _=>rfl
theorem zlw (sl:Nat->Slot) (u:Nat->Bool) (h:Nat->Option O) (n b:Nat) (v:V):lenOf (M.st ⟨sl,u,h,n,b⟩) v=lenS h v:=by
 cases v with
 | t x=>cases x<;>rfl
 | ms k i len=>simp only[lenOf,lenS,M.st];cases h k with
   | none=>rfl
   | some o=>cases o<;>rfl
 | _=>rfl
theorem ziP (sl:Nat->Slot) (u:Nat->Bool) (h:Nat->Option O) (n b:Nat) (v:V):zdw (M.st ⟨sl,u,h,n,b⟩) v=rowsS h v:=by
 cases v with
 | t x=>cases x<;>rfl
 | ms k i len=>simp only[zdw,rowsS,M.st];cases h k with
   | none=>rfl
   | some o=>cases o<;>rfl
 | _=>rfl
@[go_sem ↓]theorem zCU (t:Nat) (x:Opd) (w:W4 _ _ _ _):
 wO Γ G d p (⟨none,some t,.len x⟩::l) Q ⟨sl,u,h,n,b⟩ w=zdr (u t) (ob (zaW G sl x) (fun v=>ob (lenS h v) (fun k=>some (.t (.int .i64 k))) ⟨0⟩) ⟨0⟩) (fun v=>wO Γ G d (p+1) l Q ⟨updC sl t ⟨v,none,none⟩,u,h,n,b⟩ ⟨0⟩) ⟨0⟩:=by
 refine zbW rfl ?_;simp only[zaj,za2,ob,zlw]
 cases zaW G sl x with
 | none=>rfl
 | some v=>simp only[zC,zD];cases lenS h v<;>rfl
def zCO (v:V):Option V:=match v with
 | .t .nils=>some (.t (.int .i64 0))
 | _=>none
@[go_sem]theorem zCN:zCO (.t .nils)=some (.t (.int .i64 0)):=rfl
@[go_sem ↓]theorem zCk (t:Nat) (x:Opd) (w:W4 _ _ _ _):
 wO Γ G d p (⟨none,some t,.capN x⟩::l) Q ⟨sl,u,h,n,b⟩ w=zdr (u t) (ob (zaW G sl x) zCO ⟨0⟩) (fun v=>wO Γ G d (p+1) l Q ⟨updC sl t ⟨v,none,none⟩,u,h,n,b⟩ ⟨0⟩) ⟨0⟩:=by
 refine zbW rfl ?_;simp only[zaj,za2,ob]
 cases zaW G sl x with
 | none=>rfl
 | some v=>cases v with
   | t x=>cases x<;>rfl
   | _=>rfl
def zxc (o:Option V) (A B:Prop) (w:Wit A B):Prop:=match o with
 | some v=>zqN v A B w
 | none=>False
@[go_sem]theorem zBS (b:Bool) (A B:Prop) (w:Wit A B):zxc (some (.t (.bool b))) A B w=zfJ b A B w:=rfl
@[go_sem ↓]theorem zB8 (t:Nat) (c x y:Opd) (w:W4 _ _ _ _):
 wO Γ G d p (⟨none,some t,.pick c x y⟩::l) Q ⟨sl,u,h,n,b⟩ w=zxc (zaW G sl c)
  (zdr (u t) (zaW G sl x) (fun v=>wO Γ G d (p+1) l Q ⟨updC sl t ⟨v,none,none⟩,u,h,n,b⟩ ⟨0⟩) ⟨0⟩)
  (zdr (u t) (zaW G sl y) (fun v=>wO Γ G d (p+1) l Q ⟨updC sl t ⟨v,none,none⟩,u,h,n,b⟩ ⟨0⟩) ⟨0⟩) ⟨0⟩:=by
 rw[zbW (ov:=((zaW G sl c).bind zlT).bind fun t=>zaW G sl (if t then x else y)) rfl (by
  simp only[zaj,za2,zm9]
  cases(zaW G sl c).bind zlT with
  | none=>rfl
  | some v=>simp only[zC,zD];cases zaW G sl (if v=true then x else y)<;>rfl)]
 cases zaW G sl c with
 | none=>rfl
 | some v=>cases v with
   | t z=>cases z with
     | bool z=>cases z<;>simp[zxc,zqN,zfJ,zlT]
     | _=>rfl
   | _=>rfl
@[go_sem ↓]theorem zzt (t:Nat) (cs:List V) (w:W4 _ _ _ _):
 wO Γ G d p (⟨none,some t,.allocL cs⟩::l) Q ⟨sl,u,h,n,b⟩ w=zdr (u t) (some cs) (fun cs=>wO Γ G d (p+1) l Q ⟨updC sl t ⟨.lb,some cs,none⟩,u,h,n,b⟩ ⟨0⟩) ⟨0⟩:=by
 (try rw[zaL (α:=Slot)])
 (try rw[zaL (α:=Bool)])
 (try rw[zek])
 unfold wO;rw[zaX];rw[zbs,zec rfl];simp[zaj,M.free,M.apply,zcy,zdr,zbf]
@[go_sem ↓]theorem zCn (t k:Nat) (x:Opd) (w:W4 _ _ _ _):
 wO Γ G d p (⟨none,some t,.boxL k x⟩::l) Q ⟨sl,u,h,n,b⟩ w=zdr (u t) (ob (zaW G sl x) (fun v=>ob v.cells (fun cs=>if cs.length=k then some cs else none) ⟨0⟩) ⟨0⟩)
  (fun cs=>wO Γ G d (p+1) l Q ⟨updC sl t ⟨.lb,some cs,none⟩,u,h,n,b⟩ ⟨0⟩) ⟨0⟩:=by
 (try rw[zaL (α:=Slot)])
 (try rw[zaL (α:=Bool)])
 (try rw[zek])
 unfold wO;rw[zaX];rw[zbs,zec rfl];simp only[zaj,za2,ob]
 cases zaW G sl x with
 | none=>rfl
 | some v=>
   simp only[zC,zD]
   cases v.cells with
   | none=>rfl
   | some cs=>
     simp only[zD]
     by_cases hk:cs.length=k
     ·simp[M.free,M.apply,zcy,zdr,zbf,hk]
     ·simp[zdr,hk]
def zvI {β:Type} (ad:Option (Nat×Nat)) (v:V) (t:Nat) (K:Nat->Nat->Option β) (_:WK K):Option β:=match ad with
 | some r=>K r.1 r.2
 | none=>match v with
   | .lb=>K t 0
   | _=>none
@[go_sem]theorem zyh {β:Type} (a o:Nat) (v:V) (t:Nat) (K:Nat->Nat->Option β) (w:WK K):zvI (some (a,o)) v t K w=K a o:=rfl
@[go_sem]theorem zBq {β:Type} (t:Nat) (K:Nat->Nat->Option β) (w:WK K):zvI none .lb t K w=K t 0:=rfl
theorem zlj (sl:Nat->Slot) (u:Nat->Bool) (h:Nat->Option O) (n b t:Nat) {β:Type} (K:Nat->Nat->Option β) (w:WK K):
 ((zd8 (M.st ⟨sl,u,h,n,b⟩) (.s t)).bind fun r=>K r.1 r.2)=zvI (sl t).ad (sl t).v t K w:=by
 simp only[zd8,M.st,zvI]
 cases(sl t).ad with
 | some r=>rfl
 | none=>cases(sl t).v<;>rfl
@[go_sem ↓]theorem zA2 (t:Nat) (ag:Bool) (k a:Nat) (w:W4 _ _ _ _):
 wO Γ G d p (⟨none,some t,.loadL ag k (.s a)⟩::l) Q ⟨sl,u,h,n,b⟩ w=zdr (u t) (zvI (sl a).ad (sl a).v a (fun r off=>ob (sl r).box (fun cs=>ob (rd cs off k) (zb9 ag) ⟨0⟩) ⟨0⟩) ⟨0⟩) (fun v=>wO Γ G d (p+1) l Q ⟨updC sl t ⟨v,none,none⟩,u,h,n,b⟩ ⟨0⟩) ⟨0⟩:=by
 refine zbW rfl ?_;rw[<- zlj sl u h n b a];simp only[zaj,ob]
 cases zd8 (M.st ⟨sl,u,h,n,b⟩) (.s a)with
 | none=>rfl
 | some r=>
   simp only[zC,zD,M.st]
   cases(sl r.1).box with
   | none=>rfl
   | some cs=>simp only[zD];cases rd cs r.2 k with
     | none=>rfl
     | some x=>simp only[zD];cases zb9 ag x<;>rfl
@[go_sem ↓]theorem zzf (k a:Nat) (x:Opd) (w:W4 _ _ _ _):
 wO Γ G d p (⟨none,none,.storeL k (.s a) x⟩::l) Q ⟨sl,u,h,n,b⟩ w=
  zyq (zvI (sl a).ad (sl a).v a (fun r off=>ob (sl r).box (fun cs=>ob (zaW G sl x) (fun v=>ob v.cells (fun new=>if new.length=k then ob (wr cs off new) (fun cs'=>some (r,(sl r).v,cs',(sl r).ad)) ⟨0⟩else none) ⟨0⟩) ⟨0⟩) ⟨0⟩) ⟨0⟩)
   (fun r v cs ad=>wO Γ G d (p+1) l Q ⟨updC sl r ⟨v,some cs,ad⟩,u,h,n,b⟩ ⟨0⟩) ⟨0⟩:=by
 (try rw[zaL (α:=Slot)])
 (try rw[zaL (α:=Bool)])
 (try rw[zek])
 unfold wO;rw[zaX];rw[zbs,zec rfl,<- zlj sl u h n b a];simp only[zaj,ob,za2]
 cases zd8 (M.st ⟨sl,u,h,n,b⟩) (.s a)with
 | none=>rfl
 | some r=>
   simp only[zC,zD,M.st]
   cases(sl r.1).box with
   | none=>rfl
   | some cs=>simp only[zD];cases zaW G sl x with
     | none=>rfl
     | some v=>simp only[zD];cases v.cells with
       | none=>rfl
       | some new=>
         simp only[zD]
         by_cases hk:new.length=k
         ·cases wr cs r.2 new with
          | none=>simp[zyq,hk]
          | some cs'=>simp[M.free,M.apply,zcy,zyq,zbf,hk]
         ·simp[zyq,hk]
@[go_sem ↓]theorem zzo (t off a:Nat) (w:W4 _ _ _ _):
 wO Γ G d p (⟨none,some t,.faddrL off (.s a)⟩::l) Q ⟨sl,u,h,n,b⟩ w=
  ziX (u t) (zvI (sl a).ad (sl a).v a (fun r o=>if(sl r).box.isSome=true/\r≠t then some (r,o+off)else none) ⟨0⟩)
   (fun r o=>wO Γ G d (p+1) l Q ⟨updC sl t ⟨.lb,none,some (r,o)⟩,updC u r true,h,n,b⟩ ⟨0⟩) ⟨0⟩:=by
 rw[zln (w':=⟨0⟩)]
 (try rw[zaL (α:=Slot)])
 (try rw[zaL (α:=Bool)])
 (try rw[zek])
 unfold wO;rw[zaX];rw[zbs,zec rfl,<- zlj sl u h n b a];simp only[zaj]
 cases zd8 (M.st ⟨sl,u,h,n,b⟩) (.s a)with
 | none=>rfl
 | some r=>
   simp only[zC,zD,M.st]
   cases(sl r.1).box with
   | none=>simp[zdr]
   | some cs=>
     simp only[zD,Option.isSome_some,true_and]
     by_cases DM:r.1=t
     ·simp[M.free,zdr,DM]
     ·simp[M.free,M.apply,zcy,zdr,zbf,DM]
@[go_sem ↓]theorem zxG (t len sz a:Nat) (i:Opd) (w:W4 _ _ _ _):
 wO Γ G d p (⟨none,some t,.iaddrAL len sz (.s a) i⟩::l) Q ⟨sl,u,h,n,b⟩ w=
  ziX (u t) (ob (zaW G sl i) (fun v=>ob (zji v) (fun k=>zvI (sl a).ad (sl a).v a (fun r o=>if(sl r).box.isSome=true/\r≠t/\0<=k/\k<len then some (r,o+k.toNat*sz)else none) ⟨0⟩) ⟨0⟩) ⟨0⟩)
   (fun r o=>wO Γ G d (p+1) l Q ⟨updC sl t ⟨.lb,none,some (r,o)⟩,updC u r true,h,n,b⟩ ⟨0⟩) ⟨0⟩:=by
 rw[zln (w':=⟨0⟩)]
 (try rw[zaL (α:=Slot)])
 (try rw[zaL (α:=Bool)])
 (try rw[zek])
 unfold wO;rw[zaX];rw[zbs,zec rfl];simp only[zaj,ob,zds]
 cases zaW G sl i with
 | none=>rfl
 | some v=>
   simp only[zC,zD]
   cases zji v with
   | none=>rfl
   | some k=>
     simp only[zD];rw[<- zlj sl u h n b a]
     cases zd8 (M.st ⟨sl,u,h,n,b⟩) (.s a)with
     | none=>rfl
     | some r=>
       simp only[zD,M.st]
       cases(sl r.1).box with
       | none=>simp[zdr]
       | some cs=>
         simp only[zD,Option.isSome_some,true_and]
         by_cases DM:r.1=t
         ·by_cases hk:0<=k/\k<len
          ·simp[M.free,zdr,DM,hk]
          ·simp[M.free,zdr,DM,hk]
         ·by_cases hk:0<=k/\k<len
          ·simp[M.free,M.apply,zcy,zdr,zbf,DM,hk]
          ·have : ¬(r.1≠t/\0<=k/\k<len):=fun h=>hk h.2
           rw[if_neg hk,if_neg this];rfl
end
end Rg
end
