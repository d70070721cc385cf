/- Part of the proof of laws of relyguardtop. No condition. -/
import Derived.Test.YtoidcnbdndioaaaGreatDoorKartAC
import Derived.RangeFuncLeaves
set_option linter.unusedVariables false
set_option linter.unusedSimpArgs false
section
namespace Rg
open Go
def World.setMap (w:World) (r:Nat) (ob:Go.Obj):World:={ w with heap:=w.heap.setIfInBounds r ob }
theorem zy3 {x y:ByteArray} (h:(x==y)=true):x=y:=by
 cases x;cases y;exact congrArg ByteArray.mk (eq_of_beq h)
section
variable {P:Program} {w:World}
theorem zfX {r n:Nat} {ms:Array MapEntry} (h:w.heap[r]? =some (.map ms n)):(getObj r).run P w= .ok (.map ms n) w:=by
 simp only[getObj,Sem.run,h]
theorem zkn {r n:Nat} {ms:Array MapEntry} (ob:Go.Obj) (h:w.heap[r]? =some (.map ms n)):(setObj r ob).run P w= .ok () (World.setMap w r ob):=by
 simp only[setObj,Sem.run,h];rfl
def zfv:TypeDesc->Option Nat
 | .int _=>some 0
 | .bool=>some 1
 | .string=>some 2
 | _=>none
def T.kind:T->Option Nat
 | .int _ _=>some 0
 | .bool _=>some 1
 | .str _=>some 2
 | _=>none
theorem zgQ {t:TypeId} {k:Nat} {b:Bool} {n:Nat} {v:Value} (hk:zdA P t=some k):(Instr.checkKey b (n+1) t v).run P w= .ok () w:=by
 unfold zdA at hk;split at hk<;>(try simp at hk)
 all_goals(rename_i hu;simp[Instr.checkKey,zau hu])
end
def ztx (P:Program) (t:TypeId) (kd:Nat):Prop:=(∃d,P.underlying t=some d/\zfv d=some kd/\zdA P t=some kd)\/ ∃ks,zdB P t=some ks/\kd=3+zjh ks
def zvy (k:T) (kd:Nat):Prop:=k.kind=some kd\/ ∃ts,k= .sl [ts]/\kd=3+zjh (ts.map T.kindN)
theorem zmX: ∀{a b:List Nat},(∀x∈a,x<=2)->(∀x∈b,x<=2)->zjh a=zjh b->a=b
 | [],[],_,_,_=>rfl
 | [],_::_,_,_,h=>by simp only[zjh]at h;omega
 | _::_,[],_,_,h=>by simp only[zjh]at h;omega
 | x::a,y::b,ha,hb,h=>by
   have h1:=ha x (by simp);have h2:=hb y (by simp);simp only[zjh]at h;have h3:x=y:=by omega
   rw[h3,zmX (a:=a) (b:=b) (fun z hz=>ha z (by simp[hz])) (fun z hz=>hb z (by simp[hz])) (by omega)]
theorem zsm {P:Program} {t:TypeId} {k:Nat} (h:zdA P t=some k):k<=2:=by
 unfold zdA at h;split at h<;>simp at h<;>omega
theorem zpe {P:Program}: ∀{fs:List Field} {i:Nat} {ks:List Nat},zbu P i fs=some ks-> ∀k∈ks,k<=2
 | [],i,ks,h=>by simp only[zbu,zA]at h;subst h;simp
 | f::fs,i,ks,h=>by
   simp only[zbu,zC,zB]at h;obtain⟨k,hk,ks',Dn,h⟩:=h;split at h
   ·simp only[zA]at h;subst h;intro x hx;rcases List.mem_cons.1 hx with rfl | hx
    ·exact zsm hk
    ·exact zpe Dn x hx
   ·cases h
theorem zqk {P:Program} {t:TypeId} {ks:List Nat} (h:zdB P t=some ks): ∀k∈ks,k<=2:=by
 unfold zdB at h;split at h
 ·split at h
  ·exact zpe h
  ·cases h
 ·cases h
theorem zuC (ts:List T): ∀k∈ts.map T.kindN,k<=2:=by
 intro k hk;obtain⟨t,_,rfl⟩:=List.mem_map.1 hk;cases t<;>simp[T.kindN]
theorem zmU: ∀{ts us:List T} {b:Bool},zfw ts us=some b->zbh (ts.map T.kindN) (ts.map V.t) (us.map V.t)=some b
 | [],[],b,h=>h
 | [],_::_,b,h=>by simp[zfw]at h
 | _::_,[],b,h=>by simp[zfw]at h
 | t::ts,u::us,b,h=>by
   simp only[zfw,zC,zB,zA]at h;obtain⟨c,hc,r,hr,rfl⟩:=h;have ih:=zmU hr;simp only[List.map_cons,zbh,ih,zC]
   have h1:zg6 t.kindN (.t t) (.t u)=some c:=by
    unfold zsp at hc;split at hc
    ·split at hc
     ·rename_i hk;subst hk;simpa[zg6,T.kindN]using hc
     ·cases hc
    ·rename_i a b;simp only[zA]at hc;subst hc;simp only[zg6,T.kindN,if_true];rw[ByteArray.toList_eq,ByteArray.toList_eq];show some (a.data.toList==b.data.toList)=some (a.data==b.data);rw[Array.beq_toList]
    ·simp only[zA]at hc;subst hc;simp[zg6,T.kindN]
    ·cases hc
   rw[h1];rfl
theorem zjg: ∀{ts us:List T} {vs ws:List Value},zcB ts=some vs->zcB us=some ws->zfw ts us=some true->vs=ws
 | [],[],vs,ws,hv,hw,_=>by simp only[zcB,zA]at hv hw;rw[<- hv,<- hw]
 | [],_::_,_,_,_,_,h=>by simp[zfw]at h
 | _::_,[],_,_,_,_,h=>by simp[zfw]at h
 | t::ts,u::us,vs,ws,hv,hw,h=>by
   simp only[zfw,zC,zB,zA,zF]at h;obtain⟨c,hc,r,hr,Gc,Iw⟩:=h;subst Gc Iw;simp only[zcB,zB,zE]at hv hw;obtain⟨v,AX,vs',DT,rfl⟩:=hv;obtain⟨z,Cj,ws',BO,rfl⟩:=hw;have ih:=zjg DT BO hr
   have h1:v=z:=by
    unfold zsp at hc;split at hc
    ·split at hc
     ·rename_i hk;simp only[zA,beq_iff_eq]at hc;simp only[zgA,zA]at AX Cj;rw[<- AX,<- Cj,hk,hc]
     ·cases hc
    ·simp only[zA]at hc;have:=zy3 hc;simp only[zgA,zA]at AX Cj;rw[<- AX,<- Cj,this]
    ·simp only[zA,beq_iff_eq]at hc;simp only[zgA,zA]at AX Cj;rw[<- AX,<- Cj,hc]
    ·cases hc
   rw[h1,ih]
theorem ze7 {w:World} {A:Nat->Prop} {nm μ:Nat->Nat} {H:Nat->Option O}: ∀{ts:List T} {vs:List Value},zcB ts=some vs->zfk w A nm μ H vs (ts.map V.t)
 | [],vs,h=>by simp only[zcB,zA]at h;subst h;exact⟨rfl,fun i c h=>by simp at h⟩
 | t::ts,vs,h=>by
   simp only[zcB,zB,zE]at h;obtain⟨v,hv,vs',Au,rfl⟩:=h;obtain⟨i1,i2⟩:=ze7 (w:=w) (A:=A) (nm:=nm) (μ:=μ) (H:=H) Au;refine⟨by simpa using i1,fun i c hc=> ?_⟩
   cases i with
   | zero=>
     simp only[List.map_cons,List.getElem?_cons_zero,zA]at hc;subst hc;refine⟨v,rfl,?_⟩;cases t<;>simp[zgA]at hv<;>subst hv
     ·exact .t (.int _ _)
     ·exact .t (.bool _)
     ·exact .t (.str _)
   | succ i=>exact i2 i c (by simpa using hc)
theorem zg9 {w:World} {A:Nat->Prop} {nm μ:Nat->Nat} {H:Nat->Option O}: ∀{cs:List V} {vs:List Value} {ts:List T},zfk w A nm μ H vs cs->zg2 cs=some ts->zcB ts=some vs
 | [],vs,ts,hr,h=>by
   simp only[zg2,zA]at h;subst h;have:vs=[]:=by simpa using hr.1
   subst this;rfl
 | c::cs,vs,ts,hr,h=>by
   simp only[zg2,zC,zB,zA]at h;obtain⟨t,ht,ts',FR,rfl⟩:=h
   cases vs with
   | nil=>have:=hr.1;simp at this
   | cons v vs=>
     have ih:=zg9 (cs:=cs) (vs:=vs) ⟨by simpa using hr.1,fun i x hx=>by simpa using hr.2 (i+1) x (by simpa using hx)⟩ FR;obtain⟨v',BQ,E5⟩:=hr.2 0 c rfl;simp only[List.getElem?_cons_zero,zA]at BQ;subst BQ
     have h1:zgA t=some v:=by
      unfold zsq at ht;split at ht
      ·simp only[zA]at ht;subst ht;cases E5 with | t h=>cases h;rfl
      ·simp only[zA]at ht;subst ht;cases E5 with | t h=>cases h;rfl
      ·simp only[zA]at ht;subst ht;cases E5 with | t h=>cases h;rfl
      ·cases ht
     simp only[zcB,h1,ih,zD,Option.map_some]
theorem zmT {w:World} {A:Nat->Prop} {nm μ:Nat->Nat} {H:Nat->Option O} {x:V} {k:T} {kd:Nat} {v:Value} (h:zj1 kd x=some k) (hv:zbl w A nm μ H v x):zcA k=some v/\zvy k kd:=by
 unfold zj1 at h;split at h
 ·split at h
  ·rename_i hk;simp only[zA]at h;subst h;subst hk;cases hv.t_inv;exact⟨rfl,.inl rfl⟩
  ·cases h
 ·split at h
  ·rename_i hk;simp only[zA]at h;subst h;subst hk;cases hv.t_inv;exact⟨rfl,.inl rfl⟩
  ·cases h
 ·split at h
  ·rename_i hk;simp only[zA]at h;subst h;subst hk;cases hv.t_inv;exact⟨rfl,.inl rfl⟩
  ·cases h
 ·simp only[zB]at h;obtain⟨ts,FR,h⟩:=h;split at h
  ·rename_i hk;simp only[zA]at h;subst h;obtain⟨xs,rfl,hr⟩:=hv.agg_inv;have:=zg9 hr FR;exact⟨by simp[zcA,this],.inr ⟨ts,rfl,hk⟩⟩
  ·cases h
 ·cases h
theorem zgt {d:TypeDesc} {v u:Value} {x y:T} {b:Bool} (hv:zcA x=some v) (hu:zcA y=some u) (he:zeu x y=some b)
 {kd:Nat} (hd:zfv d=some kd) (hx:x.kind=some kd):Instr.sameNow d v u=some b:=by
 unfold zeu at he;split at he
 ·simp only[zcA,zA]at hv hu;subst hv hu;split at he
  ·rename_i hk;simp only[zA]at he;subst hk;cases d<;>simp[zfv]at hd<;>subst hd<;>simp[T.kind]at hx
   simp[Instr.sameNow,he]
  ·simp at he
 ·simp only[zcA,zA]at hv hu;subst hv hu;simp only[zA]at he;cases d<;>simp[zfv]at hd<;>subst hd<;>simp[T.kind]at hx
  simp[Instr.sameNow,he]
 ·simp only[zcA,zA]at hv hu;subst hv hu;simp only[zA]at he;cases d<;>simp[zfv]at hd<;>subst hd<;>simp[T.kind]at hx
  simp[Instr.sameNow,he]
 ·simp[T.kind]at hx
 ·simp at he
theorem zmp: ∀{ts:List T} {vs:List Value},zcB ts=some vs->((vs.zip vs).all fun(x,y)=>Instr.sameBits 9999 x y)=true
 | [],vs,h=>by simp only[zcB,zA]at h;subst h;rfl
 | t::ts,vs,h=>by
   simp only[zcB,zB,zE]at h;obtain⟨v,hv,vs',Au,rfl⟩:=h;have ih:=zmp Au;simp only[List.zip_cons_cons,List.all_cons,ih,Bool.and_true];have hb: ∀s:ByteArray,(s==s)=true:=fun s=>by show(s.data==s.data)=true;simp
   cases t<;>simp[zgA]at hv<;>subst hv<;>simp[Instr.sameBits,hb]
theorem zuE {ts:List T} {k:T} {b:Bool} (h:zeu (.sl [ts]) k=some b): ∃us,k= .sl [us]/\zfw ts us=some b:=by
 cases k with
 | sl es=>
   match es,h with
   | [],h=>simp[zeu]at h
   | [us],h=>exact⟨us,rfl,h⟩
   | _::_::_,h=>simp[zeu]at h
 | _=>simp[zeu]at h
theorem zkK {v u:Value} {x y:T} (hv:zcA x=some v) (hu:zcA y=some u) (he:zeu x y=some true):Instr.sameBits 10000 u v=true:=by
 unfold zeu at he;split at he
 ·simp only[zcA,zA]at hv hu;subst hv hu;split at he
  ·rename_i hk;simp only[zA,beq_iff_eq]at he;subst hk;subst he;simp[Instr.sameBits]
  ·simp at he
 ·simp only[zcA,zA]at hv hu;subst hv hu;simp only[zA]at he;have:=zy3 he;subst this;simpa[Instr.sameBits]using he
 ·simp only[zcA,zA]at hv hu;subst hv hu;simp only[zA,beq_iff_eq]at he;subst he;simp[Instr.sameBits]
 ·simp only[zcA,zE]at hv hu;obtain⟨vs,Au,rfl⟩:=hv;obtain⟨ws,Fy,rfl⟩:=hu;have:=zjg Au Fy he;subst this;have h1:=zmp Au;simp only[Instr.sameBits,beq_self_eq_true,Bool.true_and];simpa using h1
 ·simp at he
def zic (w:World) (A:Nat->Prop) (nm μ:Nat->Nat) (H:Nat->Option O) (ms:List MapEntry) (es:List (T×V)):Prop:=
 ms.length=es.length/\ ∀(i:Nat) (k:T) (x:V),es[i]? =some (k,x)-> ∃m,ms[i]? =some m/\zcA k=some m.key/\zcl w A nm μ H m.val x
section
variable {P:Program} {w:World}
theorem zie {t:TypeId} {ks:List Nat} {xs ys:Array Value} {as bs:List V} {r:Bool} {A:Nat->Prop} {nm μ:Nat->Nat} {H:Nat->Option O} (ht:zdB P t=some ks)
 (hx:zfk w A nm μ H xs.toList as) (hy:zfk w A nm μ H ys.toList bs) (hr:zbh ks as bs=some r):(Op.equal t (.agg xs) (.agg ys)).run P w= .ok r w:=by
 unfold zdB at ht;split at ht
 ·rename_i fields CW;split at ht
  ·rename_i hc;have I9:P.fieldsOf t=fields:=by simp[Program.fieldsOf,CW]
   have h0:=zhM (P:=P) (i:=0) 9998 ht hx hy (by simpa using hr);have:=run_equalIn_struct (P:=P) w 9999 t xs ys (by rw[I9];exact CW) hc.1;show(Op.equalIn 10000 t (.agg xs) (.agg ys)).run P w= .ok r w;rw[this,I9];exact h0
  ·cases ht
 ·cases ht
theorem zfs: ∀{fs:List Field} {i:Nat} {ks:List Nat},zbu P i fs=some ks->ks.length=fs.length
 | [],i,ks,h=>by simp only[zbu,zA]at h;subst h;rfl
 | f::fs,i,ks,h=>by
   simp only[zbu,zC,zB]at h;obtain⟨k,hk,ks',Dn,h⟩:=h;split at h
   ·simp only[zA]at h;subst h;simp[zfs Dn]
   ·cases h
theorem zkd {ks:List Nat} {x:T} {v:Value} {t:TypeId} (hp:zdB P t=some ks) (hx:zvy x (3+zjh ks)) (hv:zcA x=some v): ∃ts vs,x= .sl [ts]/\ks=ts.map T.kindN/\zcB ts=some vs/\v= .agg vs.toArray:=by
 rcases hx with hx | ⟨ts,rfl,hk⟩
 ·exfalso;cases x<;>simp[T.kind]at hx<;>omega
 ·simp only[zcA,zE]at hv;obtain⟨vs,Au,rfl⟩:=hv;exact⟨ts,vs,rfl,zmX (zqk hp) (zuC ts) (by omega),Au,rfl⟩
theorem zhN {kt:TypeId} {kd:Nat} {k:T} {v:Value} (b:Bool) (ht:ztx P kt kd) (hk:zvy k kd) (hv:zcA k=some v):(Instr.checkKey b 10000 kt v).run P w= .ok () w:=by
 rcases ht with⟨d,hu,hd,AB⟩ | ⟨ks,hp,rfl⟩
 ·exact zgQ (n:=9999) AB
 ·obtain⟨ts,vs,rfl,Dn,Au,rfl⟩:=zkd hp hk hv
  have Ac:vs.length=ks.length:=by
   have:=(ze7 (w:=w) (A:=fun _=>True) (nm:=id) (μ:=id) (H:=fun _=>none) Au).1;rw[Dn];simpa using this
  unfold zdB at hp;split at hp
  ·rename_i fields CW;split at hp
   ·have H5:=zfs hp;rw[show(10000:Nat)=9999+1 from rfl,Instr.checkKey];simp only[Sem.run_bind,zau CW,Result.andThen_ok];rw[<- Array.forIn_toList];have A5:0+fields.toList.length<=vs.toArray.size:=by simp at H5⊢;omega
    clear H5 Ac Dn hk hv
    generalize fields.toList=L at hp A5
    generalize(0:Nat)=i at hp A5
    induction L generalizing i ks with
    | nil=>simp
    | cons f L ih=>
      simp only[zbu,zC,zB]at hp;obtain⟨k,Q0,ks',NE,hp⟩:=hp;split at hp
      ·rename_i CG;obtain⟨hn,ho,DV⟩:=CG;obtain⟨inf,g1,g2,g3,g4⟩:=zbr DV;simp only[List.length_cons]at A5;obtain⟨u,hu⟩: ∃u,vs.toArray[i]? =some u:=⟨_,Array.getElem?_eq_getElem (by omega)⟩
       have Jh:(part f.type vs.toArray f.offset).run P w= .ok u w:=by
        simp only[part,Sem.run_bind,g4 w,Result.andThen_ok,ho];simp only[hu];rfl
       have p2:(Instr.checkKey b 9999 f.type u).run P w= .ok () w:=zgQ (n:=9998) Q0;simp only[List.forIn_cons,Sem.run_bind,hn,ne_eq,not_false_eq_true,if_true,Result.andThen_ok,Jh,p2,Sem.run_pure];exact ih _ _ NE (by omega)
      ·cases hp
   ·cases hp
  ·cases hp
theorem zpy {A:Nat->Prop} {nm μ:Nat->Nat} {H:Nat->Option O} {d:TypeDesc} {v:Value} {x:T} (hv:zcA x=some v) {kd:Nat} (hd:zfv d=some kd) (hx:x.kind=some kd):
 ∀(es:List (T×V)) (ms:List MapEntry) (j:Nat) (r:Option V),zic w A nm μ H ms es->zbo x es=some r->
  match r with
  | none=>Instr.findNow d v ms j=some none/\ ∀u,zbF x u es=some (es++[(x,u)])
  | some q=> ∃i m,Instr.findNow d v ms j=some (some (j+i,m.val))/\ms[i]? =some m/\zcl w A nm μ H m.val q/\Instr.sameBits 10000 m.key v=true/\ ∀u,zbF x u es=some (es.set i (x,u))
 | [],ms,j,r,h,hf=>by
   simp only[zbo,zA]at hf;subst hf;obtain⟨h1,_⟩:=h;have:ms=[]:=by simpa using h1
   subst this
   exact⟨rfl,fun u=>rfl⟩
 | (k,y)::es,ms,j,r,h,hf=>by
   obtain⟨h1,h2⟩:=h
   cases ms with
   | nil=>simp at h1
   | cons m ms=>
     obtain⟨m',Fm,hk,BP⟩:=h2 0 k y rfl;simp only[List.getElem?_cons_zero,zA]at Fm;subst Fm;simp only[zbo]at hf;split at hf
     ·simp at hf
     ·rename_i Ej;simp only[zA]at hf;subst hf;exact⟨0,m,by simp[Instr.findNow,zgt hv hk Ej hd hx],rfl,BP,zkK hv hk Ej,fun u=>by simp[zbF,Ej]⟩
     ·rename_i Ej;have CQ:zic w A nm μ H ms es:=⟨by simpa using h1,fun i k' x' hi=>h2 (i+1) k' x' (by simpa using hi)⟩
      have ih:=zpy hv hd hx es ms (j+1) r CQ hf
      cases r with
      | none=>exact⟨by simp[Instr.findNow,zgt hv hk Ej hd hx,ih.1],fun u=>by simp[zbF,Ej,ih.2 u]⟩
      | some q=>
        obtain⟨i,m',h3,h4,h5,h6,h7⟩:=ih;refine⟨i+1,m',?_,by simpa using h4,h5,h6,fun u=>by simp[zbF,Ej,h7 u]⟩;simp only[Instr.findNow,zgt hv hk Ej hd hx,h3]
        congr 3;omega
theorem zpz {A:Nat->Prop} {nm μ:Nat->Nat} {H:Nat->Option O} {kt:TypeId} {ts:List T} {vs:List Value} (hp:zdB P kt=some (ts.map T.kindN)) (hv:zcB ts=some vs):
 ∀(es:List (T×V)) (ms:List MapEntry) (j:Nat) (r:Option V),zic w A nm μ H ms es->zbo (.sl [ts]) es=some r->
  match r with
  | none=>(Instr.findAsking kt (.agg vs.toArray) ms j).run P w= .ok none w/\ ∀u,zbF (.sl [ts]) u es=some (es++[(.sl [ts],u)])
  | some q=> ∃i m,(Instr.findAsking kt (.agg vs.toArray) ms j).run P w= .ok (some (j+i,m.val)) w/\ms[i]? =some m/\zcl w A nm μ H m.val q/\Instr.sameBits 10000 m.key (.agg vs.toArray)=true/\ ∀u,zbF (.sl [ts]) u es=some (es.set i (.sl [ts],u))
 | [],ms,j,r,h,hf=>by
   simp only[zbo,zA]at hf;subst hf;obtain⟨h1,_⟩:=h;have:ms=[]:=by simpa using h1
   subst this
   exact⟨by simp[Instr.findAsking],fun u=>rfl⟩
 | (k,y)::es,ms,j,r,h,hf=>by
   obtain⟨h1,h2⟩:=h
   cases ms with
   | nil=>simp at h1
   | cons m ms=>
     obtain⟨m',Fm,hk,BP⟩:=h2 0 k y rfl;simp only[List.getElem?_cons_zero,zA]at Fm;subst Fm
     have J7: ∀b,zeu (.sl [ts]) k=some b->(Op.equal kt (.agg vs.toArray) m.key).run P w= .ok b w:=fun b hb=>by
      obtain⟨us,rfl,hb⟩:=zuE hb;simp only[zcA,zE]at hk;obtain⟨ws,Fy,AB⟩:=hk;rw[<- AB];exact zie (A:=A) (nm:=nm) (μ:=μ) (H:=H) hp (by simpa using ze7 hv) (by simpa using ze7 Fy) (zmU hb)
     simp only[zbo]at hf;split at hf
     ·simp at hf
     ·rename_i Ej;simp only[zA]at hf;subst hf;exact⟨0,m,by simp[Instr.findAsking,J7 _ Ej],rfl,BP,zkK (by simp[zcA,hv]) hk Ej,fun u=>by simp[zbF,Ej]⟩
     ·rename_i Ej;have CQ:zic w A nm μ H ms es:=⟨by simpa using h1,fun i k' x' hi=>h2 (i+1) k' x' (by simpa using hi)⟩
      have ih:=zpz hp hv es ms (j+1) r CQ hf
      cases r with
      | none=>exact⟨by simp[Instr.findAsking,J7 _ Ej,ih.1],fun u=>by simp[zbF,Ej,ih.2 u]⟩
      | some q=>
        obtain⟨i,m',h3,h4,h5,h6,h7⟩:=ih;refine⟨i+1,m',?_,by simpa using h4,h5,h6,fun u=>by simp[zbF,Ej,h7 u]⟩;simp only[Instr.findAsking,Sem.run_bind,J7 _ Ej,Result.andThen_ok,zG,if_false,h3];have:j+1+i=j+(i+1):=by omega
        rw[this]
theorem zpx {A:Nat->Prop} {nm μ:Nat->Nat} {H:Nat->Option O} {kt:TypeId} {kd:Nat} {v:Value} {x:T} (ht:ztx P kt kd) (hx:zvy x kd) (hv:zcA x=some v) {es:List (T×V)} {ms:List MapEntry} {r:Option V} (he:zic w A nm μ H ms es) (hf:zbo x es=some r):
 match r with
 | none=>(Instr.findKey kt v ms).run P w= .ok none w/\ ∀u,zbF x u es=some (es++[(x,u)])
 | some q=> ∃i m,(Instr.findKey kt v ms).run P w= .ok (some (i,m.val)) w/\ms[i]? =some m/\zcl w A nm μ H m.val q/\Instr.sameBits 10000 m.key v=true/\ ∀u,zbF x u es=some (es.set i (x,u)):=by
 rcases ht with⟨d,hu,hd,AB⟩ | ⟨ks,hp,rfl⟩
 ·have PE:x.kind=some kd:=by
   rcases hx with hx | ⟨ts,rfl,hk⟩
   ·exact hx
   ·have:=zsm AB;omega
  have h:=zpy (w:=w) (A:=A) (nm:=nm) (μ:=μ) (H:=H) hv hd PE es ms 0 r he hf
  cases r with
  | none=>exact⟨by simp[Instr.findKey,zau hu,h.1],h.2⟩
  | some q=>
    obtain⟨i,m,h1,h2,h3,h4,h5⟩:=h;exact⟨i,m,by simp[Instr.findKey,zau hu,h1],h2,h3,h4,h5⟩
 ·obtain⟨ts,vs,rfl,rfl,Au,rfl⟩:=zkd hp hx hv
  have AE: ∃fields,P.underlying kt=some (.struct fields):=by
   unfold zdB at hp;split at hp
   ·rename_i fields CW;exact⟨fields,CW⟩
   ·cases hp
  obtain⟨fields,CW⟩:=AE
  have Fp:(Instr.findKey kt (.agg vs.toArray) ms).run P w=(Instr.findAsking kt (.agg vs.toArray) ms).run P w:=by
   cases ms with
   | nil=>simp[Instr.findKey,zau CW,Instr.findNow,Instr.findAsking]
   | cons m ms=>simp[Instr.findKey,zau CW,Instr.findNow,Instr.sameNow]
  have h:=zpz (w:=w) (A:=A) (nm:=nm) (μ:=μ) (H:=H) hp Au es ms 0 r he hf;rw[Fp]
  cases r with
  | none=>exact h
  | some q=>
    obtain⟨i,m,h1,h2,h3,h4,h5⟩:=h;exact⟨i,m,by rw[h1];simp,h2,h3,h4,h5⟩
end
theorem zi6 {k:T} {v:V}: ∀{es:List (T×V)},zbo k es=none->zbF k v es=none
 | [],h=>by simp[zbo]at h
 | (k',v')::es,h=>by
   simp only[zbo]at h;simp only[zbF]
   cases hk:zeu k k' with
   | none=>rfl
   | some b=>
     rw[hk]at h
     cases b with
     | true=>simp at h
     | false=>simp only at h⊢;rw[zi6 h];rfl
section
variable {P:Program} {N:Nam} {I:Inv} {c:Ctx} {ns p:Nat} {A:Nat->Prop} {μ lam:Nat->Nat} {s:St} {a:Act} {w:World} {e:Eff} {o:Oper}
theorem zrD (R:Rel N c ns A μ lam s a w) {t kt et:TypeId} {h:Option Operand} (hu:P.underlying t=some (.map kt et)) (hh: ∀x,h=some x-> ∃k n,a.eval x= .int k n) (ho:o.op= .makeMap t h)
 (hd: ∀x,o.dst=some x->x<ns) (hf:s.free o.dst e) (hk:s.heap (s.bas+p)=none) (hn:s.bas+p<s.nxt) (he:zaj N.G p s .mkmap=some e):zeB P N c ns o a w (s.apply o.dst e):=by
 simp only[zaj,zA]at he;subst he;have R1:=(R.alloc (.map #[] 0)).adoptH (o:=.map []) (r:=w.heap.size) hk hn R.orphan_new ⟨#[],0,zdT w _,rfl,by simp⟩ (by simp);refine⟨.map (some w.heap.size),_,A,_,lam,.inl ?_,R1.put o.dst { val:=.mm (s.bas+p) } _ hd hf rfl rfl rfl ?_ (by simp)⟩
 ·cases h with
  | none=>simp[execOp,ho,Instr.makeMap]
  | some x=>
    obtain⟨k,n,hx⟩:=hh x rfl;simp[execOp,ho,Instr.makeMap,zau hu,hx,asInt,asIntOf]
 ·have:=RepC.mm (w:=w.alloc (.map #[] 0)) (A:=A) (nm:=N.nm) (μ:=upd μ (s.bas+p) w.heap.size) (H:=upd s.heap (s.bas+p) (some (.map []))) (s.bas+p) [] (by simp);simpa using this.toV
theorem zra {t:TypeId} {z:V} {H:Nat->Option O} (h:ztK P t=some z): ∃v,(∀w,(zeroValue t).run P w= .ok v w)/\ ∀w,zcl w A N.nm μ H v z:=by
 simp only[ztK,zC,zB]at h;obtain⟨i,hi,v,hv,h⟩:=h;refine⟨v,fun w=>by simp[zeroValue,zgP hi,hv],fun w=> ?_⟩;unfold zjz at h;split at h
 ·simp only[zE]at h;obtain⟨cs,AL,rfl⟩:=h;obtain⟨h1,h2⟩:=zbb AL;exact⟨_,rfl,h1,fun i c hi=>let⟨x,hx,hf⟩:=h2 i c hi;⟨x,hx,zeS hf⟩⟩
 ·exact(zeS h).toV1
theorem zbl.mm_inv {v:Value} {k:Nat} {es:List (T×V)} {H:Nat->Option O} {nm:Nat->Nat} (hk:H k=some (.map es)) (h:zbl w A nm μ H v (.mm k)):v= .map (some (μ k)):=by
 cases(h:RepC w A nm μ H v (.mm k))with
 | mm _ _ _=>rfl
 | dmm _ Ah _=>rw[hk]at Ah;simp at Ah
theorem zt2 (hI:I.Ok N) (R:Rel N c ns A μ lam s a w) {t kt et:TypeId} {kd:Nat} {x y:Operand} {x' y':Opd} {z:V} {ok:Bool} (hx:opd I x=some x') (hy:opd I y=some y')
 (hu:P.underlying t=some (.map kt et)) (Lq:ztx P kt kd) (hz:ztK P et=some z) (he:zaj N.G p s (.lookup kd z ok x' y')=some e):
 zdb N A μ s w ((Instr.lookup t (a.eval x) (a.eval y) ok).run P w) e:=by
 simp only[zaj,zC,zB]at he;obtain⟨kv,Eh,key,Ck,mv,FU,es,Ey,r,hr,he⟩:=he;obtain⟨Hz,AB⟩:=zmT Ck (zat hI R hy Eh);have Ju:=zat hI R hx FU;obtain⟨zv,ON,P0⟩:=zra (A:=A) (N:=N) (μ:=μ) (H:=s.heap) hz
 generalize MQ:a.eval x=vx at Ju
 generalize IR:a.eval y=vy at Hz
 have ER: ∃ms:Array MapEntry,zic w A N.nm μ s.heap ms.toList es/\((vx= .map none/\ms= #[])\/ ∃r n,vx= .map (some r)/\w.heap[r]? =some (.map ms n)):=by
  split at Ey
  ·simp only[zA]at Ey;subst Ey;have:vx= .map none:=by cases Ju.t_inv;rfl
   exact⟨#[],⟨rfl,by simp⟩,.inl ⟨this,rfl⟩⟩
  ·split at Ey
   ·rename_i j es' hj;simp only[zA]at Ey;subst Ey;have hv:=zbl.mm_inv hj Ju;obtain⟨ms,n,h1,h2,h3⟩:=R.heap _ _ hj;refine⟨ms,⟨by simpa using h2,fun i k x hi=> ?_⟩,.inr ⟨_,n,hv,h1⟩⟩;obtain⟨m,hm,CP⟩:=h3 i k x hi;exact⟨m,by simpa using hm,CP⟩
   ·simp at Ey
  ·simp at Ey
 obtain⟨ms,FY,Lg⟩:=ER;have D2:=zpx (P:=P) (w:=w) Lq AB Hz FY hr;have FG:(Instr.checkKey ms.isEmpty 10000 kt vy).run P w= .ok () w:=zhN _ Lq AB Hz
 have BP: ∀(q:Value) (b:Bool),zcl w A N.nm μ s.heap q (r.getD z)->b=r.isSome->zbl w A N.nm μ s.heap (if ok then .tuple #[q,.bool b]else q) e.val/\Plain e:=by
  intro q b hq hb;subst hb
  cases ok with
  | false=>
    simp only[zG,if_false,zA]at he;subst he
    exact⟨hq.toV,rfl,rfl,rfl,rfl⟩
  | true=>
    simp only[if_true,zA]at he;subst he;refine⟨⟨_,rfl,rfl,fun i c hi=> ?_⟩,rfl,rfl,rfl,rfl⟩
    match i,hi with
    | 0,hi=>simp at hi;subst hi;exact⟨q,rfl,hq⟩
    | 1,hi=>simp at hi;subst hi;exact⟨.bool r.isSome,rfl,(RepC.t (.bool _)).toV1⟩
    | i+2,hi=>simp at hi
 cases r with
 | none=>
   have Fp:=D2.1;refine⟨_,?_,BP zv false (P0 w) rfl⟩;rcases Lg with⟨rfl,rfl⟩ | ⟨r,n,rfl,h1⟩
   ·simp only[Instr.lookup,Sem.run_bind,zau hu,Result.andThen_ok,Sem.run_pure,FG,Fp,ON]
   ·simp only[Instr.lookup,Sem.run_bind,zau hu,Result.andThen_ok,Sem.run_pure,zfX h1,FG,Fp,ON]
 | some q=>
   obtain⟨i,m,h1,h2,h3,h4,h5⟩:=D2;have Fp:=h1;refine⟨_,?_,BP m.val true h3 rfl⟩;rcases Lg with⟨rfl,rfl⟩ | ⟨r,n,rfl,h1⟩
   ·simp only[Instr.lookup,Sem.run_bind,zau hu,Result.andThen_ok,Sem.run_pure,FG,Fp]
   ·simp only[Instr.lookup,Sem.run_bind,zau hu,Result.andThen_ok,Sem.run_pure,zfX h1,FG,Fp]
theorem zoV (hI:I.Ok N) (R:Rel N c ns A μ lam s a w) {t kt et:TypeId} {kd:Nat} {x y v:Operand} {x' y' v':Opd} (hx:opd I x=some x') (hy:opd I y=some y') (hv:opd I v=some v')
 (hu:P.underlying t=some (.map kt et)) (Lq:ztx P kt kd) (ho:o.op= .mapUpdate t x y v\/o.op= .insert t x y v)
 (he:zaj N.G p s (.mapupd kd x' y' v')=some e) (Bt:o.dst=none):zeB P N c ns o a w (s.apply o.dst e):=by
 simp only[zaj,zC,zB]at he;obtain⟨kv,Eh,key,Ck,u,TI,mv,FU,he⟩:=he;obtain⟨Hz,AB⟩:=zmT Ck (zat hI R hy Eh);have Ju:=zat hI R hx FU;have E5:=zat hI R hv TI;split at he
 ·rename_i j;split at he
  ·rename_i es hj;simp only[zB]at he;obtain⟨es',Ib,he⟩:=he;split at he
   ·rename_i Nu;simp only[zA]at he;subst he
    have AX:zcl w A N.nm μ s.heap (a.eval v) u:=by
     cases u<;>first | exact E5 | simp[V.one]at Nu
    have MQ:=zbl.mm_inv hj Ju;obtain⟨ms,n,h1,h2,h3⟩:=R.heap _ _ hj
    have ER:zic w A N.nm μ s.heap ms.toList es:=⟨by simpa using h2,fun i k x hi=>by
     obtain⟨m,hm,CP⟩:=h3 i k x hi
     exact⟨m,by simpa using hm,CP⟩⟩
    have Ad:μ j<w.heap.size:=R.lt_live hj rfl
    have Tq: ∃r,zbo key es=some r:=by
     cases hq:zbo key es with
     | some r=>exact⟨r,rfl⟩
     | none=>rw[zi6 hq]at Ib;simp at Ib
    obtain⟨r,hr⟩:=Tq;have FG: ∀b,(Instr.checkKey b 10000 kt (a.eval y)).run P w= .ok () w:=fun b=>zhN b Lq AB Hz
    have D2:=zpx (P:=P) (w:=w) Lq AB Hz ER hr
    have Cf: ∀(ms':Array MapEntry) (n':Nat),(Instr.mapUpdate t (a.eval x) (a.eval y) (a.eval v)).run P w= .ok () (World.setMap w (μ j) (.map ms' n'))->
     (∀H',Evo w A μ s.heap (World.setMap w (μ j) (.map ms' n')) A μ H'->zic (World.setMap w (μ j) (.map ms' n')) A N.nm μ H' ms'.toList es')->zeB P N c ns o a w (s.apply o.dst { hp:=[(j,.map es')] }):=by
     intro ms' n' Am Ae
     have R1:=R.changeH (o':= .map es') (w':=World.setMap w (μ j) (.map ms' n')) hj (by simp[O.le]) rfl (by simp) (by simp) rfl (by simp[World.setMap])
      (fun r hr=>by simp only[World.setMap,Array.getElem?_setIfInBounds];rw[if_neg (Ne.symm hr)])
      (fun r x hr=>by
        by_cases OW:r=μ j
        ·subst OW;simp[World.shape?,h1]at hr
        ·simp only[World.shape?,World.setMap,Array.getElem?_setIfInBounds]at hr⊢
         rw[if_neg (Ne.symm OW)];exact hr)
      (fun E=>by
        obtain⟨g1,g2⟩:=Ae _ E;refine⟨ms',n',by simp[World.setMap,Ad],by simpa using g1,fun i k x hi=> ?_⟩;obtain⟨m,hm,CP⟩:=g2 i k x hi
        exact⟨m,by simpa using hm,CP⟩)
     refine⟨undef,World.setMap w (μ j) (.map ms' n'),A,μ,lam,.inr ⟨?_,rfl⟩,?_⟩
     ·rcases ho with ho | ho<;>simp only[execOp,ho,Sem.run_bind,Am,Result.andThen_ok,Sem.run_pure]
     ·rw[Bt];exact R1
    cases r with
    | none=>
      have Fp:=D2.1;have EQ:=D2.2 u;rw[Ib]at EQ;simp only[zA]at EQ;subst EQ;refine Cf (ms.push { key:=a.eval y,val:=a.eval v,born:=n }) (n+1) ?_ ?_
      ·simp only[Instr.mapUpdate,Sem.run_bind,zau hu,Result.andThen_ok,MQ,zfX h1,FG,Fp,zkn _ h1]
      ·intro H' E;refine⟨by simp[h2],fun i k x hi=> ?_⟩;rw[List.getElem?_append]at hi;split at hi
       ·rename_i AV;obtain⟨m,hm,g1,g3⟩:=ER.2 i k x hi;have:i<ms.size:=by omega
        refine⟨m,by rw[Array.toList_push,List.getElem?_append_left (by simpa using this)];exact hm,g1,g3.evo E⟩
       ·rename_i AV
        have:i=es.length:=by
         have:=(zH.1 hi).1;simp at this;omega
        subst this;simp at hi;obtain⟨rfl,rfl⟩:=hi
        exact⟨{ key:=a.eval y,val:=a.eval v,born:=n },by simp[<- h2],Hz,AX.evo E⟩
    | some q=>
      obtain⟨i,m,g1,g2,g3,g4,g5⟩:=D2;have Fp:=g1;have EQ:=g5 u;rw[Ib]at EQ;simp only[zA]at EQ;subst EQ;have Pc:ms[i]? =some m:=by simpa using g2
      refine Cf (ms.modify i fun e=>{ e with key:=a.eval y,val:=a.eval v }) n ?_ ?_
      ·simp only[Instr.mapUpdate,Sem.run_bind,zau hu,Result.andThen_ok,MQ,zfX h1,FG,Fp,zkn _ h1,Pc,Option.map_some,Option.getD_some,Instr.keyThatStays,g4,if_true,Sem.run_pure]
      ·intro H' E;refine⟨by simp[h2],fun i' k x hi=> ?_⟩;rcases ziJ hi with⟨rfl,ND⟩ | ⟨Az,hi⟩
       ·simp only[Prod.mk.injEq]at ND;obtain⟨rfl,rfl⟩:=ND;exact⟨{ m with key:=a.eval y,val:=a.eval v },by simp[Pc],Hz,AX.evo E⟩
       ·obtain⟨m',Fm,j1,j3⟩:=ER.2 i' k x hi;exact⟨m',by simpa[Array.getElem?_modify,Ne.symm Az]using Fm,j1,j3.evo E⟩
   ·simp at he
  ·simp at he
 ·simp at he
end
end Rg
end
section
namespace Rg
open Go
def zmY (H:Nat->Option O) (k:Nat):Prop:= ∃sz rs f,H k=some (.rows sz rs f)
section
variable {w:World} {A:Nat->Prop} {N:Nam} {μ:Nat->Nat} {H:Nat->Option O}
theorem zgZ {d k:Nat} {sz:Nat} {rs:List (List V)} {frz:Bool} (hk:H k=some (.rows sz rs frz)) {i j:Nat} {row:List V} {x:V} (h1:rs[i]? =some row) (h2:row[j]? =some x) {q:Nat} (hq:q∈reach H d x):
 q∈(match H k with | some (.rows _ rs _)=>rs.flatMap (fun(row:List V)=>row.flatMap (reach H d)) | _=>([]:List Nat)):=by
 rw[hk];exact List.mem_flatMap.2 ⟨row,zL h1,List.mem_flatMap.2 ⟨x,zL h2,hq⟩⟩
theorem zk8 (hH: ∀k o,H k=some o->zq3 w A N μ H (μ k) o): ∀(d:Nat) (x:V) (t:T) (v:Value),toT H d x=some t->RepC w A N.nm μ H v x->
 RepT w (fun r=>A r\/ ∃k∈reach H d x,zmY H k/\μ k=r) N.nm v t:=by
 intro d
 induction d with
 | zero=>
   intro x t v ht hr
   cases x with
   | t y=>
     simp only[toT,zA]at ht;subst ht
     exact(zbl.t_inv (w:=w) hr.toV).norm.mono (fun _ _=>rfl) (fun _ h=> .inl h)
   | _=>simp[toT]at ht
 | succ d ih=>
   intro x t v ht hr
   cases x with
   | t y=>
     simp only[toT,zA]at ht;subst ht
     exact(zbl.t_inv (w:=w) hr.toV).norm.mono (fun _ _=>rfl) (fun _ h=> .inl h)
   | ms k i len=>
     simp only[toT]at ht;split at ht
     ·rename_i sz rs frz hk;simp only[zC,zB,zA]at ht;obtain⟨r,BK,es,Ey,rfl⟩:=ht;obtain⟨AO,C7⟩:=zbb Ey
      cases hr with
      | ms _ _ _ cap sz' rs' frz' ad Ah AK hc ha=>
        rw[hk]at Ah;cases Ah;unfold rd at BK;rw[if_pos AK]at BK;simp only[zA]at BK;subst BK;have Ac:es.length=len:=by rw[<- AO];simp;omega
        rcases Nat.eq_zero_or_pos len with h0 | h0
        ·subst h0;have:es=[]:=List.length_eq_zero_iff.1 Ac;subst this;exact .sl0 _ _
        ·obtain⟨rfl,e0,n0,FT,Cg⟩:=ha.resolve_left (by omega);obtain⟨cc,e1,z,h1,h2,h3,h4,h5⟩:=hH k _ hk;subst Ac
         have Ap: ∀(i':Nat) (e:List T),es[i']? =some e-> ∃row,rs[i+i']? =some row/\row.length=e.length/\ ∀(j:Nat) (y:T),e[j]? =some y-> ∃x,row[j]? =some x/\toT H d x=some y:=by
          intro i' e he;obtain⟨row,Ap,hm⟩:=C7 i' e he;obtain⟨m1,m2⟩:=zbb hm;rw[zO]at Ap;split at Ap
          ·rw[List.getElem?_drop]at Ap;exact⟨row,Ap,m1,m2⟩
          ·simp at Ap
         have AW: ∀(i':Nat) (e:List T) (j:Nat) (y:T),es[i']? =some e->e[j]? =some y-> ∃u x,w.cell? ⟨μ k,i*sz+i'*sz+j,none⟩=some u/\RepC w A N.nm μ H u x/\toT H d x=some y/\
          (∀q∈reach H d x,q∈reach H (d+1) (.ms k i es.length)):=by
          intro i' e j y he hj;obtain⟨row,g1,g2,g3⟩:=Ap i' e he;obtain⟨x,hx,ht⟩:=g3 j y hj;obtain⟨u,hu,hr⟩:=h5 _ row j x g1 hx;refine⟨u,x,?_,hr,ht,fun q hq=> ?_⟩
          ·rw[Nat.add_mul]at hu;simp[World.cell?,h1,hu]
          ·simp only[reach];exact List.mem_cons_of_mem _ (zgZ hk g1 hx hq)
         refine .sl (μ k) (i*sz) cap sz es (fun i' j=>(w.cell? ⟨μ k,i*sz+i'*sz+j,none⟩).getD undef) h0 (by omega) (.inr ⟨k,by simp[reach],⟨_,_,_,hk⟩,rfl⟩) ?_ ?_ ?_
         ·intro i' e he;obtain⟨row,g1,g2,g3⟩:=Ap i' e he;rw[<- g2];exact h4 _ row g1
         ·intro i' e j y he hj;obtain⟨u,x,hu,_⟩:=AW i' e j y he hj;rw[hu];rfl
         ·intro i' e j y he hj;obtain⟨u,x,hu,hr,ht,hq⟩:=AW i' e j y he hj;rw[hu]
          exact(ih x y u ht hr).mono (fun _ _=>rfl) (fun r h=>h.elim .inl fun⟨q,h1,h2⟩=> .inr ⟨q,hq q h1,h2⟩)
      | dms _ _ _ Ah=>rw[hk]at Ah;cases Ah
     ·simp at ht
   | mp k i off=>
     simp only[toT]at ht;split at ht
     ·rename_i sz rs frz hk;simp only[zC,zB,zA]at ht;obtain⟨row,Ap,cs,AL,rfl⟩:=ht;obtain⟨AO,C7⟩:=zbb AL
      cases hr with
      | mp _ _ _ sz' rs' frz' Ah AK=>
        rw[hk]at Ah;cases Ah;obtain⟨cc,e1,z,h1,h2,h3,h4,h5⟩:=hH k _ hk
        have AW: ∀(j:Nat) (y:T),cs[j]? =some y-> ∃u x,w.cell? ⟨μ k,i*sz+off+j,none⟩=some u/\RepC w A N.nm μ H u x/\toT H d x=some y/\
         (∀q∈reach H d x,q∈reach H (d+1) (.mp k i off)):=by
         intro j y hj;obtain⟨x,hx,ht⟩:=C7 j y hj;rw[List.getElem?_drop]at hx;obtain⟨u,hu,hr⟩:=h5 _ row _ x Ap hx;refine⟨u,x,?_,hr,ht,fun q hq=> ?_⟩
         ·rw[Nat.add_assoc];simp[World.cell?,h1,hu]
         ·simp only[reach];exact List.mem_cons_of_mem _ (zgZ hk Ap hx hq)
        refine .ip (μ k) (i*sz+off) cs (fun j=>(w.cell? ⟨μ k,i*sz+off+j,none⟩).getD undef) (.inr ⟨k,by simp[reach],⟨_,_,_,hk⟩,rfl⟩) ?_ ?_
        ·intro j y hj;obtain⟨u,x,hu,_⟩:=AW j y hj;rw[hu];rfl
        ·intro j y hj;obtain⟨u,x,hu,hr,ht,hq⟩:=AW j y hj;rw[hu]
         exact(ih x y u ht hr).mono (fun _ _=>rfl) (fun r h=>h.elim .inl fun⟨q,h1,h2⟩=> .inr ⟨q,hq q h1,h2⟩)
      | mb _ _ Ah=>rw[hk]at Ah;cases Ah
      | dmp _ _ _ Ah=>rw[hk]at Ah;cases Ah
     ·simp at ht
   | fn f a b=>
     simp only[toT,zC,zB,zA]at ht;obtain⟨a',Gd,b',Bf,rfl⟩:=ht;obtain⟨p1,p2⟩:=zbb Gd;obtain⟨q1,q2⟩:=zbb Bf
     cases hr with
     | fn _ _ _ va vb fa fb ha hb Bu Cu Di Eb=>
       refine .fn f a' b' va vb fa fb (by omega) (by omega) ?_ ?_ ?_ ?_
       ·intro j y hj;obtain⟨x,hx,_⟩:=p2 j y hj;exact Bu j x hx
       ·intro j y hj;obtain⟨x,hx,ht⟩:=p2 j y hj;refine(ih x y _ ht (Cu j x hx)).mono (fun _ _=>rfl) (fun r h=>h.elim .inl fun⟨q,h1,h2⟩=> .inr ⟨q,?_,h2⟩);simp only[reach];exact List.mem_append_left _ (List.mem_flatMap.2 ⟨x,zL hx,h1⟩)
       ·intro j y hj;obtain⟨x,hx,_⟩:=q2 j y hj;exact Di j x hx
       ·intro j y hj;obtain⟨x,hx,ht⟩:=q2 j y hj;refine(ih x y _ ht (Eb j x hx)).mono (fun _ _=>rfl) (fun r h=>h.elim .inl fun⟨q,h1,h2⟩=> .inr ⟨q,?_,h2⟩);simp only[reach]
        exact List.mem_append_right _ (List.mem_flatMap.2 ⟨x,zL hx,h1⟩)
   | mm k=>
     simp only[toT]at ht;split at ht
     ·simp only[zA]at ht;subst ht;exact .opq _ hr.one
     ·cases ht
   | yl k=>simp[toT]at ht
   | ifc k x=>simp[toT]at ht
   | agg cs=>simp[toT]at ht
   | tup cs=>simp[toT]at ht
   | undef=>simp[toT]at ht
   | lb=>simp[toT]at ht
theorem zk9 (hH: ∀k o,H k=some o->zq3 w A N μ H (μ k) o) {x y:V} {v:Value} (ht:toT1 H x=some y) (hr:zbl w A N.nm μ H v x) (μ':Nat->Nat) (H':Nat->Option O):
 zcl w (fun r=>A r\/ ∃k∈zba H x,zmY H k/\μ k=r) N.nm μ' H' v y:=by
 have key: ∀{x:V} {t:T},toT H 1000 x=some t->RepC w A N.nm μ H v x->RepT w (fun r=>A r\/ ∃k∈reach H 1000 x,zmY H k/\μ k=r) N.nm v t:=fun h1 h2=>zk8 hH 1000 _ _ _ h1 h2
 cases x with
 | agg cs=>
   simp only[toT1,zE]at ht;obtain⟨ts,FR,rfl⟩:=ht;obtain⟨vs,rfl,hl⟩:=hr;obtain⟨p1,p2⟩:=zbb FR;refine⟨vs,rfl,by rw[hl.1];simp[p1],fun i c hi=> ?_⟩;simp only[zJ,zE]at hi;obtain⟨t,ht,rfl⟩:=hi;obtain⟨x,hx,PB⟩:=p2 i t ht;obtain⟨u,hu,DU⟩:=hl.2 i x hx;refine⟨u,hu,.t ((zk8 hH 1000 x t u PB DU).mono (fun _ _=>rfl) (fun r h=>h.elim .inl fun⟨q,h1,h2⟩=> .inr ⟨q,?_,h2⟩))⟩;simp only[zba]
   exact List.mem_flatMap.2 ⟨x,zL hx,h1⟩
 | yl k=>simp[toT1,toT]at ht
 | ifc k x=>simp[toT1,toT]at ht
 | tup cs=>simp[toT1,toT]at ht
 | undef=>simp[toT1,toT]at ht
 | lb=>simp[toT1,toT]at ht
 | t z=>
   simp only[toT1,zE]at ht;obtain⟨t,ht,rfl⟩:=ht
   exact RepC.t (key ht hr)
 | ms k i l=>
   simp only[toT1,zE]at ht;obtain⟨t,ht,rfl⟩:=ht
   exact RepC.t (key ht hr)
 | mp k i o=>
   simp only[toT1,zE]at ht;obtain⟨t,ht,rfl⟩:=ht
   exact RepC.t (key ht hr)
 | mm k=>
   simp only[toT1,zE]at ht;obtain⟨t,ht,rfl⟩:=ht
   exact RepC.t (key ht hr)
 | fn f a b=>
   simp only[toT1,zE]at ht;obtain⟨t,ht,rfl⟩:=ht;exact RepC.t (key ht hr)
end
section
variable {N:Nam} {c:Ctx} {ns:Nat} {A:Nat->Prop} {μ lam:Nat->Nat} {s:St} {a:Act} {w:World}
theorem Rel.freezes (H0:Nat->Option O): ∀(l:List Nat) (A:Nat->Prop) (s:St),Rel N c ns A μ lam s a w->(∀k sz rs f,H0 k=some (.rows sz rs f)-> ∃f',s.heap k=some (.rows sz rs f'))->
 ∃A',Rel N c ns A' μ lam { s with heap:=zbf s.heap (freezes H0 l) } a w/\(∀r,A r->A' r)/\(∀k∈l,∀sz rs f,H0 k=some (.rows sz rs f)->A' (μ k))
 | [],A,s,R,_=>⟨A,R,fun _ h=>h,by simp⟩
 | k::l,A,s,R,h0=>by
   by_cases hk: ∃sz rs f,H0 k=some (.rows sz rs f)
   ·obtain⟨sz,rs,f,hk⟩:=hk;obtain⟨f',Ah⟩:=h0 k sz rs f hk;have R1:=R.freeze Ah
    obtain⟨A',R2,D5,Aj⟩:=Rel.freezes H0 l _ _ R1 (fun k1 sz1 rs1 f1 h1=>by
     by_cases e:k1=k
     ·subst e;rw[hk]at h1;cases h1;exact⟨true,by simp⟩
     ·obtain⟨f2,h2⟩:=h0 k1 sz1 rs1 f1 h1
      exact⟨f2,by simp only[zad _ _ e];exact h2⟩)
    refine⟨A',?_,fun r h=>D5 r (.inl h),fun k1 h1 sz1 rs1 f1 h2=> ?_⟩
    ·have:Rg.freezes H0 (k::l)=(k,.rows sz rs true)::Rg.freezes H0 l:=by simp[Rg.freezes,hk]
     rw[this];exact R2
    ·rcases List.mem_cons.1 h1 with rfl | h1
     ·exact D5 _ (.inr rfl)
     ·exact Aj k1 h1 sz1 rs1 f1 h2
   ·obtain⟨A',R2,D5,Aj⟩:=Rel.freezes H0 l A s R h0;refine⟨A',?_,D5,fun k1 h1 sz1 rs1 f1 h2=> ?_⟩
    ·have:Rg.freezes H0 (k::l)=Rg.freezes H0 l:=by
      simp only[Rg.freezes,List.filterMap_cons];split
      ·rfl
      ·rename_i x hx;split at hx
       ·rename_i sz rs f h;exact absurd ⟨sz,rs,f,h⟩ hk
       ·simp at hx
     rw[this];exact R2
    ·rcases List.mem_cons.1 h1 with rfl | h1
     ·exact absurd ⟨sz1,rs1,f1,h2⟩ hk
     ·exact Aj k1 h1 sz1 rs1 f1 h2
theorem RepC.scalar {w w':World} {A A':Nat->Prop} {nm μ μ':Nat->Nat} {H H':Nat->Option O} {v:Value} {x:V} (h:RepC w A nm μ H v x) (hx:x.scalar1=true):RepC w' A' nm μ' H' v x:=by
 cases x<;>simp[V.scalar1]at hx
 exact .t ((zbl.t_inv h.toV).scalar hx)
theorem zcl.scalar {w w':World} {A A':Nat->Prop} {nm μ μ':Nat->Nat} {H H':Nat->Option O} {v:Value} {x:V} (h:zcl w A nm μ H v x) (hx:x.scalar2=true):zcl w' A' nm μ' H' v x:=by
 cases x with
 | agg cs=>
   obtain⟨vs,rfl,h1,h2⟩:=h;refine⟨vs,rfl,h1,fun i c hi=> ?_⟩;obtain⟨u,hu,hr⟩:=h2 i c hi
   exact⟨u,hu,hr.scalar (zN.1 hx c (zL hi))⟩
 | t y=>exact RepC.scalar (x:=.t y) h hx
 | _=>simp[V.scalar2,V.scalar1]at hx
theorem zbl.scalar {w w':World} {A A':Nat->Prop} {nm μ μ':Nat->Nat} {H H':Nat->Option O} {v:Value} {x:V} (h:zbl w A nm μ H v x) (hx:x.scalar=true):zbl w' A' nm μ' H' v x:=by
 cases x with
 | tup cs=>
   obtain⟨vs,rfl,h1,h2⟩:=h;refine⟨vs,rfl,h1,fun i c hi=> ?_⟩;obtain⟨u,hu,hr⟩:=h2 i c hi
   exact⟨u,hu,hr.scalar (zN.1 hx c (zL hi))⟩
 | agg cs=>exact(zcl.scalar (x:=.agg cs) h hx).toV
 | t y=>exact(zcl.scalar (x:=.t y) h hx).toV
 | _=>simp[V.scalar,V.scalar2,V.scalar1]at hx
end
end Rg
end
section
namespace Rg
open Go
section
variable {P:Program} {N:Nam} {I:Inv} {c:Ctx} {ns p:Nat} {A:Nat->Prop} {μ lam:Nat->Nat} {s:St} {a:Act} {w:World} {e:Eff} {o:Oper}
theorem zfW (R:Rel N c ns A μ lam s a w) {v:Value} (Am:(execOp a.eval o).run P w= .ok (.value v) w) (hv:zbl w A N.nm μ s.heap v e.val) (h:e.loc=none/\e.wloc=none/\e.hp=[])
 (ha: ∀b o,e.adr=some (b,o)->(s.loc b).isSome=true/\v= .pointer (some ⟨lam b,o,none⟩))
 (hd: ∀x,o.dst=some x->x<ns) (hf:s.free o.dst e):zeB P N c ns o a w (s.apply o.dst e):=
 ⟨v,w,A,μ,lam,.inl Am,R.put o.dst e v hd hf h.1 h.2.1 h.2.2 hv ha⟩
theorem zn6 {t:TypeId} {kd:Nat} (h:zdA P t=some kd): ∃d,P.underlying t=some d/\zfv d=some kd:=by
 unfold zdA at h;split at h<;>first | (simp at h;done) | (rename_i hu;exact⟨_,hu,by simpa[zfv]using h⟩)
theorem zet {t:TypeId} {kd:Nat} (h:zfu P t=some kd):ztx P t kd:=by
 unfold zfu at h;split at h
 ·rename_i k hk;simp only[zA]at h;subst h;obtain⟨d,h1,h2⟩:=zn6 hk;exact .inl ⟨d,h1,h2,hk⟩
 ·simp only[zE]at h;obtain⟨ks,Dn,rfl⟩:=h;exact .inr ⟨ks,Dn,rfl⟩
theorem zj9 {H:Nat->Option O} {d:Nat}: ∀{l:List V} {ts:List T},zeF l=some ts->l.mapM (toT H d)=some ts/\l.flatMap (reach H d)=[]
 | [],ts,h=>by simp[zeF]at h;subst h;exact⟨rfl,rfl⟩
 | .t y::r,ts,h=>by
   simp only[zeF,zE]at h;obtain⟨us,hu,rfl⟩:=h;obtain⟨h1,h2⟩:=zj9 (H:=H) (d:=d) hu;have e1:toT H d (.t y)=some y.norm:=by cases d<;>rfl
   have e2:reach H d (.t y)=[]:=by cases d<;>rfl
   rw[List.mapM_cons,e1,h1,List.flatMap_cons,e2,h2]
   exact⟨rfl,rfl⟩
 | .ms _ _ _::_,_,h | .mp _ _ _::_,_,h | .mm _::_,_,h | .yl _::_,_,h | .ifc _ _::_,_,h | .fn _ _ _::_,_,h | .agg _::_,_,h | .tup _::_,_,h | .undef::_,_,h | .lb::_,_,h=>by simp[zeF]at h
theorem zI5 {t:TypeId} (h:zHX P t=false): ∃d,P.underlying t=some d/\ ∀m,d≠ .interface m:=by
 unfold zHX at h;split at h
 ·cases h
 ·cases h
 ·rename_i h1 h2
  cases hu:P.underlying t with
  | none=>exact absurd hu h2
  | some d=>exact⟨d,rfl,fun m e=>h1 m (by rw[hu,e])⟩
theorem zPp (hI:I.Ok N) (R:Rel N c ns A μ lam s a w) {t:TypeId} {q:Nat×Nat} {x:Operand} {x':Opd} (hq:I.tys.find? (·.2==t)=some q) (hx:opd I x=some x') (Az:zHX P t=false)
 (he:zaj N.G p s (.mkif q.1 x')=some e):zdb N A μ s w ((Instr.makeInterface t (a.eval x)).run P w) e:=by
 simp only[zaj,zC,zB]at he;obtain⟨v,hv,he⟩:=he;split at he
 ·rename_i hc;simp only[zA]at he;subst he;obtain⟨d,hd,hn⟩:=zI5 Az;have Ug:q.2=t:=by simpa using List.find?_some hq
  refine⟨.iface t (a.eval x),?_,RepC.toV (.ifc q.1 t v _ (by rw[<- Ug];exact hI.ty q.1 q.2 (List.mem_of_find?_eq_some hq)) ((zat hI R hx hv).cell hc)),rfl,rfl,rfl,rfl⟩;cases d<;>first | exact absurd rfl (hn _) | simp[Instr.makeInterface,run_underlying hd]
 ·cases he
theorem RepT.nili_inv {w:World} {A:Nat->Prop} {nm:Nat->Nat} {v:Value} (h:RepT w A nm v .nili):v= .nilIface:=by cases h;rfl
theorem zbl.ifc_inv {w:World} {A:Nat->Prop} {nm μ:Nat->Nat} {H:Nat->Option O} {v:Value} {k:Nat} {x:V} (h:zbl w A nm μ H v (.ifc k x)): ∃t u,v= .iface t u/\nm k=10000000+t/\RepC w A nm μ H u x:=by
 cases(h:RepC w A nm μ H v (.ifc k x))with
 | ifc _ t _ u hk hx=>exact⟨t,u,rfl,hk,hx⟩
theorem zMo (hI:I.Ok N) (R:Rel N c ns A μ lam s a w) {t xt:TypeId} {q:Nat×Nat} {z:V} {ok:Bool} {x:Operand} {x':Opd} (hq:I.tys.find? (·.2==t)=some q) (hz:ztK P t=some z) (hx:opd I x=some x') (Az:zHX P t=false)
 (he:zaj N.G p s (.tassert q.1 z ok x')=some e):zdb N A μ s w ((Instr.typeAssert (a.eval x) xt t ok).run P w) e:=by
 simp only[zaj,zC,zB]at he;obtain⟨v,hv,he⟩:=he;obtain⟨d,hd,hn⟩:=zI5 Az;have Ug:q.2=t:=by simpa using List.find?_some hq
 have hr:=zat hI R hx hv;split at he
 ·rename_i k v;split at he
  ·rename_i hk;subst hk;simp only[zA]at he;subst he;obtain⟨t',u,hu,hk,Nj⟩:=hr.ifc_inv
   have ht:t'=t:=by
    have h1:=hI.ty q.1 q.2 (List.mem_of_find?_eq_some hq);rw[Ug,hk]at h1;exact Nat.add_left_cancel h1
   subst ht;refine⟨if ok then .tuple #[u,.bool true]else u,?_,?_,rfl,rfl,rfl,rfl⟩
   ·rw[hu];cases d<;>first | exact absurd rfl (hn _) | (cases ok<;>simp[Instr.typeAssert,run_underlying hd])
   ·cases ok
    ·exact Nj.toV
    ·refine⟨#[u,.bool true],rfl,rfl,fun i c hi=> ?_⟩
     match i,hi with
     | 0,hi=>cases hi;exact⟨u,rfl,Nj.toV1⟩
     | 1,hi=>cases hi;exact⟨_,rfl,RepC.t (.bool true)⟩
     | i+2,hi=>simp at hi
  ·cases he
 ·split at he
  ·rename_i G2;subst G2;simp only[zA]at he;subst he;have D7:a.eval x= .nilIface:=hr.t_inv.nili_inv;obtain⟨zv,UM,ON⟩:=zra (P:=P) (N:=N) (A:=A) (μ:=μ) (H:=s.heap) hz;refine⟨.tuple #[zv,.bool false],?_,?_,rfl,rfl,rfl,rfl⟩
   ·rw[D7];cases d<;>first | exact absurd rfl (hn _) | simp[Instr.typeAssert,run_underlying hd,UM]
   ·refine⟨#[zv,.bool false],rfl,rfl,fun i c hi=> ?_⟩
    match i,hi with
    | 0,hi=>cases hi;exact⟨zv,rfl,ON w⟩
    | 1,hi=>cases hi;exact⟨_,rfl,RepC.t (.bool false)⟩
    | i+2,hi=>simp at hi
  ·cases he
 ·cases he
theorem zwi (hI:I.Ok N) (R:Rel N c ns A μ lam s a w) {f k:Nat} {xs ys:Array Operand} {x':Opd} (BJ:I.fi f=some k) (hx:opds I xs=some []) (hy:opds I ys=some [x']) (ho:o.op= .makeFunc (.func f) xs ys)
 (hd: ∀x,o.dst=some x->x<ns) (hf:s.free o.dst e) (he:zaj N.G p s (.mkfnT k x')=some e):zeB P N c ns o a w (s.apply o.dst e):=by
 simp only[zaj,zC,zB]at he;obtain⟨v,hv,he⟩:=he;split at he
 ·rename_i q i0 o0;split at he
  ·rename_i sz row frz hq;split at he
   case isFalse=>simp at he
   rename_i Mi;obtain⟨rfl,rfl⟩:=Mi;simp only[zB,zA]at he;obtain⟨ts,FR,rfl⟩:=he
   have Jv:zaj N.G p s (.mkfn k [] [x'])=some { val:=.fn k [] [.mp q 0 0] }:=by
    simp[zaj,zgE,hv,zqq,V.isCell]
   obtain⟨fv,Am,Ae,_⟩:=zvF (P:=P) hI R BJ hx hy Jv;obtain⟨h1,h2⟩:=zj9 (H:=s.heap) (d:=998) FR
   have hT:toT s.heap 1000 (.fn k [] [.mp q 0 0])=some (.fn k [] [.ip ts]):=by
    simp[toT,hq,h1]
   have hR:reach s.heap 1000 (.fn k [] [.mp q 0 0])=[q]:=by
    simp[reach,hq,h2]
   have R1:=R.freeze hq;have DM:=zk8 R.heap 1000 _ _ fv hT Ae;rw[hR]at DM
   have Cf:zbl w (fun r=>A r\/r=μ q) N.nm μ (upd s.heap q (some (.rows sz [row] true))) fv (.t (.fn k [] [.ip ts])):=by
    refine RepC.toV (RepC.t (DM.mono (fun _ _=>rfl) ?_));rintro r (h | ⟨k',Ah,_,rfl⟩)
    ·exact .inl h
    ·rw[List.mem_singleton]at Ah;subst Ah;exact .inr rfl
   have R2:=R1.put o.dst { val:=.t (.fn k [] [.ip ts]) } fv hd (fun d IB=>hf d IB) rfl rfl rfl Cf (by simp);exact⟨fv,w,_,μ,lam,.inl (by simp only[execOp,ho,Sem.run_bind,Sem.run_pure,Am];rfl),R2⟩
  ·simp at he
 ·simp at he
theorem zsX (hI:I.Ok N) (R:Rel N c ns A μ lam s a w) {isL:Nat->Bool} {op:AOp} (hc:zbq P I isL o.dst o.op=some op) (he:zaj N.G p s op=some e)
 (hd: ∀x,o.dst=some x->x<ns) (hf:s.free o.dst e) (hk:s.heap (s.bas+p)=none) (hn:s.bas+p<s.nxt):zeB P N c ns o a w (s.apply o.dst e):=by
 generalize Ao:o.op=rop at hc
 cases rop with
 | move x=>
   simp only[zbq,zE]at hc;obtain⟨y,hy,rfl⟩:=hc;obtain⟨h1,h2,h3,h4,h5⟩:=zCu hI R hy he
   exact zfW R (by simp[execOp,Ao]) h1 ⟨h3,h4,h5⟩ (by simp[h2]) hd hf
 | assign x=>
   simp only[zbq,zE]at hc;obtain⟨y,hy,rfl⟩:=hc;obtain⟨h1,h2,h3,h4,h5⟩:=zCu hI R hy he
   exact zfW R (by simp[execOp,Ao]) h1 ⟨h3,h4,h5⟩ (by simp[h2]) hd hf
 | pick c a' b=>
   simp only[zbq,zC,zB,zA]at hc;obtain⟨yc,Hs,ya,P6,yb,Ml,rfl⟩:=hc;obtain⟨t,ht,h1,h2,h3,h4,h5⟩:=zxW hI R Hs P6 Ml he
   exact zfW R (by simp[execOp,Ao,ht,asBool]) h1 ⟨h3,h4,h5⟩ (by simp[h2]) hd hf
 | alloc t=>
   simp only[zbq,zC,zB]at hc;obtain⟨z,hz,hc⟩:=hc;split at hc
   ·rename_i MZ;split at hc
    ·rename_i hl;simp only[zA]at hc;subst hc;exact zua R hz hl.2 (hI.b _ MZ) Ao hd hf hk hn he
    ·cases hc
   split at hc
   ·rename_i hl;simp only[zA]at hc;subst hc
    cases AI:o.dst with
    | none=>simp[zyU,AI]at hl
    | some d=>rw[<- AI];exact zt8 R hz Ao AI hd hf he
   ·split at hc
    ·simp only[zA]at hc;subst hc;exact zNA R hz Ao hd hf hk hn he
    simp only[zA]at hc;subst hc
    exact zt9 R hz Ao hd hf hk hn he
 | box t x=>
   simp only[zbq,zC,zB,Prod.exists]at hc;obtain⟨ag,n,A6,y,hy,hc⟩:=hc;split at hc
   ·rename_i hl;simp only[zA]at hc;subst hc
    cases AI:o.dst with
    | none=>simp[zyU,AI]at hl
    | some d=>rw[<- AI];exact zx7 hI R hy Ao AI hd hf he
   ·split at hc
    ·simp only[zA]at hc;subst hc;exact zPq hI R hy Ao hd hf hk hn he
    simp only[zA]at hc;subst hc
    exact zx8 hI R hy Ao hd hf hk hn he
 | build t parts=>
   simp only[zbq,zC,zB]at hc;obtain⟨z,hz,hc⟩:=hc;split at hc
   ·rename_i fields hu;simp only[zB]at hc;obtain⟨ps,Cd,hc⟩:=hc;split at hc
    ·rename_i Aa;simp only[zA]at hc;subst hc;obtain⟨h1,h2⟩:=zbb Cd
     have hg:zdb N A μ s w ((Instr.build t (parts.map fun(i,x)=>(i,a.eval x))).run P w) e:=by
      refine zrF hI R hz (.inl ⟨fields,hu,Aa,rfl⟩) ⟨h1,fun i q hi=> ?_⟩ he;obtain⟨⟨j,x⟩,hx,hf⟩:=h2 i q hi;simp only[zB,zA,Prod.exists]at hf;obtain⟨f,H6,ag,n,A6,y,hy,rfl⟩:=hf;obtain⟨inf,g1,g2,_⟩:=zbr A6;exact⟨(j,x),hx,by simp[H6,g1,g2],hy⟩
     exact hg.sound R (by simp only[execOp,Ao,Sem.run_bind,Sem.run_pure]) hd hf
    ·simp at hc
   ·rename_i len el hu;simp only[zB,zA,Prod.exists]at hc;obtain⟨ag,n,A6,ps,Cd,rfl⟩:=hc;obtain⟨h1,h2⟩:=zbb Cd
    have hg:zdb N A μ s w ((Instr.build t (parts.map fun(i,x)=>(i,a.eval x))).run P w) e:=by
     refine zrF hI R hz (.inr ⟨len,el,ag,n,hu,A6,rfl⟩) ⟨h1,fun i q hi=> ?_⟩ he;obtain⟨⟨j,x⟩,hx,hf⟩:=h2 i q hi;simp only[zB,zA]at hf;obtain⟨y,hy,rfl⟩:=hf;exact⟨(j,x),hx,rfl,hy⟩
    exact hg.sound R (by simp only[execOp,Ao,Sem.run_bind,Sem.run_pure]) hd hf
   ·simp at hc
 | buildSlice t len parts=>
   simp only[zbq]at hc;split at hc
   ·rename_i el hu;simp only[zC,zB,Prod.exists]at hc;obtain⟨ag,n,A6,z,hz,ps,Cd,hc⟩:=hc;split at hc
    ·rename_i Bw;simp only[zA]at hc;subst hc;obtain⟨h1,h2⟩:=zbb Cd;split at he
     ·refine zQ5 hI R hu A6 hz Bw.2.2 Bw.1 ⟨h1,fun i q hi=> ?_⟩ Ao hd hf he;obtain⟨⟨j,x⟩,hx,hf⟩:=h2 i q hi;simp only[zB,zA]at hf;obtain⟨y,hy,rfl⟩:=hf;exact⟨(j,x),hx,rfl,hy⟩
     refine zt6 hI R hu A6 hz Bw.2.2 Bw.1 ⟨h1,fun i q hi=> ?_⟩ Ao hd hf hk hn he;obtain⟨⟨j,x⟩,hx,hf⟩:=h2 i q hi;simp only[zB,zA]at hf;obtain⟨y,hy,rfl⟩:=hf;exact⟨(j,x),hx,rfl,hy⟩
    ·simp at hc
   ·simp at hc
 | load t x=>
   simp only[zbq,zC,zB,Prod.exists]at hc;obtain⟨ag,n,A6,y,hy,hc⟩:=hc;split at hc
   ·simp only[zA]at hc;subst hc;exact(zwj (P:=P) R hy A6 he).sound R (by simp only[execOp,Ao,Sem.run_bind,Sem.run_pure]) hd hf
   ·simp only[zA]at hc;subst hc
    exact(zxX (P:=P) hI R hy A6 he).sound R (by simp only[execOp,Ao,Sem.run_bind,Sem.run_pure]) hd hf
 | store t x v=>
   simp only[zbq,zC,zB,Prod.exists]at hc;obtain⟨ag,n,A6,y,hy,z,hz,hc⟩:=hc;split at hc
   ·simp at hc
   ·rename_i DQ;have LH:o.dst=none:=by simpa using DQ
    split at hc
    ·simp only[zA]at hc;subst hc;exact zt0 hI R hy hz A6 Ao he LH
    ·split at hc
     ·simp only[zA]at hc;subst hc;exact zNz hI R hy hz A6 Ao he LH
     simp only[zA]at hc;subst hc
     exact zwf hI R hy hz A6 Ao he LH
 | nilCheck x=>
   simp only[zbq,zE]at hc;obtain⟨y,hy,rfl⟩:=hc;obtain⟨v,h0,h1,h2,h3,h4,h5⟩:=zt1 (P:=P) hI R hy he o Ao
   exact zfW R h0 h1 ⟨h3,h4,h5⟩ (by simp[h2]) hd hf
 | binOp bop t x y yt=>
   simp only[zbq,zC,zB]at hc;obtain⟨x',hx,y',hy,hc⟩:=hc
   have Am:(execOp a.eval o).run P w=((do eqGuard bop t x y (a.eval x) (a.eval y);binOp bop t (a.eval x) (a.eval y):Sem Value).run P w).andThen fun v w'=> .ok (.value v) w':=by
    simp only[execOp,Ao,Sem.run_bind,Sem.run_pure]
   split at hc
   ·simp only[zA]at hc;subst hc;exact(zx9 (P:=P) hI R hx hy he t).sound R Am hd hf
   ·simp only[zA]at hc;subst hc;exact(zx9 (P:=P) hI R hx hy he t).sound R Am hd hf
   ·rename_i hu;split at hc
    ·simp only[zA]at hc;subst hc;exact(zx2 (P:=P) hI R hx hy he hu rfl).sound R Am hd hf
    ·simp only[zA]at hc;subst hc;exact(zx2 (P:=P) hI R hx hy he hu rfl).sound R Am hd hf
    ·simp at hc
   ·simp only[zB]at hc;obtain⟨ks,Dn,hc⟩:=hc;split at hc
    ·simp only[zA]at hc;subst hc;exact(zvG (P:=P) hI R hx hy he Dn rfl).sound R Am hd hf
    ·simp only[zA]at hc;subst hc;exact(zvG (P:=P) hI R hx hy he Dn rfl).sound R Am hd hf
    ·simp at hc
   ·simp at hc
 | unOp uop t x=>
   simp only[zbq,zE]at hc;obtain⟨y,hy,rfl⟩:=hc
   exact(zC2 (P:=P) hI R hy he).sound R (by simp only[execOp,Ao,Sem.run_bind,Sem.run_pure]) hd hf
 | convert src dst x=>
   simp only[zbq,zC,zB]at hc;obtain⟨y,hy,hc⟩:=hc;split at hc
   ·rename_i h1 h2;simp only[zA]at hc;subst hc;exact(zx4 (P:=P) hI R hy he h1 h2).sound R (by simp only[execOp,Ao,Sem.run_bind,Sem.run_pure]) hd hf
   ·rename_i h1 h2;split at hc
    ·rename_i h3;simp only[zA]at hc;subst hc;exact(zx6 (P:=P) hI R hy he h1 h2 h3).sound R (by simp only[execOp,Ao,Sem.run_bind,Sem.run_pure]) hd hf
    ·cases hc
   ·simp at hc
 | makeFunc fn first cap=>
   cases fn with
   | func f=>
     simp only[zbq,zC,zB]at hc;obtain⟨k,Ah,xs,Ka,ys,FN,hc⟩:=hc;split at hc
     ·simp only[zA]at hc;subst hc;exact zwi hI R Ah Ka FN Ao hd hf he
     simp only[zA]at hc;subst hc
     exact(zvF (P:=P) hI R Ah Ka FN he).sound R (by simp only[execOp,Ao,Sem.run_bind,Sem.run_pure]) hd hf
   | _=>simp[zbq]at hc
 | makeSlice t l cp=>
   simp only[zbq]at hc;split at hc
   ·rename_i el hu;simp only[zC,zB,Prod.exists]at hc;obtain⟨ag,n,A6,z,hz,i,hi,l',hl,c',Bz,hc⟩:=hc;split at hc
    ·rename_i Bw;simp only[zA]at hc;subst hc;exact zrC hI R hl Bz hu A6 hz hi Ao Bw.1 hd hf hk hn he
    ·simp at hc
   ·simp at hc
 | slice t x lo hi mx=>
   simp only[zbq,zC,zB]at hc;obtain⟨y,hy,l,hl,h,hh,m,hm,hc⟩:=hc;split at hc
   ·rename_i el hu;simp only[zB,zA,Prod.exists]at hc;obtain⟨ag,n,A6,rfl⟩:=hc;exact(zwh (P:=P) hI R hy hl hh hm hu A6 he).sound R (by simp only[execOp,Ao,Sem.run_bind,Sem.run_pure]) hd hf
   ·rename_i hu;split at hc
    ·rename_i N3;simp only[zA]at hc;subst hc
     have Km:mx=none:=by
      cases mx with
      | none=>rfl
      | some z=>
        simp only[znu,zE]at hm;obtain⟨_,_,rfl⟩:=hm;simp at N3
     subst Km;exact(zwg (P:=P) hI R hy hl hh hu he).sound R (by simp only[execOp,Ao,Sem.run_bind,Sem.run_pure,Option.map_none]) hd hf
    ·simp at hc
   ·rename_i n el hu;simp only[zB,Prod.exists]at hc;obtain⟨ag,k,A6,hc⟩:=hc;split at hc
    ·rename_i N3;obtain⟨N3,rfl,_⟩:=N3;simp only[zA]at hc;subst hc
     have Km:mx=none:=by
      cases mx with
      | none=>rfl
      | some z=>
        simp only[znu,zE]at hm;obtain⟨_,_,rfl⟩:=hm;simp at N3
     subst Km;exact(zOB (P:=P) hI R hy hl hh hu A6 he).sound R (by simp only[execOp,Ao,Sem.run_bind,Sem.run_pure,Option.map_none]) hd hf
    ·cases hc
   ·simp at hc
 | fieldAddr t x f=>
   simp only[zbq,zC,zB]at hc;obtain⟨y,hy,hc⟩:=hc;split at hc
   ·rename_i fields hu;simp only[zB,Prod.exists]at hc;obtain⟨fd,D3,ag,n,A6,hc⟩:=hc;split at hc
    ·rename_i CB;split at hc
     ·simp only[zA]at hc;subst hc;obtain⟨v,h0,h1,h2,h3,h4,h5⟩:=zt5 (P:=P) R hy hu D3 A6 CB he;exact zfW R (v:=v) (by simp only[execOp,Ao,Sem.run_bind,h0,Result.andThen_ok,Sem.run_pure]) h1 ⟨h2,h3,h4⟩ h5 hd hf
     ·simp only[zA]at hc;subst hc;exact(zwl (P:=P) hI R hy hu D3 A6 CB he).sound R (by simp only[execOp,Ao,Sem.run_bind,Sem.run_pure]) hd hf
    ·simp at hc
   ·simp at hc
 | field t x f=>
   simp only[zbq,zC,zB]at hc;obtain⟨y,hy,hc⟩:=hc;split at hc
   ·rename_i fields hu;simp only[zB,zA,Prod.exists]at hc;obtain⟨fd,D3,ag,n,A6,rfl⟩:=hc;exact(zwk (P:=P) hI R hy hu D3 A6 he).sound R (by simp only[execOp,Ao,Sem.run_bind,Sem.run_pure]) hd hf
   ·simp at hc
 | indexAddr t x i=>
   simp only[zbq,zC,zB]at hc;obtain⟨y,hy,j,hj,hc⟩:=hc;split at hc
   ·rename_i el hu;simp only[zB,zA,Prod.exists]at hc;obtain⟨ag,n,A6,rfl⟩:=hc;exact(zt3 (P:=P) hI R hy hj hu A6 he).sound R (by simp only[execOp,Ao,Sem.run_bind,Sem.run_pure]) hd hf
   ·rename_i len el hu;simp only[zB,Prod.exists]at hc;obtain⟨ag,n,A6,hc⟩:=hc;split at hc
    ·simp only[zA]at hc;subst hc;obtain⟨v,h0,h1,h2,h3,h4,h5⟩:=zMp (P:=P) hI R hy hj hu A6 he;exact zfW R (v:=v) (by simp only[execOp,Ao,Sem.run_bind,h0,Result.andThen_ok,Sem.run_pure]) h1 ⟨h2,h3,h4⟩ h5 hd hf
    ·simp only[zA]at hc;subst hc;exact(zt4 (P:=P) hI R hy hj hu A6 he).sound R (by simp only[execOp,Ao,Sem.run_bind,Sem.run_pure]) hd hf
   ·simp at hc
 | index t x i=>
   simp only[zbq,zC,zB]at hc;obtain⟨y,hy,j,hj,hc⟩:=hc;split at hc
   ·rename_i len el hu;simp only[zB,zA,Prod.exists]at hc;obtain⟨ag,n,A6,rfl⟩:=hc;exact(zx0 (P:=P) hI R hy hj hu A6 he).sound R (by simp only[execOp,Ao,Sem.run_bind,Sem.run_pure]) hd hf
   ·rename_i hu;simp only[zA]at hc;subst hc;exact(zxZ (P:=P) hI R hy hj hu he).sound R (by simp only[execOp,Ao,Sem.run_bind,Sem.run_pure]) hd hf
   ·simp at hc
 | extract x i=>
   simp only[zbq,zC,zB,zA]at hc;obtain⟨y,hy,rfl⟩:=hc
   exact(zx1 (P:=P) hI R hy he).sound R (by simp only[execOp,Ao,Sem.run_bind,Sem.run_pure]) hd hf
 | makeMap t r=>
   simp only[zbq]at hc;split at hc
   ·rename_i hu;simp only[zA]at hc;subst hc;exact zrD R hu (by simp) Ao hd hf hk hn he
   ·rename_i k n hu;simp only[zA]at hc;subst hc;exact zrD R hu (fun x hx=>by simp only[zA]at hx;subst hx;exact⟨k,n,rfl⟩) Ao hd hf hk hn he
   ·simp at hc
 | lookup t x y ok=>
   simp only[zbq,zC,zB]at hc;obtain⟨x',hx,y',hy,hc⟩:=hc;split at hc
   ·rename_i kt et hu;simp only[zB,zA]at hc;obtain⟨kd,EL,z,hz,rfl⟩:=hc;exact(zt2 (P:=P) hI R hx hy hu (zet EL) hz he).sound R (by simp only[execOp,Ao,Sem.run_bind,Sem.run_pure]) hd hf
   ·simp at hc
 | mapUpdate t x y v=>
   simp only[zbq,zC,zB]at hc;obtain⟨x',hx,y',hy,v',hv,hc⟩:=hc;split at hc
   ·rename_i kt et hu;simp only[zB]at hc;obtain⟨kd,EL,hc⟩:=hc;split at hc
    ·simp at hc
    ·rename_i DQ;simp only[zA]at hc;subst hc;exact zoV hI R hx hy hv hu (zet EL) (.inl Ao) he (by simpa using DQ)
   ·simp at hc
 | insert t x y v=>
   simp only[zbq,zC,zB]at hc;obtain⟨x',hx,y',hy,v',hv,hc⟩:=hc;split at hc
   ·rename_i kt et hu;simp only[zB]at hc;obtain⟨kd,EL,hc⟩:=hc;split at hc
    ·simp at hc
    ·rename_i DQ;simp only[zA]at hc;subst hc;exact zoV hI R hx hy hv hu (zet EL) (.inr Ao) he (by simpa using DQ)
   ·simp at hc
 | call cl=>
   simp only[zbq]at hc;split at hc
   ·simp at hc
   ·rename_i hb;split at hc
    ·rename_i t x Bj Dh;have If:cl.argTypes= #[t]:=Array.toList_inj.1 Bj;have Oq:cl.args= #[x]:=Array.toList_inj.1 Dh;have AP:=zu5 (P:=P) (w:=w) (a:=a) Ao hb;rw[If,Oq]at AP;simp only[List.map_toArray,List.map_cons,List.map_nil]at AP;split at hc
     ·rename_i el hu;simp only[zE]at hc;obtain⟨y,hy,rfl⟩:=hc;exact(zBl (P:=P) hI R hy hu he).sound R AP hd hf
     ·rename_i hu;simp only[zE]at hc;obtain⟨y,hy,rfl⟩:=hc;exact(zxV (P:=P) hI R hy hu he).sound R AP hd hf
     ·rename_i n el hu;simp only[zA]at hc;subst hc;exact(zxY (P:=P) hu he).sound R AP hd hf
     ·simp at hc
    ·simp at hc
   ·rename_i hb;split at hc
    ·rename_i t u x y Bj Dh;simp only[zC,zB]at hc;obtain⟨x',hx,y',hy,hc⟩:=hc;split at hc
     ·rename_i el el' h1 h2;simp only[zB,Prod.exists]at hc;obtain⟨ag,n,A6,i,hi,z,hz,hc⟩:=hc;split at hc
      ·rename_i Bw;simp only[zA]at hc;subst hc;exact zt7 hI R hx hy h1 h2 A6 hi hz Bw.2 Bw.1 Ao hb (Array.toList_inj.1 Bj) (Array.toList_inj.1 Dh) hd hf hk hn he
      ·simp at hc
     ·rename_i el k h1 h2;simp only[zB,Prod.exists]at hc;obtain⟨ag,n,A6,i,hi,z,hz,hc⟩:=hc;split at hc
      ·rename_i Bw;simp only[zA]at hc;subst hc;exact zya hI R hx hy h1 h2 A6 hi hz Bw.1 Ao hb (Array.toList_inj.1 Bj) (Array.toList_inj.1 Dh) hd hf hk hn he
      ·simp at hc
     ·simp at hc
    ·simp at hc
   ·rename_i hb;split at hc
    ·rename_i t u x y Bj Dh;simp only[zC,zB]at hc;obtain⟨x',hx,y',hy,hc⟩:=hc;split at hc
     ·rename_i el h1;simp only[zB,Prod.exists]at hc;obtain⟨ag,n,A6,hc⟩:=hc;split at hc
      ·rename_i CB;simp only[zA]at hc;subst hc;exact zx3 hI R hx hy h1 A6 CB Ao hb (Array.toList_inj.1 Bj) (Array.toList_inj.1 Dh) hd hf he
      ·simp at hc
     ·simp at hc
    ·simp at hc
   ·rename_i hb;split at hc
    ·rename_i t1 t2 x y Bj Dh;simp only[zC,zB,zA]at hc;obtain⟨x',hx,y',hy,rfl⟩:=hc;have AP:=zu4 (P:=P) (w:=w) (a:=a) Ao hb;rw[Array.toList_inj.1 (Dh:cl.args.toList= #[x,y].toList)]at AP;simp only[List.map_toArray,List.map_cons,List.map_nil]at AP;exact(zCt (P:=P) (mn:=false) hI R hx hy he cl.argTypes o.type).sound R AP hd hf
    ·simp at hc
   ·rename_i hb;split at hc
    ·rename_i t1 t2 x y Bj Dh;simp only[zC,zB,zA]at hc;obtain⟨x',hx,y',hy,rfl⟩:=hc;have AP:=zu3 (P:=P) (w:=w) (a:=a) Ao hb;rw[Array.toList_inj.1 (Dh:cl.args.toList= #[x,y].toList)]at AP;simp only[List.map_toArray,List.map_cons,List.map_nil]at AP;exact(zCt (P:=P) (mn:=true) hI R hx hy he cl.argTypes o.type).sound R AP hd hf
    ·simp at hc
   ·rename_i hb;split at hc
    ·rename_i t x Bj Dh;simp only[zC,zB]at hc;obtain⟨x',hx,hc⟩:=hc;split at hc
     ·rename_i el h1;simp only[zB,Prod.exists]at hc;obtain⟨ag,n,A6,z,hz,hc⟩:=hc;split at hc
      ·rename_i CB;simp only[zA]at hc;subst hc;exact zwm hI R hx h1 A6 CB.1 hz CB.2 Ao hb (Array.toList_inj.1 Bj) (Array.toList_inj.1 Dh) hd hf he
      ·simp at hc
     ·simp at hc
    ·simp at hc
   ·rename_i hb;split at hc
    ·rename_i t x Bj Dh;have AP:=zu6 (P:=P) (w:=w) (a:=a) Ao hb;rw[Array.toList_inj.1 (Bj:cl.argTypes.toList= #[t].toList),Array.toList_inj.1 (Dh:cl.args.toList= #[x].toList)]at AP;simp only[List.map_toArray,List.map_cons,List.map_nil]at AP;split at hc
     ·rename_i el hu;simp only[zE]at hc;obtain⟨y,hy,rfl⟩:=hc;exact(zx5 (P:=P) hI R hy hu he).sound R AP hd hf
     ·simp at hc
    ·simp at hc
   ·simp at hc
 | panic x=>
   simp only[zbq,zA]at hc;subst hc
   simp[zaj]at he
 | makeInterface t x=>
   simp only[zbq]at hc;split at hc
   ·rename_i q hq;split at hc
    ·cases hc
    ·rename_i Az;simp only[zE]at hc;obtain⟨y,hy,rfl⟩:=hc;exact(zPp (P:=P) hI R hq hy (by simpa using Az) he).sound R (by simp only[execOp,Ao,Sem.run_bind,Sem.run_pure]) hd hf
   ·simp only[zA]at hc;subst hc
    simp[zaj]at he
 | typeAssert x xt t ok=>
   simp only[zbq,zC,zB]at hc;obtain⟨q,hq,z,hz,y,hy,hc⟩:=hc;split at hc
   ·cases hc
   ·rename_i Az;simp only[zA]at hc;subst hc
    exact(zMo (P:=P) (xt:=xt) hI R hq hz hy (by simpa using Az) he).sound R (by simp only[execOp,Ao,Sem.run_bind,Sem.run_pure]) hd hf
 | _=>simp[zbq]at hc
end
end Rg
end
section
namespace Rg
open Go
def zb1 (w:World) (A:Nat->Prop) (nm μ:Nat->Nat) (H:Nat->Option O) (vs:Array Value) (xs:List V):Prop:=
 vs.size=xs.length/\ ∀(i:Nat) (x:V),xs[i]? =some x-> ∃v,vs[i]? =some v/\zbl w A nm μ H v x
theorem zb1.append {w:World} {A:Nat->Prop} {nm μ:Nat->Nat} {H:Nat->Option O} {vs us:Array Value} {xs ys:List V} (h:zb1 w A nm μ H vs xs) (h':zb1 w A nm μ H us ys):
 zb1 w A nm μ H (vs++us) (xs++ys):=by
 refine⟨by simp[h.1,h'.1],fun i x hi=> ?_⟩;rw[List.getElem?_append]at hi;split at hi
 ·rename_i Ad;obtain⟨v,hv,hr⟩:=h.2 i x hi;exact⟨v,by rw[Array.getElem?_append_left (by rw[h.1];exact Ad)];exact hv,hr⟩
 ·rename_i Bv;obtain⟨v,hv,hr⟩:=h'.2 _ x hi;exact⟨v,by rw[Array.getElem?_append_right (by rw[h.1];omega),h.1];exact hv,hr⟩
def zpW (N:Nam) (A:Nat->Prop) (w:World):Prop:=
 ∀(g j:Nat) (x:T),(N.GL g)[j]? =some x->A (N.gm g)/\(∃e,w.shape? (N.gm g)=some (e,(N.GL g).length))/\ ∃v,w.cell? ⟨N.gm g,j,none⟩=some v/\RepT w A N.nm v x
def zjO (P:Program) (N:Nam) (g:Nat) (args:List V) (r:V):Prop:=
 ∀(A:Nat->Prop) (w:World) (vs:Array Value),(∀r,A r->r<w.heap.size)->zpW N A w->zb1 w A N.nm (fun _=>0) (fun _=>none) vs args->
  Calls P (N.nm g) vs w fun e w'=> ∃v,e= .returned v/\(w'.os=w.os/\w'.output=w.output)/\w.heap.size<=w'.heap.size/\(∀q,q<w.heap.size->w'.heap[q]? =w.heap[q]?)/\
   zbl w' (fun q=>A q\/(w.heap.size<=q/\q<w'.heap.size)) N.nm (fun _=>0) (fun _=>none) v r
def FW (ro:Option Nat):Fence:={ Fence.wide with round:=ro }
theorem zjQ {ro:Option Nat} {k:Nat}:(FW ro).room k:=fun _ h=>by simp[FW,Fence.wide]at h
theorem zhg {ro:Option Nat} {n:Nat}:(FW ro).depth.isSome=true->1<=n:=fun h=>by simp[FW,Fence.wide]at h
theorem zlS {P:Program} {ro:Option Nat} {n f:Nat} {args:Array Value} {w:World} {R:Ending->World->Prop} (h:Calls P f args w R):CallsIn (FW ro) n P f args w R:=(callsIn_wide (n:=n)).2 h
def zAL:Ex->Exit
 | .normal=> .normal
 | .exit id=> .exit id
 | .ret=> .ret
def ztw (N:Nam) (c:Ctx) (ns:Nat) (ex:Ex) (s':St) (e:Exit) (a':Act) (w':World):Prop:=
 e=zAL ex/\ ∃A' μ' lam',Rel N c ns A' μ' lam' s' a' w'
def zk5 (P:Program) (N:Nam) (bd:C) (s:St) (ex:Ex) (s':St):Prop:=
 ∀rc m,N.cr rc m bd-> ∀l c A μ lam a w,Rel N c m A μ lam s a w->rc.wpIn (FW (some l)) 0 P (ztw N c m ex s') a w
def zaM:Act:={ tmps:= #[],defers:=[] }
def zns (P:Program) (N:Nam) (g:Nat) (args:List V) (H:Nat->Option O) (n:Nat) (r:V) (H':Nat->Option O) (n':Nat):Prop:=
 ∀(c:Ctx) (A:Nat->Prop) (μ lam:Nat->Nat) (w:World) (vs:Array Value),Rel N c 0 A μ lam (.init [] H n) zaM w->zb1 w A N.nm μ H vs args->
  Calls P (N.nm g) vs w fun e w'=> ∃v A' μ' lam',e= .returned v/\Rel N c 0 A' μ' lam' (.init [] H' n') zaM w'/\zbl w' A' N.nm μ' H' v r
structure Real (P:Program) (F:Nat) (rf:Func):Prop where
 f:P.funcs[F]? =some rf
 b:rf.body.isSome=true
 n : (rf.name == "runtime.NumGoroutine") = false
section
variable {P:Program} {N:Nam} {I:Inv} {c:Ctx} {ns p:Nat} {A:Nat->Prop} {μ lam:Nat->Nat} {s:St} {a:Act} {w:World} {e:Eff} {o:Oper} {ro:Option Nat}
theorem zjo {cl:Call} {f:Operand} {F:Nat} {va vb:Array Value} {rf:Func} (ho:o.op= .call cl) (hb:cl.callee= .value f) (hv:a.eval f= .func (.func F) va vb) (hr:Real P F rf):
 (execOp a.eval o).run P w= .ok (.enter F (va++cl.args.map a.eval++vb)) w:=by
 have H8:rf.body.isNone=false:=by have:=hr.b;cases h:rf.body<;>simp_all
 have hn:=hr.n;simp only[execOp,ho,resolve,hb,Sem.run_bind,hv,Deferred.ofValue,Sem.run_pure,Result.andThen_ok,invoke,callFunc,run_program,hr.f,hn,H8,zG,if_false]
def zLg (P:Program) (t:TypeId) (ptr:Bool):Bool:=
 match P.underlying t with
 | some (.pointer _)=>ptr
 | some (.interface _)=>false
 | some _=> !ptr
 | none=>false
def zHv (P:Program) (t:TypeId) (name:String):Option FuncId:=do
 let i<- P.info? t
 let m<- i.methods.find? (·.name==name)
 let(f,ptr)<- m.func
 if m.path.size=0/\zLg P t ptr=true then some f else none
def zH5 (P:Program) (I:Inv) (cl:Call) (f:Opd):Prop:=
 (∃f0,cl.callee= .value f0/\opd I f0=some f)\/
 ∃t name mt,cl.callee= .invoke (.tmp t) name/\f= .m mt t/\ ∀k g,(k,g)∈mt-> ∃ty F,(k,ty)∈I.tys/\zHv P ty name=some F/\I.fi F=some g
theorem zLR {t:TypeId} {ptr:Bool} {v:Value} {nm:Option String} (h:zLg P t ptr=true):(receiverAt t (.val v) ptr nm).run P w= .ok v w:=by
 unfold zLg at h
 cases hu:P.underlying t with
 | none=>rw[hu]at h;cases h
 | some d=>
   rw[hu]at h;cases d<;>cases ptr<;>first | (simp at h;done) | simp[receiverAt,run_underlying hu,Place.get]
theorem zJT {t:TypeId} {name:String} {F:FuncId} (h:zHv P t name=some F) (fuel:Nat) (v:Value):(method (fuel+1) t v name).run P w= .ok (F,v) w:=by
 simp only[zHv,zC,zB,Prod.exists]at h;obtain⟨i,hi,m,hm,f,ptr,hf,h⟩:=h
 by_cases hc:m.path.size=0/\zLg P t ptr=true
 ·rw[if_pos hc]at h;obtain rfl:=Option.some.inj h;have hp:m.path.toList=[]:=List.length_eq_zero_iff.1 (by simpa using hc.1);simp[method,Sem.run_bind,typeInfo,run_program,hi,hm,hp,follow,hf,zLR hc.2]
 ·rw[if_neg hc]at h;cases h
theorem zKW {cl:Call} {t0:Nat} {name:String} {t:TypeId} {v:Value} {F:FuncId} {rf:Func} (ho:o.op= .call cl) (hb:cl.callee= .invoke (.tmp t0) name) (hv:a.eval (.tmp t0)= .iface t v) (hm:zHv P t name=some F) (hr:Real P F rf):
 (execOp a.eval o).run P w= .ok (.enter F (#[v]++cl.args.map a.eval)) w:=by
 have H8:rf.body.isNone=false:=by have:=hr.b;cases h:rf.body<;>simp_all
 have hn:=hr.n;have FY:=zJT (P:=P) (w:=w) hm (P.types.size+(Made.depth-1)) v;have hd:P.types.size+Made.depth=P.types.size+(Made.depth-1)+1:=by simp[Made.depth]
 rw[<- hd]at FY
 have h0:(#[Value.iface t v]++cl.args.map a.eval)[0]? =some (Value.iface t v):=by
  rw[Array.getElem?_append_left (by simp)];rfl
 have h1:(#[Value.iface t v]++cl.args.map a.eval).extract 1 (#[Value.iface t v]++cl.args.map a.eval).size=cl.args.map a.eval:=by
  apply Array.ext';simp;exact List.take_of_length_le (by simp)
 simp only[execOp,ho,resolve,hb,Sem.run_bind,Sem.run_pure,Result.andThen_ok,hv,invoke,h0,h1,callMethod,run_program,FY,callFunc,hr.f,hn,H8,zG,if_false]
theorem zpw {fv:V} {v:Value} {g:Nat} {as bs:List V} (hr:zbl w A N.nm μ s.heap v fv) (hf:zfC fv=some (g,as,bs)):
 ∃va vb,v= .func (.func (N.nm g)) va vb/\zb1 w A N.nm μ s.heap va as/\zb1 w A N.nm μ s.heap vb bs:=by
 unfold zfC at hf;split at hf
 ·simp only[zA,Prod.mk.injEq]at hf;obtain⟨rfl,rfl,rfl⟩:=hf
  cases(hr:RepC w A N.nm μ s.heap v _)with
  | fn _ _ _ va vb fa fb ha hb Bu Cu Di Eb=>
    exact⟨va,vb,rfl,⟨ha,fun i x hi=>⟨fa i,Bu i x hi,(Cu i x hi).toV⟩⟩,⟨hb,fun i x hi=>⟨fb i,Di i x hi,(Eb i x hi).toV⟩⟩⟩
 ·simp only[zA,Prod.mk.injEq]at hf;obtain⟨rfl,rfl,rfl⟩:=hf
  cases hr.t_inv with
  | fn _ a b va vb fa fb ha hb Bu Cu Di Eb=>
    refine⟨va,vb,rfl,⟨by simp[ha],fun i x hi=> ?_⟩,⟨by simp[hb],fun i x hi=> ?_⟩⟩
    ·simp only[zJ,zE]at hi;obtain⟨y,hy,rfl⟩:=hi;exact⟨fa i,Bu i y hy,(RepC.t (Cu i y hy)).toV⟩
    ·simp only[zJ,zE]at hi;obtain⟨y,hy,rfl⟩:=hi;exact⟨fb i,Di i y hy,(RepC.t (Eb i y hy)).toV⟩
 ·simp only[zA,Prod.mk.injEq]at hf;obtain⟨rfl,rfl,rfl⟩:=hf
  cases hr.t_inv with
  | fa _ c vc fc hc Fc Iy=>
    refine⟨#[.agg vc],#[],rfl,⟨rfl,fun i x hi=> ?_⟩,⟨rfl,fun i x hi=>by simp at hi⟩⟩
    cases i with
    | succ i=>simp at hi
    | zero=>
      simp only[List.getElem?_cons_zero,zA]at hi;subst hi;refine⟨.agg vc,rfl,?_⟩;refine⟨vc,rfl,by simp[hc],fun j y hj=> ?_⟩;simp only[zJ,zE]at hj;obtain⟨z,hz,rfl⟩:=hj;exact⟨fc j,by simpa using Fc j z hz,.t (Iy j z hz)⟩
 ·simp at hf
theorem zI4 {α:Type} {k:Nat} {v:α}: ∀{l:List (Nat×α)},l.lookup k=some v->(k,v)∈l
 | [],h=>by simp at h
 | (a,b)::r,h=>by
   rw[List.lookup_cons]at h;split at h
   ·rename_i hk;simp only[beq_iff_eq]at hk;cases h;subst hk;exact List.mem_cons_self
   ·exact List.mem_cons_of_mem _ (zI4 h)
theorem zHF (hI:I.Ok N) (R:Rel N c ns A μ lam s a w) {cl:Call} {f':Opd} {fv:V} {g:Nat} {as bs:List V} {rf:Func} (ho:o.op= .call cl) (SL:zH5 P I cl f') (As:evl N.G s f'=some fv)
 (Ax:zfC fv=some (g,as,bs)) (An:Real P (N.nm g) rf):
 ∃va vb,zb1 w A N.nm μ s.heap va as/\zb1 w A N.nm μ s.heap vb bs/\(execOp a.eval o).run P w= .ok (.enter (N.nm g) (va++cl.args.map a.eval++vb)) w:=by
 rcases SL with⟨f,hb,hf⟩ | ⟨t,name,mt,hb,rfl,Mt⟩
 ·obtain⟨va,vb,hv,ha,Bf⟩:=zpw (zat hI R hf As) Ax;exact⟨va,vb,ha,Bf,zjo ho hb hv An⟩
 ·have he:=R.env t;simp only[evl]at As;split at As
  ·rename_i k x hk;rw[hk]at he;simp only[zE]at As;obtain⟨g',hl,rfl⟩:=As;simp only[zfC,zA,Prod.mk.injEq]at Ax;obtain⟨rfl,rfl,rfl⟩:=Ax;obtain⟨ty,u,hu,UZ,Nj⟩:=he.ifc_inv;obtain⟨ty',F,h1,h2,h3⟩:=Mt k g' (zI4 hl);have h4:=hI.ty k ty' h1;have h5:=hI.f F g' h3;obtain rfl:ty=ty':=by rw[UZ]at h4;exact Nat.add_left_cancel h4
   subst h5;refine⟨#[u],#[],⟨rfl,fun i y hi=> ?_⟩,⟨rfl,fun i y hi=>by simp at hi⟩,?_⟩
   ·match i,hi with
    | 0,hi=>cases hi;exact⟨u,rfl,Nj.toV⟩
    | i+1,hi=>simp at hi
   ·have:=zKW (P:=P) (w:=w) (a:=a) ho hb (show a.eval (.tmp t)= .iface ty u from hu) h2 An;rw[this];simp
  ·cases As
theorem zcl.mono {w:World} {A A':Nat->Prop} {nm μ:Nat->Nat} {H:Nat->Option O} {v:Value} {x:V} (h:zcl w A nm μ H v x) (hA: ∀r,A r->A' r):zcl w A' nm μ H v x:=
 h.evo ⟨fun _ _=>rfl,hA,fun _ o h=>⟨o,h,O.le_refl o,fun _=>rfl⟩,fun _ _ h=>h⟩
theorem zbl.mono {w:World} {A A':Nat->Prop} {nm μ:Nat->Nat} {H:Nat->Option O} {v:Value} {x:V} (h:zbl w A nm μ H v x) (hA: ∀r,A r->A' r):zbl w A' nm μ H v x:=
 h.evo ⟨fun _ _=>rfl,hA,fun _ o h=>⟨o,h,O.le_refl o,fun _=>rfl⟩,fun _ _ h=>h⟩
theorem zbl.noheap {w:World} {A:Nat->Prop} {nm μ μ':Nat->Nat} {H':Nat->Option O} {v:Value} {x:V} (h:zbl w A nm μ (fun _=>none) v x):zbl w A nm μ' H' v x:=
 h.evo ⟨fun _ _=>rfl,fun _ h=>h,fun _ _ h=>by simp at h,fun _ _ h=>h⟩
theorem zfB (H0:Nat->Option O): ∀(l:List Nat) (h:Nat->Option O) (k:Nat) (o:O),zbf h (Rg.freezes H0 l) k=some o->h k=some o\/ ∃sz rs f,H0 k=some (.rows sz rs f)
 | [],h,k,o,hk=> .inl hk
 | q::l,h,k,o,hk=>by
   by_cases hq: ∃sz rs f,H0 q=some (.rows sz rs f)
   ·obtain⟨sz,rs,f,hq⟩:=hq;have:Rg.freezes H0 (q::l)=(q,.rows sz rs true)::Rg.freezes H0 l:=by simp[Rg.freezes,hq]
    rw[this]at hk;rcases zfB H0 l _ k o hk with h1 | h1
    ·by_cases e:k=q
     ·subst e;exact .inr ⟨sz,rs,f,hq⟩
     ·rw[zad _ _ e]at h1;exact .inl h1
    ·exact .inr h1
   ·have:Rg.freezes H0 (q::l)=Rg.freezes H0 l:=by
     simp only[Rg.freezes,List.filterMap_cons];split
     ·rfl
     ·rename_i x hx;split at hx
      ·rename_i sz rs f h;exact absurd ⟨sz,rs,f,h⟩ hq
      ·simp at hx
    rw[this]at hk;exact zfB H0 l h k o hk
theorem zrY (hI:I.Ok N) (R:Rel N c ns A μ lam s a w) {cl:Call} {f':Opd} {args':List Opd} {fv:V} {g:Nat} {as bs vs rs:List V} {r:V} {rf:Func} {Q:Exit->Act->World->Prop}
 (ho:o.op= .call cl) (SL:zH5 P I cl f') (B0:opds I cl.args=some args') (As:evl N.G s f'=some fv) (Ax:zfC fv=some (g,as,bs))
 (An:Real P (N.nm g) rf) (Au:zgE N.G s args'=some vs) (AD:(as++vs++bs).mapM (toT1 s.heap)=some rs) (hc:zjO P N g rs r)
 (hd: ∀x,o.dst=some x->x<ns) (Bd:s.free o.dst {}):
 o.wpIn (FW ro) 0 P a w (fun a' w'=> ∃A' μ' lam',Rel N c ns A' μ' lam' (s.apply o.dst { val:=r,hp:=if r.scalar then []else freezes s.heap ((as++vs++bs).flatMap (zba s.heap)) }) a' w') Q:=by
 obtain⟨va,vb,ha,Bf,Sw⟩:=zHF hI R ho SL As Ax An;have BE:zb1 w A N.nm μ s.heap (cl.args.map a.eval) vs:=zdz hI R B0 Au;have Aa:=(ha.append BE).append Bf;obtain⟨m1,m2⟩:=zbb AD
 let A2:Nat->Prop:=fun r=>A r\/ ∃k∈(as++vs++bs).flatMap (zba s.heap),zmY s.heap k/\μ k=r
 have Mc: ∀r,A2 r->r<w.heap.size:=by
  rintro r (h | ⟨k,_,⟨sz,rs,f,hk⟩,rfl⟩)
  ·exact R.alt r h
  ·exact R.lt_live hk rfl
 have JI:zpW N A2 w:=by
  intro g j x h;obtain⟨h1,F1,v,hv,hr⟩:=R.glob g j x h;exact⟨.inl h1,F1,v,hv,hr.mono (fun _ _=>rfl) (fun _ h=> .inl h)⟩
 have Ae:zb1 w A2 N.nm (fun _=>0) (fun _=>none) (va++cl.args.map a.eval++vb) rs:=by
  refine⟨by rw[Aa.1,m1],fun i x hi=> ?_⟩;obtain⟨y,hy,ht⟩:=m2 i x hi;obtain⟨v,hv,hr⟩:=Aa.2 i y hy;refine⟨v,hv,((zk9 R.heap ht hr (fun _=>0) (fun _=>none)).mono ?_).toV⟩;rintro q (h | ⟨k,hk,h2⟩)
  ·exact .inl h
  ·exact .inr ⟨k,List.mem_flatMap.2 ⟨y,zL hy,hk⟩,h2⟩
 have Da:=hc A2 w _ Mc JI Ae;refine⟨fun _ _=>trivial,?_⟩;rw[o.semAt_eq _ _ (by rw[ho];simp),Sw,Oper.uponIn_enter];refine⟨zhg,zlS (Da.mono ?_)⟩;rintro e w' ⟨v,rfl,De,AS,Aq,DY⟩
 have Nh: ∀r x,w.shape? r=some x->w'.shape? r=some x:=by
  intro r x h
  have Ad:r<w.heap.size:=by
   rcases Nat.lt_or_ge r w.heap.size with h' | h'
   ·exact h'
   ·simp[World.shape?,Array.getElem?_eq_none h']at h
  simpa[World.shape?,Aq r Ad]using h
 have R1:Rel N c ns A μ lam s a w':=by
  refine R.world AS ?_ (fun r hr _=>Aq r (Nat.lt_of_lt_of_le hr R.csize)) Nh (R.defers.evo (fun r h=>Aq r (Array.getElem?_eq_some_iff.1 h).1) (fun _ _ h=>h)) De;rintro r (h | ⟨t,h,rfl⟩ | ⟨k,o',h,hl,rfl⟩)
  ·exact Aq r (R.alt r h)
  ·exact Aq _ (R.lt_loc h)
  ·exact Aq _ (R.lt_live h hl)
 by_cases hs:r.scalar=true
 ·refine⟨A,μ,lam,?_⟩;have:=R1.put o.dst { val:=r } v hd Bd rfl rfl rfl (DY.scalar hs) (by simp);simpa[hs]using this
 ·obtain⟨A',R2,D5,Aj⟩:=Rel.freezes (μ:=μ) s.heap ((as++vs++bs).flatMap (zba s.heap)) A s R1 (fun k sz rs f h=>⟨f,h⟩)
  have R3:=R2.growA (fun q=>w.heap.size<=q/\q<w'.heap.size) (fun q hq t ht=>by have:=R.lt_loc ht;omega)
   (fun q hq k o hk hl=>by
     have : ∃o',s.heap k=some o'/\o'.live=true:=by
      rcases zfB s.heap _ _ k o hk with h | ⟨sz,rs,f,h⟩
      ·exact⟨o,h,hl⟩
      ·exact⟨_,h,rfl⟩
     obtain⟨o',h1,h2⟩:=this
     have:=R.lt_live h1 h2;omega)
   (fun q hq=> .inr (by have:=R.csize;omega)) (fun q hq=>hq.2) (R.defers.join R2.defers (fun q hq=>hq.1))
  refine⟨fun q=>A' q\/(w.heap.size<=q/\q<w'.heap.size),μ,lam,?_⟩
  have Cf:zbl w' (fun q=>A' q\/(w.heap.size<=q/\q<w'.heap.size)) N.nm μ (zbf s.heap (Rg.freezes s.heap ((as++vs++bs).flatMap (zba s.heap)))) v r:=by
   refine(zbl.noheap DY).mono ?_;rintro q ((h | ⟨k,hk,⟨sz,rs,f,AF⟩,rfl⟩) | h)
   ·exact .inl (D5 q h)
   ·exact .inl (Aj k hk sz rs f AF)
   ·exact .inr h
  have:=R3.put o.dst { val:=r } v hd Bd rfl rfl rfl Cf (by simp);rw[if_neg hs];exact this
theorem zLU {g:Nat} {args rs:List V} {r:V} {H:Nat->Option O} {n:Nat} (AD:args.mapM (toT1 H)=some rs) (hc:zjO P N g rs r):
 zns P N g args H n r (zbf H (if r.scalar then []else freezes H (args.flatMap (zba H)))) n:=by
 intro c A μ lam w vs R Aa;obtain⟨m1,m2⟩:=zbb AD
 let A2:Nat->Prop:=fun r=>A r\/ ∃k∈args.flatMap (zba H),zmY H k/\μ k=r
 have Mc: ∀r,A2 r->r<w.heap.size:=by
  rintro r (h | ⟨k,_,⟨sz,rs,f,hk⟩,rfl⟩)
  ·exact R.alt r h
  ·exact R.lt_live hk rfl
 have JI:zpW N A2 w:=by
  intro g j x h;obtain⟨h1,F1,v,hv,hr⟩:=R.glob g j x h;exact⟨.inl h1,F1,v,hv,hr.mono (fun _ _=>rfl) (fun _ h=> .inl h)⟩
 have Ae:zb1 w A2 N.nm (fun _=>0) (fun _=>none) vs rs:=by
  refine⟨by rw[Aa.1,m1],fun i x hi=> ?_⟩;obtain⟨y,hy,ht⟩:=m2 i x hi;obtain⟨v,hv,hr⟩:=Aa.2 i y hy;refine⟨v,hv,((zk9 R.heap ht hr (fun _=>0) (fun _=>none)).mono ?_).toV⟩;rintro q (h | ⟨k,hk,h2⟩)
  ·exact .inl h
  ·exact .inr ⟨k,List.mem_flatMap.2 ⟨y,zL hy,hk⟩,h2⟩
 refine(hc A2 w _ Mc JI Ae).mono ?_;rintro e w' ⟨v,rfl,De,AS,Aq,DY⟩
 have Nh: ∀r x,w.shape? r=some x->w'.shape? r=some x:=by
  intro r x h
  have Ad:r<w.heap.size:=by
   rcases Nat.lt_or_ge r w.heap.size with h' | h'
   ·exact h'
   ·simp[World.shape?,Array.getElem?_eq_none h']at h
  simpa[World.shape?,Aq r Ad]using h
 have R1:Rel N c 0 A μ lam (.init [] H n) zaM w':=by
  refine R.world AS ?_ (fun r hr _=>Aq r (Nat.lt_of_lt_of_le hr R.csize)) Nh (R.defers.evo (fun r h=>Aq r (Array.getElem?_eq_some_iff.1 h).1) (fun _ _ h=>h)) De;rintro r (h | ⟨t,h,rfl⟩ | ⟨k,o',h,hl,rfl⟩)
  ·exact Aq r (R.alt r h)
  ·exact Aq _ (R.lt_loc h)
  ·exact Aq _ (R.lt_live h hl)
 by_cases hs:r.scalar=true
 ·rw[if_pos hs];exact⟨v,A,μ,lam,rfl,R1,DY.scalar hs⟩
 ·rw[if_neg hs];obtain⟨A',R2,D5,Aj⟩:=Rel.freezes (μ:=μ) H (args.flatMap (zba H)) A (.init [] H n) R1 (fun k sz rs f h=>⟨f,h⟩)
  have R3:=R2.growA (fun q=>w.heap.size<=q/\q<w'.heap.size) (fun q hq t ht=>by simp[St.init]at ht)
   (fun q hq k o hk hl=>by
     have : ∃o',H k=some o'/\o'.live=true:=by
      rcases zfB H _ _ k o hk with h | ⟨sz,rs,f,h⟩
      ·exact⟨o,h,hl⟩
      ·exact⟨_,h,rfl⟩
     obtain⟨o',h1,h2⟩:=this
     have:=R.lt_live h1 h2;omega)
   (fun q hq=> .inr (by have:=R.csize;omega)) (fun q hq=>hq.2) (R.defers.join R2.defers (fun q hq=>hq.1))
  refine⟨v,fun q=>A' q\/(w.heap.size<=q/\q<w'.heap.size),μ,lam,rfl,R3,?_⟩;refine(zbl.noheap DY).mono ?_;rintro q ((h | ⟨k,hk,⟨sz,rs,f,AF⟩,rfl⟩) | h)
  ·exact .inl (D5 q h)
  ·exact .inl (Aj k hk sz rs f AF)
  ·exact .inr h
end
end Rg
end
