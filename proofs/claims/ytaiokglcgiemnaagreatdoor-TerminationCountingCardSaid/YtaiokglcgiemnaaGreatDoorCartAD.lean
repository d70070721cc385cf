/- Part of the proof of laws of relyguardlaw36. No condition. -/
import Derived.Test.YtaiokglcgiemnaaGreatDoorCartAC
import Derived.RangeFuncLeaves
set_option linter.unusedVariables false
set_option linter.unusedSimpArgs false
section
namespace Rg
open Go
def World.setMap (w:World) (r:Nat) (ob:Go.Obj):World:={ w with heap:=w.heap.setIfInBounds r ob }
theorem zp3 {x y:ByteArray} (h:(x==y)=true):x=y:=by
 cases x;cases y;exact congrArg ByteArray.mk (eq_of_beq h)
section
variable {P:Program} {w:World}
theorem zc0 {r n:Nat} {ms:Array MapEntry} (h:w.heap[r]? =some (.map ms n)):(getObj r).run P w= .ok (.map ms n) w:=by
 simp only[getObj,Sem.run,h]
theorem zfE {r n:Nat} {ms:Array MapEntry} (ob:Go.Obj) (h:w.heap[r]? =some (.map ms n)):(setObj r ob).run P w= .ok () (World.setMap w r ob):=by
 simp only[setObj,Sem.run,h];rfl
def zcH:TypeDesc->Option Nat
 | .int _=>some 0
 | .bool=>some 1
 | .string=>some 2
 | _=>none
def T.kind:T->Option Nat
 | .int _ _=>some 0
 | .bool _=>some 1
 | .str _=>some 2
 | _=>none
theorem zdC {t:TypeId} {k:Nat} {b:Bool} {n:Nat} {v:Value} (hk:zbB P t=some k):(Instr.checkKey b (n+1) t v).run P w= .ok () w:=by
 unfold zbB at hk;split at hk<;>(try simp at hk)
 all_goals(rename_i hu;simp[Instr.checkKey,zaf hu])
end
def zl8 (P:Program) (t:TypeId) (kd:Nat):Prop:=(∃d,P.underlying t=some d/\zcH d=some kd/\zbB P t=some kd)\/ ∃ks,zyG P t=some ks/\kd=3+ze3 ks
def znD (k:T) (kd:Nat):Prop:=k.kind=some kd\/ ∃ts,k= .sl [ts]/\kd=3+ze3 (ts.map T.kindN)
theorem zhn: ∀{a b:List Nat},(∀x∈a,x<=2)->(∀x∈b,x<=2)->ze3 a=ze3 b->a=b
 | [],[],_,_,_=>rfl
 | [],_::_,_,_,h=>by simp only[ze3]at h;omega
 | _::_,[],_,_,h=>by simp only[ze3]at h;omega
 | x::a,y::b,ha,hb,h=>by
   have h1:=ha x (by simp);have h2:=hb y (by simp);simp only[ze3]at h;have h3:x=y:=by omega
   rw[h3,zhn (a:=a) (b:=b) (fun z hz=>ha z (by simp[hz])) (fun z hz=>hb z (by simp[hz])) (by omega)]
theorem zlc {P:Program} {t:TypeId} {k:Nat} (h:zbB P t=some k):k<=2:=by
 unfold zbB at h;split at h<;>simp at h<;>omega
theorem zi2 {P:Program}: ∀{fs:List Field} {i:Nat} {ks:List Nat},zaJ P i fs=some ks-> ∀k∈ks,k<=2
 | [],i,ks,h=>by simp only[zaJ,zA]at h;subst h;simp
 | f::fs,i,ks,h=>by
   simp only[zaJ,zC,zB]at h;obtain⟨k,hk,ks',CU,h⟩:=h;split at h
   ·simp only[zA]at h;subst h;intro x hx;rcases List.mem_cons.1 hx with rfl | hx
    ·exact zlc hk
    ·exact zi2 CU x hx
   ·cases h
theorem zBM {P:Program} {t:TypeId} {ks:List Nat} (h:zyG P t=some ks): ∀k∈ks,k<=2:=by
 unfold zyG at h;split at h
 ·split at h
  ·exact zi2 h
  ·cases h
 ·cases h
theorem zCD (ts:List T): ∀k∈ts.map T.kindN,k<=2:=by
 intro k hk;obtain⟨t,_,rfl⟩:=List.mem_map.1 hk;cases t<;>simp[T.kindN]
theorem zA8: ∀{ts us:List T} {b:Bool},zcI ts us=some b->zxx (ts.map T.kindN) (ts.map V.t) (us.map V.t)=some b
 | [],[],b,h=>h
 | [],_::_,b,h=>by simp[zcI]at h
 | _::_,[],b,h=>by simp[zcI]at h
 | t::ts,u::us,b,h=>by
   simp only[zcI,zC,zB,zA]at h;obtain⟨c,hc,r,hr,rfl⟩:=h;have ih:=zA8 hr;simp only[List.map_cons,zxx,ih,zC]
   have h1:zdL t.kindN (.t t) (.t u)=some c:=by
    unfold zlf at hc;split at hc
    ·split at hc
     ·rename_i hk;subst hk;simpa[zdL,T.kindN]using hc
     ·cases hc
    ·rename_i a b;simp only[zA]at hc;subst hc;simp only[zdL,T.kindN,if_true];rw[ByteArray.toList_eq,ByteArray.toList_eq];show some (a.data.toList==b.data.toList)=some (a.data==b.data);rw[Array.beq_toList]
    ·simp only[zA]at hc;subst hc;simp[zdL,T.kindN]
    ·cases hc
   rw[h1];rfl
theorem ze2: ∀{ts us:List T} {vs ws:List Value},zyf ts=some vs->zyf us=some ws->zcI ts us=some true->vs=ws
 | [],[],vs,ws,hv,hw,_=>by simp only[zyf,zA]at hv hw;rw[<- hv,<- hw]
 | [],_::_,_,_,_,_,h=>by simp[zcI]at h
 | _::_,[],_,_,_,_,h=>by simp[zcI]at h
 | t::ts,u::us,vs,ws,hv,hw,h=>by
   simp only[zcI,zC,zB,zA,zF]at h;obtain⟨c,hc,r,hr,F1,JL⟩:=h;subst F1 JL;simp only[zyf,zB,zE]at hv hw;obtain⟨v,AY,vs',D3,rfl⟩:=hv;obtain⟨z,Cq,ws',C4,rfl⟩:=hw;have ih:=ze2 D3 C4 hr
   have h1:v=z:=by
    unfold zlf at hc;split at hc
    ·split at hc
     ·rename_i hk;simp only[zA,beq_iff_eq]at hc;simp only[zzu,zA]at AY Cq;rw[<- AY,<- Cq,hk,hc]
     ·cases hc
    ·simp only[zA]at hc;have:=zp3 hc;simp only[zzu,zA]at AY Cq;rw[<- AY,<- Cq,this]
    ·simp only[zA,beq_iff_eq]at hc;simp only[zzu,zA]at AY Cq;rw[<- AY,<- Cq,hc]
    ·cases hc
   rw[h1,ih]
theorem zy8 {w:World} {A:Nat->Prop} {nm μ:Nat->Nat} {H:Nat->Option O}: ∀{ts:List T} {vs:List Value},zyf ts=some vs->zcB w A nm μ H vs (ts.map V.t)
 | [],vs,h=>by simp only[zyf,zA]at h;subst h;exact⟨rfl,fun i c h=>by simp at h⟩
 | t::ts,vs,h=>by
   simp only[zyf,zB,zE]at h;obtain⟨v,hv,vs',Aq,rfl⟩:=h;obtain⟨i1,i2⟩:=zy8 (w:=w) (A:=A) (nm:=nm) (μ:=μ) (H:=H) Aq;refine⟨by simpa using i1,fun i c hc=> ?_⟩
   cases i with
   | zero=>
     simp only[List.map_cons,List.getElem?_cons_zero,zA]at hc;subst hc;refine⟨v,rfl,?_⟩;cases t<;>simp[zzu]at hv<;>subst hv
     ·exact .t (.int _ _)
     ·exact .t (.bool _)
     ·exact .t (.str _)
   | succ i=>exact i2 i c (by simpa using hc)
theorem zdN {w:World} {A:Nat->Prop} {nm μ:Nat->Nat} {H:Nat->Option O}: ∀{cs:List V} {vs:List Value} {ts:List T},zcB w A nm μ H vs cs->zzF cs=some ts->zyf ts=some vs
 | [],vs,ts,hr,h=>by
   simp only[zzF,zA]at h;subst h;have:vs=[]:=by simpa using hr.1
   subst this;rfl
 | c::cs,vs,ts,hr,h=>by
   simp only[zzF,zC,zB,zA]at h;obtain⟨t,ht,ts',Ft,rfl⟩:=h
   cases vs with
   | nil=>have:=hr.1;simp at this
   | cons v vs=>
     have ih:=zdN (cs:=cs) (vs:=vs) ⟨by simpa using hr.1,fun i x hx=>by simpa using hr.2 (i+1) x (by simpa using hx)⟩ Ft;obtain⟨v',Ej,Ei⟩:=hr.2 0 c rfl;simp only[List.getElem?_cons_zero,zA]at Ej;subst Ej
     have h1:zzu t=some v:=by
      unfold zlg at ht;split at ht
      ·simp only[zA]at ht;subst ht;cases Ei with | t h=>cases h;rfl
      ·simp only[zA]at ht;subst ht;cases Ei with | t h=>cases h;rfl
      ·simp only[zA]at ht;subst ht;cases Ei with | t h=>cases h;rfl
      ·cases ht
     simp only[zyf,h1,ih,zD,Option.map_some]
theorem zhl {w:World} {A:Nat->Prop} {nm μ:Nat->Nat} {H:Nat->Option O} {x:V} {k:T} {kd:Nat} {v:Value} (h:zAs kd x=some k) (hv:zxy w A nm μ H v x):za9 k=some v/\znD k kd:=by
 unfold zAs at h;split at h
 ·split at h
  ·rename_i hk;simp only[zA]at h;subst h;subst hk;cases hv.t_inv;exact⟨rfl,.inl rfl⟩
  ·cases h
 ·split at h
  ·rename_i hk;simp only[zA]at h;subst h;subst hk;cases hv.t_inv;exact⟨rfl,.inl rfl⟩
  ·cases h
 ·split at h
  ·rename_i hk;simp only[zA]at h;subst h;subst hk;cases hv.t_inv;exact⟨rfl,.inl rfl⟩
  ·cases h
 ·simp only[zB]at h;obtain⟨ts,Ft,h⟩:=h;split at h
  ·rename_i hk;simp only[zA]at h;subst h;obtain⟨xs,rfl,hr⟩:=hv.agg_inv;have:=zdN hr Ft;exact⟨by simp[za9,this],.inr ⟨ts,rfl,hk⟩⟩
  ·cases h
 ·cases h
theorem zdn {d:TypeDesc} {v u:Value} {x y:T} {b:Bool} (hv:za9 x=some v) (hu:za9 y=some u) (he:zcJ x y=some b)
 {kd:Nat} (hd:zcH d=some kd) (hx:x.kind=some kd):Instr.sameNow d v u=some b:=by
 unfold zcJ at he;split at he
 ·simp only[za9,zA]at hv hu;subst hv hu;split at he
  ·rename_i hk;simp only[zA]at he;subst hk;cases d<;>simp[zcH]at hd<;>subst hd<;>simp[T.kind]at hx
   simp[Instr.sameNow,he]
  ·simp at he
 ·simp only[za9,zA]at hv hu;subst hv hu;simp only[zA]at he;cases d<;>simp[zcH]at hd<;>subst hd<;>simp[T.kind]at hx
  simp[Instr.sameNow,he]
 ·simp only[za9,zA]at hv hu;subst hv hu;simp only[zA]at he;cases d<;>simp[zcH]at hd<;>subst hd<;>simp[T.kind]at hx
  simp[Instr.sameNow,he]
 ·simp[T.kind]at hx
 ·simp at he
theorem zg0: ∀{ts:List T} {vs:List Value},zyf ts=some vs->((vs.zip vs).all fun(x,y)=>Instr.sameBits 9999 x y)=true
 | [],vs,h=>by simp only[zyf,zA]at h;subst h;rfl
 | t::ts,vs,h=>by
   simp only[zyf,zB,zE]at h;obtain⟨v,hv,vs',Aq,rfl⟩:=h;have ih:=zg0 Aq;simp only[List.zip_cons_cons,List.all_cons,ih,Bool.and_true];have hb: ∀s:ByteArray,(s==s)=true:=fun s=>by show(s.data==s.data)=true;simp
   cases t<;>simp[zzu]at hv<;>subst hv<;>simp[Instr.sameBits,hb]
theorem zmV {ts:List T} {k:T} {b:Bool} (h:zcJ (.sl [ts]) k=some b): ∃us,k= .sl [us]/\zcI ts us=some b:=by
 cases k with
 | sl es=>
   match es,h with
   | [],h=>simp[zcJ]at h
   | [us],h=>exact⟨us,rfl,h⟩
   | _::_::_,h=>simp[zcJ]at h
 | _=>simp[zcJ]at h
theorem zfS {v u:Value} {x y:T} (hv:za9 x=some v) (hu:za9 y=some u) (he:zcJ x y=some true):Instr.sameBits 10000 u v=true:=by
 unfold zcJ at he;split at he
 ·simp only[za9,zA]at hv hu;subst hv hu;split at he
  ·rename_i hk;simp only[zA,beq_iff_eq]at he;subst hk;subst he;simp[Instr.sameBits]
  ·simp at he
 ·simp only[za9,zA]at hv hu;subst hv hu;simp only[zA]at he;have:=zp3 he;subst this;simpa[Instr.sameBits]using he
 ·simp only[za9,zA]at hv hu;subst hv hu;simp only[zA,beq_iff_eq]at he;subst he;simp[Instr.sameBits]
 ·simp only[za9,zE]at hv hu;obtain⟨vs,Aq,rfl⟩:=hv;obtain⟨ws,EP,rfl⟩:=hu;have:=ze2 Aq EP he;subst this;have h1:=zg0 Aq;simp only[Instr.sameBits,beq_self_eq_true,Bool.true_and];simpa using h1
 ·simp at he
def zes (w:World) (A:Nat->Prop) (nm μ:Nat->Nat) (H:Nat->Option O) (ms:List MapEntry) (es:List (T×V)):Prop:=
 ms.length=es.length/\ ∀(i:Nat) (k:T) (x:V),es[i]? =some (k,x)-> ∃m,ms[i]? =some m/\za9 k=some m.key/\zx5 w A nm μ H m.val x
section
variable {P:Program} {w:World}
theorem zet {t:TypeId} {ks:List Nat} {xs ys:Array Value} {as bs:List V} {r:Bool} {A:Nat->Prop} {nm μ:Nat->Nat} {H:Nat->Option O} (ht:zyG P t=some ks)
 (hx:zcB w A nm μ H xs.toList as) (hy:zcB w A nm μ H ys.toList bs) (hr:zxx ks as bs=some r):(Op.equal t (.agg xs) (.agg ys)).run P w= .ok r w:=by
 unfold zyG at ht;split at ht
 ·rename_i fields CE;split at ht
  ·rename_i hc;have H4:P.fieldsOf t=fields:=by simp[Program.fieldsOf,CE]
   have h0:=zea (P:=P) (i:=0) 9998 ht hx hy (by simpa using hr);have:=run_equalIn_struct (P:=P) w 9999 t xs ys (by rw[H4];exact CE) hc.1;show(Op.equalIn 10000 t (.agg xs) (.agg ys)).run P w= .ok r w;rw[this,H4];exact h0
  ·cases ht
 ·cases ht
theorem zcE: ∀{fs:List Field} {i:Nat} {ks:List Nat},zaJ P i fs=some ks->ks.length=fs.length
 | [],i,ks,h=>by simp only[zaJ,zA]at h;subst h;rfl
 | f::fs,i,ks,h=>by
   simp only[zaJ,zC,zB]at h;obtain⟨k,hk,ks',CU,h⟩:=h;split at h
   ·simp only[zA]at h;subst h;simp[zcE CU]
   ·cases h
theorem zfx {ks:List Nat} {x:T} {v:Value} {t:TypeId} (hp:zyG P t=some ks) (hx:znD x (3+ze3 ks)) (hv:za9 x=some v): ∃ts vs,x= .sl [ts]/\ks=ts.map T.kindN/\zyf ts=some vs/\v= .agg vs.toArray:=by
 rcases hx with hx | ⟨ts,rfl,hk⟩
 ·exfalso;cases x<;>simp[T.kind]at hx<;>omega
 ·simp only[za9,zE]at hv;obtain⟨vs,Aq,rfl⟩:=hv;exact⟨ts,vs,rfl,zhn (zBM hp) (zCD ts) (by omega),Aq,rfl⟩
theorem zeb {kt:TypeId} {kd:Nat} {k:T} {v:Value} (b:Bool) (ht:zl8 P kt kd) (hk:znD k kd) (hv:za9 k=some v):(Instr.checkKey b 10000 kt v).run P w= .ok () w:=by
 rcases ht with⟨d,hu,hd,A7⟩ | ⟨ks,hp,rfl⟩
 ·exact zdC (n:=9999) A7
 ·obtain⟨ts,vs,rfl,CU,Aq,rfl⟩:=zfx hp hk hv
  have Ac:vs.length=ks.length:=by
   have:=(zy8 (w:=w) (A:=fun _=>True) (nm:=id) (μ:=id) (H:=fun _=>none) Aq).1;rw[CU];simpa using this
  unfold zyG at hp;split at hp
  ·rename_i fields CE;split at hp
   ·have H5:=zcE hp;rw[show(10000:Nat)=9999+1 from rfl,Instr.checkKey];simp only[Sem.run_bind,zaf CE,Result.andThen_ok];rw[<- Array.forIn_toList];have A4:0+fields.toList.length<=vs.toArray.size:=by simp at H5⊢;omega
    clear H5 Ac CU hk hv
    generalize fields.toList=L at hp A4
    generalize(0:Nat)=i at hp A4
    induction L generalizing i ks with
    | nil=>simp
    | cons f L ih=>
      simp only[zaJ,zC,zB]at hp;obtain⟨k,OY,ks',MC,hp⟩:=hp;split at hp
      ·rename_i C2;obtain⟨hn,ho,D5⟩:=C2;obtain⟨inf,g1,g2,g3,g4⟩:=zaH D5;simp only[List.length_cons]at A4;obtain⟨u,hu⟩: ∃u,vs.toArray[i]? =some u:=⟨_,Array.getElem?_eq_getElem (by omega)⟩
       have Ig:(part f.type vs.toArray f.offset).run P w= .ok u w:=by
        simp only[part,Sem.run_bind,g4 w,Result.andThen_ok,ho];simp only[hu];rfl
       have p2:(Instr.checkKey b 9999 f.type u).run P w= .ok () w:=zdC (n:=9998) OY;simp only[List.forIn_cons,Sem.run_bind,hn,ne_eq,not_false_eq_true,if_true,Result.andThen_ok,Ig,p2,Sem.run_pure];exact ih _ _ MC (by omega)
      ·cases hp
   ·cases hp
  ·cases hp
theorem zjd {A:Nat->Prop} {nm μ:Nat->Nat} {H:Nat->Option O} {d:TypeDesc} {v:Value} {x:T} (hv:za9 x=some v) {kd:Nat} (hd:zcH d=some kd) (hx:x.kind=some kd):
 ∀(es:List (T×V)) (ms:List MapEntry) (j:Nat) (r:Option V),zes w A nm μ H ms es->zxT x es=some r->
  match r with
  | none=>Instr.findNow d v ms j=some none/\ ∀u,zx6 x u es=some (es++[(x,u)])
  | some q=> ∃i m,Instr.findNow d v ms j=some (some (j+i,m.val))/\ms[i]? =some m/\zx5 w A nm μ H m.val q/\Instr.sameBits 10000 m.key v=true/\ ∀u,zx6 x u es=some (es.set i (x,u))
 | [],ms,j,r,h,hf=>by
   simp only[zxT,zA]at hf;subst hf;obtain⟨h1,_⟩:=h;have:ms=[]:=by simpa using h1
   subst this
   exact⟨rfl,fun u=>rfl⟩
 | (k,y)::es,ms,j,r,h,hf=>by
   obtain⟨h1,h2⟩:=h
   cases ms with
   | nil=>simp at h1
   | cons m ms=>
     obtain⟨m',Fz,hk,BD⟩:=h2 0 k y rfl;simp only[List.getElem?_cons_zero,zA]at Fz;subst Fz;simp only[zxT]at hf;split at hf
     ·simp at hf
     ·rename_i DK;simp only[zA]at hf;subst hf;exact⟨0,m,by simp[Instr.findNow,zdn hv hk DK hd hx],rfl,BD,zfS hv hk DK,fun u=>by simp[zx6,DK]⟩
     ·rename_i DK;have CA:zes w A nm μ H ms es:=⟨by simpa using h1,fun i k' x' hi=>h2 (i+1) k' x' (by simpa using hi)⟩
      have ih:=zjd hv hd hx es ms (j+1) r CA hf
      cases r with
      | none=>exact⟨by simp[Instr.findNow,zdn hv hk DK hd hx,ih.1],fun u=>by simp[zx6,DK,ih.2 u]⟩
      | some q=>
        obtain⟨i,m',h3,h4,h5,h6,h7⟩:=ih;refine⟨i+1,m',?_,by simpa using h4,h5,h6,fun u=>by simp[zx6,DK,h7 u]⟩;simp only[Instr.findNow,zdn hv hk DK hd hx,h3]
        congr 3;omega
theorem zje {A:Nat->Prop} {nm μ:Nat->Nat} {H:Nat->Option O} {kt:TypeId} {ts:List T} {vs:List Value} (hp:zyG P kt=some (ts.map T.kindN)) (hv:zyf ts=some vs):
 ∀(es:List (T×V)) (ms:List MapEntry) (j:Nat) (r:Option V),zes w A nm μ H ms es->zxT (.sl [ts]) es=some r->
  match r with
  | none=>(Instr.findAsking kt (.agg vs.toArray) ms j).run P w= .ok none w/\ ∀u,zx6 (.sl [ts]) u es=some (es++[(.sl [ts],u)])
  | some q=> ∃i m,(Instr.findAsking kt (.agg vs.toArray) ms j).run P w= .ok (some (j+i,m.val)) w/\ms[i]? =some m/\zx5 w A nm μ H m.val q/\Instr.sameBits 10000 m.key (.agg vs.toArray)=true/\ ∀u,zx6 (.sl [ts]) u es=some (es.set i (.sl [ts],u))
 | [],ms,j,r,h,hf=>by
   simp only[zxT,zA]at hf;subst hf;obtain⟨h1,_⟩:=h;have:ms=[]:=by simpa using h1
   subst this
   exact⟨by simp[Instr.findAsking],fun u=>rfl⟩
 | (k,y)::es,ms,j,r,h,hf=>by
   obtain⟨h1,h2⟩:=h
   cases ms with
   | nil=>simp at h1
   | cons m ms=>
     obtain⟨m',Fz,hk,BD⟩:=h2 0 k y rfl;simp only[List.getElem?_cons_zero,zA]at Fz;subst Fz
     have I5: ∀b,zcJ (.sl [ts]) k=some b->(Op.equal kt (.agg vs.toArray) m.key).run P w= .ok b w:=fun b hb=>by
      obtain⟨us,rfl,hb⟩:=zmV hb;simp only[za9,zE]at hk;obtain⟨ws,EP,A7⟩:=hk;rw[<- A7];exact zet (A:=A) (nm:=nm) (μ:=μ) (H:=H) hp (by simpa using zy8 hv) (by simpa using zy8 EP) (zA8 hb)
     simp only[zxT]at hf;split at hf
     ·simp at hf
     ·rename_i DK;simp only[zA]at hf;subst hf;exact⟨0,m,by simp[Instr.findAsking,I5 _ DK],rfl,BD,zfS (by simp[za9,hv]) hk DK,fun u=>by simp[zx6,DK]⟩
     ·rename_i DK;have CA:zes w A nm μ H ms es:=⟨by simpa using h1,fun i k' x' hi=>h2 (i+1) k' x' (by simpa using hi)⟩
      have ih:=zje hp hv es ms (j+1) r CA hf
      cases r with
      | none=>exact⟨by simp[Instr.findAsking,I5 _ DK,ih.1],fun u=>by simp[zx6,DK,ih.2 u]⟩
      | some q=>
        obtain⟨i,m',h3,h4,h5,h6,h7⟩:=ih;refine⟨i+1,m',?_,by simpa using h4,h5,h6,fun u=>by simp[zx6,DK,h7 u]⟩;simp only[Instr.findAsking,Sem.run_bind,I5 _ DK,Result.andThen_ok,zG,if_false,h3];have:j+1+i=j+(i+1):=by omega
        rw[this]
theorem zjc {A:Nat->Prop} {nm μ:Nat->Nat} {H:Nat->Option O} {kt:TypeId} {kd:Nat} {v:Value} {x:T} (ht:zl8 P kt kd) (hx:znD x kd) (hv:za9 x=some v) {es:List (T×V)} {ms:List MapEntry} {r:Option V} (he:zes w A nm μ H ms es) (hf:zxT x es=some r):
 match r with
 | none=>(Instr.findKey kt v ms).run P w= .ok none w/\ ∀u,zx6 x u es=some (es++[(x,u)])
 | some q=> ∃i m,(Instr.findKey kt v ms).run P w= .ok (some (i,m.val)) w/\ms[i]? =some m/\zx5 w A nm μ H m.val q/\Instr.sameBits 10000 m.key v=true/\ ∀u,zx6 x u es=some (es.set i (x,u)):=by
 rcases ht with⟨d,hu,hd,A7⟩ | ⟨ks,hp,rfl⟩
 ·have Ov:x.kind=some kd:=by
   rcases hx with hx | ⟨ts,rfl,hk⟩
   ·exact hx
   ·have:=zlc A7;omega
  have h:=zjd (w:=w) (A:=A) (nm:=nm) (μ:=μ) (H:=H) hv hd Ov es ms 0 r he hf
  cases r with
  | none=>exact⟨by simp[Instr.findKey,zaf hu,h.1],h.2⟩
  | some q=>
    obtain⟨i,m,h1,h2,h3,h4,h5⟩:=h;exact⟨i,m,by simp[Instr.findKey,zaf hu,h1],h2,h3,h4,h5⟩
 ·obtain⟨ts,vs,rfl,rfl,Aq,rfl⟩:=zfx hp hx hv
  have AB: ∃fields,P.underlying kt=some (.struct fields):=by
   unfold zyG at hp;split at hp
   ·rename_i fields CE;exact⟨fields,CE⟩
   ·cases hp
  obtain⟨fields,CE⟩:=AB
  have EI:(Instr.findKey kt (.agg vs.toArray) ms).run P w=(Instr.findAsking kt (.agg vs.toArray) ms).run P w:=by
   cases ms with
   | nil=>simp[Instr.findKey,zaf CE,Instr.findNow,Instr.findAsking]
   | cons m ms=>simp[Instr.findKey,zaf CE,Instr.findNow,Instr.sameNow]
  have h:=zje (w:=w) (A:=A) (nm:=nm) (μ:=μ) (H:=H) hp Aq es ms 0 r he hf;rw[EI]
  cases r with
  | none=>exact h
  | some q=>
    obtain⟨i,m,h1,h2,h3,h4,h5⟩:=h;exact⟨i,m,by rw[h1];simp,h2,h3,h4,h5⟩
end
theorem zeW {k:T} {v:V}: ∀{es:List (T×V)},zxT k es=none->zx6 k v es=none
 | [],h=>by simp[zxT]at h
 | (k',v')::es,h=>by
   simp only[zxT]at h;simp only[zx6]
   cases hk:zcJ k k' with
   | none=>rfl
   | some b=>
     rw[hk]at h
     cases b with
     | true=>simp at h
     | false=>simp only at h⊢;rw[zeW h];rfl
section
variable {P:Program} {N:Nam} {I:Inv} {c:Ctx} {ns p:Nat} {A:Nat->Prop} {μ lam:Nat->Nat} {s:St} {a:Act} {w:World} {e:Eff} {o:Oper}
theorem zkA (R:Rel N c ns A μ lam s a w) {t kt et:TypeId} {h:Option Operand} (hu:P.underlying t=some (.map kt et)) (hh: ∀x,h=some x-> ∃k n,a.eval x= .int k n) (ho:o.op= .makeMap t h)
 (hd: ∀x,o.dst=some x->x<ns) (hf:s.free o.dst e) (hk:s.heap (s.bas+p)=none) (hn:s.bas+p<s.nxt) (he:zw4 N.G p s .mkmap=some e):zca P N c ns o a w (s.apply o.dst e):=by
 simp only[zw4,zA]at he;subst he;have R1:=(R.alloc (.map #[] 0)).adoptH (o:=.map []) (r:=w.heap.size) hk hn R.orphan_new ⟨#[],0,zbK w _,rfl,by simp⟩ (by simp);refine⟨.map (some w.heap.size),_,A,_,lam,.inl ?_,R1.put o.dst { val:=.mm (s.bas+p) } _ hd hf rfl rfl rfl ?_ (by simp)⟩
 ·cases h with
  | none=>simp[execOp,ho,Instr.makeMap]
  | some x=>
    obtain⟨k,n,hx⟩:=hh x rfl;simp[execOp,ho,Instr.makeMap,zaf hu,hx,asInt,asIntOf]
 ·have:=RepC.mm (w:=w.alloc (.map #[] 0)) (A:=A) (nm:=N.nm) (μ:=upd μ (s.bas+p) w.heap.size) (H:=upd s.heap (s.bas+p) (some (.map []))) (s.bas+p) [] (by simp);simpa using this.toV
theorem zki {t:TypeId} {z:V} {H:Nat->Option O} (h:zmh P t=some z): ∃v,(∀w,(zeroValue t).run P w= .ok v w)/\ ∀w,zx5 w A N.nm μ H v z:=by
 simp only[zmh,zC,zB]at h;obtain⟨i,hi,v,hv,h⟩:=h;refine⟨v,fun w=>by simp[zeroValue,zdB hi,hv],fun w=> ?_⟩;unfold zAj at h;split at h
 ·simp only[zE]at h;obtain⟨cs,AU,rfl⟩:=h;obtain⟨h1,h2⟩:=zax AU;exact⟨_,rfl,h1,fun i c hi=>let⟨x,hx,hf⟩:=h2 i c hi;⟨x,hx,zy4 hf⟩⟩
 ·exact(zy4 h).toV1
theorem zxy.mm_inv {v:Value} {k:Nat} {es:List (T×V)} {H:Nat->Option O} {nm:Nat->Nat} (hk:H k=some (.map es)) (h:zxy w A nm μ H v (.mm k)):v= .map (some (μ k)):=by
 cases(h:RepC w A nm μ H v (.mm k))with
 | mm _ _ _=>rfl
 | dmm _ Ag _=>rw[hk]at Ag;simp at Ag
theorem zCw (hI:I.Ok N) (R:Rel N c ns A μ lam s a w) {t kt et:TypeId} {kd:Nat} {x y:Operand} {x' y':Opd} {z:V} {ok:Bool} (hx:opd I x=some x') (hy:opd I y=some y')
 (hu:P.underlying t=some (.map kt et)) (Kv:zl8 P kt kd) (hz:zmh P et=some z) (he:zw4 N.G p s (.lookup kd z ok x' y')=some e):
 zbn N A μ s w ((Instr.lookup t (a.eval x) (a.eval y) ok).run P w) e:=by
 simp only[zw4,zC,zB]at he;obtain⟨kv,Eu,key,FZ,mv,Fx,es,EJ,r,hr,he⟩:=he;obtain⟨Hx,A7⟩:=zhl FZ (zxc hI R hy Eu);have Ko:=zxc hI R hx Fx;obtain⟨zv,N7,Oj⟩:=zki (A:=A) (N:=N) (μ:=μ) (H:=s.heap) hz
 generalize LV:a.eval x=vx at Ko
 generalize PG:a.eval y=vy at Hx
 have Gh: ∃ms:Array MapEntry,zes w A N.nm μ s.heap ms.toList es/\((vx= .map none/\ms= #[])\/ ∃r n,vx= .map (some r)/\w.heap[r]? =some (.map ms n)):=by
  split at EJ
  ·simp only[zA]at EJ;subst EJ;have:vx= .map none:=by cases Ko.t_inv;rfl
   exact⟨#[],⟨rfl,by simp⟩,.inl ⟨this,rfl⟩⟩
  ·split at EJ
   ·rename_i j es' hj;simp only[zA]at EJ;subst EJ;have hv:=zxy.mm_inv hj Ko;obtain⟨ms,n,h1,h2,h3⟩:=R.heap _ _ hj;refine⟨ms,⟨by simpa using h2,fun i k x hi=> ?_⟩,.inr ⟨_,n,hv,h1⟩⟩;obtain⟨m,hm,C9⟩:=h3 i k x hi;exact⟨m,by simpa using hm,C9⟩
   ·simp at EJ
  ·simp at EJ
 obtain⟨ms,Fy,Km⟩:=Gh;have Dh:=zjc (P:=P) (w:=w) Kv A7 Hx Fy hr;have Fm:(Instr.checkKey ms.isEmpty 10000 kt vy).run P w= .ok () w:=zeb _ Kv A7 Hx
 have BD: ∀(q:Value) (b:Bool),zx5 w A N.nm μ s.heap q (r.getD z)->b=r.isSome->zxy w A N.nm μ s.heap (if ok then .tuple #[q,.bool b]else q) e.val/\Plain e:=by
  intro q b hq hb;subst hb
  cases ok with
  | false=>
    simp only[zG,if_false,zA]at he;subst he
    exact⟨hq.toV,rfl,rfl,rfl,rfl⟩
  | true=>
    simp only[if_true,zA]at he;subst he;refine⟨⟨_,rfl,rfl,fun i c hi=> ?_⟩,rfl,rfl,rfl,rfl⟩
    match i,hi with
    | 0,hi=>simp at hi;subst hi;exact⟨q,rfl,hq⟩
    | 1,hi=>simp at hi;subst hi;exact⟨.bool r.isSome,rfl,(RepC.t (.bool _)).toV1⟩
    | i+2,hi=>simp at hi
 cases r with
 | none=>
   have EI:=Dh.1;refine⟨_,?_,BD zv false (Oj w) rfl⟩;rcases Km with⟨rfl,rfl⟩ | ⟨r,n,rfl,h1⟩
   ·simp only[Instr.lookup,Sem.run_bind,zaf hu,Result.andThen_ok,Sem.run_pure,Fm,EI,N7]
   ·simp only[Instr.lookup,Sem.run_bind,zaf hu,Result.andThen_ok,Sem.run_pure,zc0 h1,Fm,EI,N7]
 | some q=>
   obtain⟨i,m,h1,h2,h3,h4,h5⟩:=Dh;have EI:=h1;refine⟨_,?_,BD m.val true h3 rfl⟩;rcases Km with⟨rfl,rfl⟩ | ⟨r,n,rfl,h1⟩
   ·simp only[Instr.lookup,Sem.run_bind,zaf hu,Result.andThen_ok,Sem.run_pure,Fm,EI]
   ·simp only[Instr.lookup,Sem.run_bind,zaf hu,Result.andThen_ok,Sem.run_pure,zc0 h1,Fm,EI]
theorem ziR (hI:I.Ok N) (R:Rel N c ns A μ lam s a w) {t kt et:TypeId} {kd:Nat} {x y v:Operand} {x' y' v':Opd} (hx:opd I x=some x') (hy:opd I y=some y') (hv:opd I v=some v')
 (hu:P.underlying t=some (.map kt et)) (Kv:zl8 P kt kd) (ho:o.op= .mapUpdate t x y v\/o.op= .insert t x y v)
 (he:zw4 N.G p s (.mapupd kd x' y' v')=some e) (Cs:o.dst=none):zca P N c ns o a w (s.apply o.dst e):=by
 simp only[zw4,zC,zB]at he;obtain⟨kv,Eu,key,FZ,u,Lm,mv,Fx,he⟩:=he;obtain⟨Hx,A7⟩:=zhl FZ (zxc hI R hy Eu);have Ko:=zxc hI R hx Fx;have Ei:=zxc hI R hv Lm;split at he
 ·rename_i j;split at he
  ·rename_i es hj;simp only[zB]at he;obtain⟨es',GW,he⟩:=he;split at he
   ·rename_i M0;simp only[zA]at he;subst he
    have AY:zx5 w A N.nm μ s.heap (a.eval v) u:=by
     cases u<;>first | exact Ei | simp[V.one]at M0
    have LV:=zxy.mm_inv hj Ko;obtain⟨ms,n,h1,h2,h3⟩:=R.heap _ _ hj
    have Gh:zes w A N.nm μ s.heap ms.toList es:=⟨by simpa using h2,fun i k x hi=>by
     obtain⟨m,hm,C9⟩:=h3 i k x hi
     exact⟨m,by simpa using hm,C9⟩⟩
    have Ai:μ j<w.heap.size:=R.lt_live hj rfl
    have IJ: ∃r,zxT key es=some r:=by
     cases hq:zxT key es with
     | some r=>exact⟨r,rfl⟩
     | none=>rw[zeW hq]at GW;simp at GW
    obtain⟨r,hr⟩:=IJ;have Fm: ∀b,(Instr.checkKey b 10000 kt (a.eval y)).run P w= .ok () w:=fun b=>zeb b Kv A7 Hx
    have Dh:=zjc (P:=P) (w:=w) Kv A7 Hx Gh hr
    have BR: ∀(ms':Array MapEntry) (n':Nat),(Instr.mapUpdate t (a.eval x) (a.eval y) (a.eval v)).run P w= .ok () (World.setMap w (μ j) (.map ms' n'))->
     (∀H',Evo w A μ s.heap (World.setMap w (μ j) (.map ms' n')) A μ H'->zes (World.setMap w (μ j) (.map ms' n')) A N.nm μ H' ms'.toList es')->zca P N c ns o a w (s.apply o.dst { hp:=[(j,.map es')] }):=by
     intro ms' n' Af Ad
     have R1:=R.changeH (o':= .map es') (w':=World.setMap w (μ j) (.map ms' n')) hj (by simp[O.le]) rfl (by simp) (by simp) rfl (by simp[World.setMap])
      (fun r hr=>by simp only[World.setMap,Array.getElem?_setIfInBounds];rw[if_neg (Ne.symm hr)])
      (fun r x hr=>by
        by_cases NI:r=μ j
        ·subst NI;simp[World.shape?,h1]at hr
        ·simp only[World.shape?,World.setMap,Array.getElem?_setIfInBounds]at hr⊢
         rw[if_neg (Ne.symm NI)];exact hr)
      (fun E=>by
        obtain⟨g1,g2⟩:=Ad _ E;refine⟨ms',n',by simp[World.setMap,Ai],by simpa using g1,fun i k x hi=> ?_⟩;obtain⟨m,hm,C9⟩:=g2 i k x hi
        exact⟨m,by simpa using hm,C9⟩)
     refine⟨undef,World.setMap w (μ j) (.map ms' n'),A,μ,lam,.inr ⟨?_,rfl⟩,?_⟩
     ·rcases ho with ho | ho<;>simp only[execOp,ho,Sem.run_bind,Af,Result.andThen_ok,Sem.run_pure]
     ·rw[Cs];exact R1
    cases r with
    | none=>
      have EI:=Dh.1;have E2:=Dh.2 u;rw[GW]at E2;simp only[zA]at E2;subst E2;refine BR (ms.push { key:=a.eval y,val:=a.eval v,born:=n }) (n+1) ?_ ?_
      ·simp only[Instr.mapUpdate,Sem.run_bind,zaf hu,Result.andThen_ok,LV,zc0 h1,Fm,EI,zfE _ h1]
      ·intro H' E;refine⟨by simp[h2],fun i k x hi=> ?_⟩;rw[List.getElem?_append]at hi;split at hi
       ·rename_i Cb;obtain⟨m,hm,g1,g3⟩:=Gh.2 i k x hi;have:i<ms.size:=by omega
        refine⟨m,by rw[Array.toList_push,List.getElem?_append_left (by simpa using this)];exact hm,g1,g3.evo E⟩
       ·rename_i Cb
        have:i=es.length:=by
         have:=(zH.1 hi).1;simp at this;omega
        subst this;simp at hi;obtain⟨rfl,rfl⟩:=hi
        exact⟨{ key:=a.eval y,val:=a.eval v,born:=n },by simp[<- h2],Hx,AY.evo E⟩
    | some q=>
      obtain⟨i,m,g1,g2,g3,g4,g5⟩:=Dh;have EI:=g1;have E2:=g5 u;rw[GW]at E2;simp only[zA]at E2;subst E2;have NP:ms[i]? =some m:=by simpa using g2
      refine BR (ms.modify i fun e=>{ e with key:=a.eval y,val:=a.eval v }) n ?_ ?_
      ·simp only[Instr.mapUpdate,Sem.run_bind,zaf hu,Result.andThen_ok,LV,zc0 h1,Fm,EI,zfE _ h1,NP,Option.map_some,Option.getD_some,Instr.keyThatStays,g4,if_true,Sem.run_pure]
      ·intro H' E;refine⟨by simp[h2],fun i' k x hi=> ?_⟩;rcases zeL hi with⟨rfl,MB⟩ | ⟨A8,hi⟩
       ·simp only[Prod.mk.injEq]at MB;obtain⟨rfl,rfl⟩:=MB;exact⟨{ m with key:=a.eval y,val:=a.eval v },by simp[NP],Hx,AY.evo E⟩
       ·obtain⟨m',Fz,j1,j3⟩:=Gh.2 i' k x hi;exact⟨m',by simpa[Array.getElem?_modify,Ne.symm A8]using Fz,j1,j3.evo E⟩
   ·simp at he
  ·simp at he
 ·simp at he
end
end Rg
end
section
namespace Rg
open Go
def zho (H:Nat->Option O) (k:Nat):Prop:= ∃sz rs f,H k=some (.rows sz rs f)
section
variable {w:World} {A:Nat->Prop} {N:Nam} {μ:Nat->Nat} {H:Nat->Option O}
theorem zzC {d k:Nat} {sz:Nat} {rs:List (List V)} {frz:Bool} (hk:H k=some (.rows sz rs frz)) {i j:Nat} {row:List V} {x:V} (h1:rs[i]? =some row) (h2:row[j]? =some x) {q:Nat} (hq:q∈zx0 H d x):
 q∈(match H k with | some (.rows _ rs _)=>rs.flatMap (fun(row:List V)=>row.flatMap (zx0 H d)) | _=>([]:List Nat)):=by
 rw[hk];exact List.mem_flatMap.2 ⟨row,zL h1,List.mem_flatMap.2 ⟨x,zL h2,hq⟩⟩
theorem zAG (hH: ∀k o,H k=some o->zkf w A N μ H (μ k) o): ∀(d:Nat) (x:V) (t:T) (v:Value),toT H d x=some t->RepC w A N.nm μ H v x->
 RepT w (fun r=>A r\/ ∃k∈zx0 H d x,zho H k/\μ k=r) N.nm v t:=by
 intro d
 induction d with
 | zero=>
   intro x t v ht hr
   cases x with
   | t y=>
     simp only[toT,zA]at ht;subst ht
     exact(zxy.t_inv (w:=w) hr.toV).norm.mono (fun _ _=>rfl) (fun _ h=> .inl h)
   | _=>simp[toT]at ht
 | succ d ih=>
   intro x t v ht hr
   cases x with
   | t y=>
     simp only[toT,zA]at ht;subst ht
     exact(zxy.t_inv (w:=w) hr.toV).norm.mono (fun _ _=>rfl) (fun _ h=> .inl h)
   | ms k i len=>
     simp only[toT]at ht;split at ht
     ·rename_i sz rs frz hk;simp only[zC,zB,zA]at ht;obtain⟨r,BM,es,EJ,rfl⟩:=ht;obtain⟨AZ,Cz⟩:=zax EJ
      cases hr with
      | ms _ _ _ cap sz' rs' frz' ad Ag AN hc ha=>
        rw[hk]at Ag;cases Ag;unfold rd at BM;rw[if_pos AN]at BM;simp only[zA]at BM;subst BM;have Ac:es.length=len:=by rw[<- AZ];simp;omega
        rcases Nat.eq_zero_or_pos len with h0 | h0
        ·subst h0;have:es=[]:=List.length_eq_zero_iff.1 Ac;subst this;exact .sl0 _ _
        ·obtain⟨rfl,e0,n0,FA,BV⟩:=ha.resolve_left (by omega);obtain⟨cc,e1,z,h1,h2,h3,h4,h5⟩:=hH k _ hk;subst Ac
         have A6: ∀(i':Nat) (e:List T),es[i']? =some e-> ∃row,rs[i+i']? =some row/\row.length=e.length/\ ∀(j:Nat) (y:T),e[j]? =some y-> ∃x,row[j]? =some x/\toT H d x=some y:=by
          intro i' e he;obtain⟨row,A6,hm⟩:=Cz i' e he;obtain⟨m1,m2⟩:=zax hm;rw[zO]at A6;split at A6
          ·rw[List.getElem?_drop]at A6;exact⟨row,A6,m1,m2⟩
          ·simp at A6
         have AP: ∀(i':Nat) (e:List T) (j:Nat) (y:T),es[i']? =some e->e[j]? =some y-> ∃u x,w.cell? ⟨μ k,i*sz+i'*sz+j,none⟩=some u/\RepC w A N.nm μ H u x/\toT H d x=some y/\
          (∀q∈zx0 H d x,q∈zx0 H (d+1) (.ms k i es.length)):=by
          intro i' e j y he hj;obtain⟨row,g1,g2,g3⟩:=A6 i' e he;obtain⟨x,hx,ht⟩:=g3 j y hj;obtain⟨u,hu,hr⟩:=h5 _ row j x g1 hx;refine⟨u,x,?_,hr,ht,fun q hq=> ?_⟩
          ·rw[Nat.add_mul]at hu;simp[World.cell?,h1,hu]
          ·simp only[zx0];exact List.mem_cons_of_mem _ (zzC hk g1 hx hq)
         refine .sl (μ k) (i*sz) cap sz es (fun i' j=>(w.cell? ⟨μ k,i*sz+i'*sz+j,none⟩).getD undef) h0 (by omega) (.inr ⟨k,by simp[zx0],⟨_,_,_,hk⟩,rfl⟩) ?_ ?_ ?_
         ·intro i' e he;obtain⟨row,g1,g2,g3⟩:=A6 i' e he;rw[<- g2];exact h4 _ row g1
         ·intro i' e j y he hj;obtain⟨u,x,hu,_⟩:=AP i' e j y he hj;rw[hu];rfl
         ·intro i' e j y he hj;obtain⟨u,x,hu,hr,ht,hq⟩:=AP i' e j y he hj;rw[hu]
          exact(ih x y u ht hr).mono (fun _ _=>rfl) (fun r h=>h.elim .inl fun⟨q,h1,h2⟩=> .inr ⟨q,hq q h1,h2⟩)
      | dms _ _ _ Ag=>rw[hk]at Ag;cases Ag
     ·simp at ht
   | mp k i off=>
     simp only[toT]at ht;split at ht
     ·rename_i sz rs frz hk;simp only[zC,zB,zA]at ht;obtain⟨row,A6,cs,AU,rfl⟩:=ht;obtain⟨AZ,Cz⟩:=zax AU
      cases hr with
      | mp _ _ _ sz' rs' frz' Ag AN=>
        rw[hk]at Ag;cases Ag;obtain⟨cc,e1,z,h1,h2,h3,h4,h5⟩:=hH k _ hk
        have AP: ∀(j:Nat) (y:T),cs[j]? =some y-> ∃u x,w.cell? ⟨μ k,i*sz+off+j,none⟩=some u/\RepC w A N.nm μ H u x/\toT H d x=some y/\
         (∀q∈zx0 H d x,q∈zx0 H (d+1) (.mp k i off)):=by
         intro j y hj;obtain⟨x,hx,ht⟩:=Cz j y hj;rw[List.getElem?_drop]at hx;obtain⟨u,hu,hr⟩:=h5 _ row _ x A6 hx;refine⟨u,x,?_,hr,ht,fun q hq=> ?_⟩
         ·rw[Nat.add_assoc];simp[World.cell?,h1,hu]
         ·simp only[zx0];exact List.mem_cons_of_mem _ (zzC hk A6 hx hq)
        refine .ip (μ k) (i*sz+off) cs (fun j=>(w.cell? ⟨μ k,i*sz+off+j,none⟩).getD undef) (.inr ⟨k,by simp[zx0],⟨_,_,_,hk⟩,rfl⟩) ?_ ?_
        ·intro j y hj;obtain⟨u,x,hu,_⟩:=AP j y hj;rw[hu];rfl
        ·intro j y hj;obtain⟨u,x,hu,hr,ht,hq⟩:=AP j y hj;rw[hu]
         exact(ih x y u ht hr).mono (fun _ _=>rfl) (fun r h=>h.elim .inl fun⟨q,h1,h2⟩=> .inr ⟨q,hq q h1,h2⟩)
      | mb _ _ Ag=>rw[hk]at Ag;cases Ag
      | dmp _ _ _ Ag=>rw[hk]at Ag;cases Ag
     ·simp at ht
   | fn f a b=>
     simp only[toT,zC,zB,zA]at ht;obtain⟨a',F3,b',Bi,rfl⟩:=ht;obtain⟨p1,p2⟩:=zax F3;obtain⟨q1,q2⟩:=zax Bi
     cases hr with
     | fn _ _ _ va vb fa fb ha hb Bn Cl CO DC=>
       refine .fn f a' b' va vb fa fb (by omega) (by omega) ?_ ?_ ?_ ?_
       ·intro j y hj;obtain⟨x,hx,_⟩:=p2 j y hj;exact Bn j x hx
       ·intro j y hj;obtain⟨x,hx,ht⟩:=p2 j y hj;refine(ih x y _ ht (Cl j x hx)).mono (fun _ _=>rfl) (fun r h=>h.elim .inl fun⟨q,h1,h2⟩=> .inr ⟨q,?_,h2⟩);simp only[zx0];exact List.mem_append_left _ (List.mem_flatMap.2 ⟨x,zL hx,h1⟩)
       ·intro j y hj;obtain⟨x,hx,_⟩:=q2 j y hj;exact CO j x hx
       ·intro j y hj;obtain⟨x,hx,ht⟩:=q2 j y hj;refine(ih x y _ ht (DC j x hx)).mono (fun _ _=>rfl) (fun r h=>h.elim .inl fun⟨q,h1,h2⟩=> .inr ⟨q,?_,h2⟩);simp only[zx0]
        exact List.mem_append_right _ (List.mem_flatMap.2 ⟨x,zL hx,h1⟩)
   | mm k=>
     simp only[toT]at ht;split at ht
     ·simp only[zA]at ht;subst ht;exact .opq _ hr.one
     ·cases ht
   | yl k=>simp[toT]at ht
   | agg cs=>simp[toT]at ht
   | tup cs=>simp[toT]at ht
   | undef=>simp[toT]at ht
   | lb=>simp[toT]at ht
theorem zAH (hH: ∀k o,H k=some o->zkf w A N μ H (μ k) o) {x y:V} {v:Value} (ht:toT1 H x=some y) (hr:zxy w A N.nm μ H v x) (μ':Nat->Nat) (H':Nat->Option O):
 zx5 w (fun r=>A r\/ ∃k∈zxp H x,zho H k/\μ k=r) N.nm μ' H' v y:=by
 have key: ∀{x:V} {t:T},toT H 1000 x=some t->RepC w A N.nm μ H v x->RepT w (fun r=>A r\/ ∃k∈zx0 H 1000 x,zho H k/\μ k=r) N.nm v t:=fun h1 h2=>zAG hH 1000 _ _ _ h1 h2
 cases x with
 | agg cs=>
   simp only[toT1,zE]at ht;obtain⟨ts,Ft,rfl⟩:=ht;obtain⟨vs,rfl,hl⟩:=hr;obtain⟨p1,p2⟩:=zax Ft;refine⟨vs,rfl,by rw[hl.1];simp[p1],fun i c hi=> ?_⟩;simp only[zJ,zE]at hi;obtain⟨t,ht,rfl⟩:=hi;obtain⟨x,hx,Ot⟩:=p2 i t ht;obtain⟨u,hu,D4⟩:=hl.2 i x hx;refine⟨u,hu,.t ((zAG hH 1000 x t u Ot D4).mono (fun _ _=>rfl) (fun r h=>h.elim .inl fun⟨q,h1,h2⟩=> .inr ⟨q,?_,h2⟩))⟩;simp only[zxp]
   exact List.mem_flatMap.2 ⟨x,zL hx,h1⟩
 | yl k=>simp[toT1,toT]at ht
 | tup cs=>simp[toT1,toT]at ht
 | undef=>simp[toT1,toT]at ht
 | lb=>simp[toT1,toT]at ht
 | t z=>
   simp only[toT1,zE]at ht;obtain⟨t,ht,rfl⟩:=ht
   exact RepC.t (key ht hr)
 | ms k i l=>
   simp only[toT1,zE]at ht;obtain⟨t,ht,rfl⟩:=ht
   exact RepC.t (key ht hr)
 | mp k i o=>
   simp only[toT1,zE]at ht;obtain⟨t,ht,rfl⟩:=ht
   exact RepC.t (key ht hr)
 | mm k=>
   simp only[toT1,zE]at ht;obtain⟨t,ht,rfl⟩:=ht
   exact RepC.t (key ht hr)
 | fn f a b=>
   simp only[toT1,zE]at ht;obtain⟨t,ht,rfl⟩:=ht;exact RepC.t (key ht hr)
end
section
variable {N:Nam} {c:Ctx} {ns:Nat} {A:Nat->Prop} {μ lam:Nat->Nat} {s:St} {a:Act} {w:World}
theorem Rel.freezes (H0:Nat->Option O): ∀(l:List Nat) (A:Nat->Prop) (s:St),Rel N c ns A μ lam s a w->(∀k sz rs f,H0 k=some (.rows sz rs f)-> ∃f',s.heap k=some (.rows sz rs f'))->
 ∃A',Rel N c ns A' μ lam { s with heap:=zxu s.heap (freezes H0 l) } a w/\(∀r,A r->A' r)/\(∀k∈l,∀sz rs f,H0 k=some (.rows sz rs f)->A' (μ k))
 | [],A,s,R,_=>⟨A,R,fun _ h=>h,by simp⟩
 | k::l,A,s,R,h0=>by
   by_cases hk: ∃sz rs f,H0 k=some (.rows sz rs f)
   ·obtain⟨sz,rs,f,hk⟩:=hk;obtain⟨f',Ag⟩:=h0 k sz rs f hk;have R1:=R.freeze Ag
    obtain⟨A',R2,Di,Ar⟩:=Rel.freezes H0 l _ _ R1 (fun k1 sz1 rs1 f1 h1=>by
     by_cases e:k1=k
     ·subst e;rw[hk]at h1;cases h1;exact⟨true,by simp⟩
     ·obtain⟨f2,h2⟩:=h0 k1 sz1 rs1 f1 h1
      exact⟨f2,by simp only[zaa _ _ e];exact h2⟩)
    refine⟨A',?_,fun r h=>Di r (.inl h),fun k1 h1 sz1 rs1 f1 h2=> ?_⟩
    ·have:Rg.freezes H0 (k::l)=(k,.rows sz rs true)::Rg.freezes H0 l:=by simp[Rg.freezes,hk]
     rw[this];exact R2
    ·rcases List.mem_cons.1 h1 with rfl | h1
     ·exact Di _ (.inr rfl)
     ·exact Ar k1 h1 sz1 rs1 f1 h2
   ·obtain⟨A',R2,Di,Ar⟩:=Rel.freezes H0 l A s R h0;refine⟨A',?_,Di,fun k1 h1 sz1 rs1 f1 h2=> ?_⟩
    ·have:Rg.freezes H0 (k::l)=Rg.freezes H0 l:=by
      simp only[Rg.freezes,List.filterMap_cons];split
      ·rfl
      ·rename_i x hx;split at hx
       ·rename_i sz rs f h;exact absurd ⟨sz,rs,f,h⟩ hk
       ·simp at hx
     rw[this];exact R2
    ·rcases List.mem_cons.1 h1 with rfl | h1
     ·exact absurd ⟨sz1,rs1,f1,h2⟩ hk
     ·exact Ar k1 h1 sz1 rs1 f1 h2
theorem RepC.scalar {w w':World} {A A':Nat->Prop} {nm μ μ':Nat->Nat} {H H':Nat->Option O} {v:Value} {x:V} (h:RepC w A nm μ H v x) (hx:x.scalar1=true):RepC w' A' nm μ' H' v x:=by
 cases x<;>simp[V.scalar1]at hx
 exact .t ((zxy.t_inv h.toV).scalar hx)
theorem zx5.scalar {w w':World} {A A':Nat->Prop} {nm μ μ':Nat->Nat} {H H':Nat->Option O} {v:Value} {x:V} (h:zx5 w A nm μ H v x) (hx:x.scalar2=true):zx5 w' A' nm μ' H' v x:=by
 cases x with
 | agg cs=>
   obtain⟨vs,rfl,h1,h2⟩:=h;refine⟨vs,rfl,h1,fun i c hi=> ?_⟩;obtain⟨u,hu,hr⟩:=h2 i c hi
   exact⟨u,hu,hr.scalar (zN.1 hx c (zL hi))⟩
 | t y=>exact RepC.scalar (x:=.t y) h hx
 | _=>simp[V.scalar2,V.scalar1]at hx
theorem zxy.scalar {w w':World} {A A':Nat->Prop} {nm μ μ':Nat->Nat} {H H':Nat->Option O} {v:Value} {x:V} (h:zxy w A nm μ H v x) (hx:x.scalar=true):zxy w' A' nm μ' H' v x:=by
 cases x with
 | tup cs=>
   obtain⟨vs,rfl,h1,h2⟩:=h;refine⟨vs,rfl,h1,fun i c hi=> ?_⟩;obtain⟨u,hu,hr⟩:=h2 i c hi
   exact⟨u,hu,hr.scalar (zN.1 hx c (zL hi))⟩
 | agg cs=>exact(zx5.scalar (x:=.agg cs) h hx).toV
 | t y=>exact(zx5.scalar (x:=.t y) h hx).toV
 | _=>simp[V.scalar,V.scalar2,V.scalar1]at hx
end
end Rg
end
section
namespace Rg
open Go
section
variable {P:Program} {N:Nam} {I:Inv} {c:Ctx} {ns p:Nat} {A:Nat->Prop} {μ lam:Nat->Nat} {s:St} {a:Act} {w:World} {e:Eff} {o:Oper}
theorem zcZ (R:Rel N c ns A μ lam s a w) {v:Value} (Af:(execOp a.eval o).run P w= .ok (.value v) w) (hv:zxy w A N.nm μ s.heap v e.val) (h:e.loc=none/\e.wloc=none/\e.hp=[])
 (ha: ∀b o,e.adr=some (b,o)->(s.loc b).isSome=true/\v= .pointer (some ⟨lam b,o,none⟩))
 (hd: ∀x,o.dst=some x->x<ns) (hf:s.free o.dst e):zca P N c ns o a w (s.apply o.dst e):=
 ⟨v,w,A,μ,lam,.inl Af,R.put o.dst e v hd hf h.1 h.2.1 h.2.2 hv ha⟩
theorem zih {t:TypeId} {kd:Nat} (h:zbB P t=some kd): ∃d,P.underlying t=some d/\zcH d=some kd:=by
 unfold zbB at h;split at h<;>first | (simp at h;done) | (rename_i hu;exact⟨_,hu,by simpa[zcH]using h⟩)
theorem zyY {t:TypeId} {kd:Nat} (h:zcG P t=some kd):zl8 P t kd:=by
 unfold zcG at h;split at h
 ·rename_i k hk;simp only[zA]at h;subst h;obtain⟨d,h1,h2⟩:=zih hk;exact .inl ⟨d,h1,h2,hk⟩
 ·simp only[zE]at h;obtain⟨ks,CU,rfl⟩:=h;exact .inr ⟨ks,CU,rfl⟩
theorem zfv {H:Nat->Option O} {d:Nat}: ∀{l:List V} {ts:List T},zy0 l=some ts->l.mapM (toT H d)=some ts/\l.flatMap (zx0 H d)=[]
 | [],ts,h=>by simp[zy0]at h;subst h;exact⟨rfl,rfl⟩
 | .t y::r,ts,h=>by
   simp only[zy0,zE]at h;obtain⟨us,hu,rfl⟩:=h;obtain⟨h1,h2⟩:=zfv (H:=H) (d:=d) hu;have e1:toT H d (.t y)=some y.norm:=by cases d<;>rfl
   have e2:zx0 H d (.t y)=[]:=by cases d<;>rfl
   rw[List.mapM_cons,e1,h1,List.flatMap_cons,e2,h2]
   exact⟨rfl,rfl⟩
 | .ms _ _ _::_,_,h | .mp _ _ _::_,_,h | .mm _::_,_,h | .yl _::_,_,h | .fn _ _ _::_,_,h | .agg _::_,_,h | .tup _::_,_,h | .undef::_,_,h | .lb::_,_,h=>by simp[zy0]at h
theorem zn6 (hI:I.Ok N) (R:Rel N c ns A μ lam s a w) {f k:Nat} {xs ys:Array Operand} {x':Opd} (BJ:I.fi f=some k) (hx:opds I xs=some []) (hy:opds I ys=some [x']) (ho:o.op= .makeFunc (.func f) xs ys)
 (hd: ∀x,o.dst=some x->x<ns) (hf:s.free o.dst e) (he:zw4 N.G p s (.mkfnT k x')=some e):zca P N c ns o a w (s.apply o.dst e):=by
 simp only[zw4,zC,zB]at he;obtain⟨v,hv,he⟩:=he;split at he
 ·rename_i q i0 o0;split at he
  ·rename_i sz row frz hq;split at he
   case isFalse=>simp at he
   rename_i Lg;obtain⟨rfl,rfl⟩:=Lg;simp only[zB,zA]at he;obtain⟨ts,Ft,rfl⟩:=he
   have Iv:zw4 N.G p s (.mkfn k [] [x'])=some { val:=.fn k [] [.mp q 0 0] }:=by
    simp[zw4,zzo,hv,zBN,V.isCell]
   obtain⟨fv,Af,Ad,_⟩:=zCN (P:=P) hI R BJ hx hy Iv;obtain⟨h1,h2⟩:=zfv (H:=s.heap) (d:=998) Ft
   have hT:toT s.heap 1000 (.fn k [] [.mp q 0 0])=some (.fn k [] [.ip ts]):=by
    simp[toT,hq,h1]
   have hR:zx0 s.heap 1000 (.fn k [] [.mp q 0 0])=[q]:=by
    simp[zx0,hq,h2]
   have R1:=R.freeze hq;have EU:=zAG R.heap 1000 _ _ fv hT Ad;rw[hR]at EU
   have BR:zxy w (fun r=>A r\/r=μ q) N.nm μ (upd s.heap q (some (.rows sz [row] true))) fv (.t (.fn k [] [.ip ts])):=by
    refine RepC.toV (RepC.t (EU.mono (fun _ _=>rfl) ?_));rintro r (h | ⟨k',Ag,_,rfl⟩)
    ·exact .inl h
    ·rw[List.mem_singleton]at Ag;subst Ag;exact .inr rfl
   have R2:=R1.put o.dst { val:=.t (.fn k [] [.ip ts]) } fv hd (fun d H9=>hf d H9) rfl rfl rfl BR (by simp);exact⟨fv,w,_,μ,lam,.inl (by simp only[execOp,ho,Sem.run_bind,Sem.run_pure,Af];rfl),R2⟩
  ·simp at he
 ·simp at he
theorem zlL (hI:I.Ok N) (R:Rel N c ns A μ lam s a w) {isL:Nat->Bool} {op:AOp} (hc:zaG P I isL o.dst o.op=some op) (he:zw4 N.G p s op=some e)
 (hd: ∀x,o.dst=some x->x<ns) (hf:s.free o.dst e) (hk:s.heap (s.bas+p)=none) (hn:s.bas+p<s.nxt):zca P N c ns o a w (s.apply o.dst e):=by
 generalize Ao:o.op=rop at hc
 cases rop with
 | move x=>
   simp only[zaG,zE]at hc;obtain⟨y,hy,rfl⟩:=hc;obtain⟨h1,h2,h3,h4,h5⟩:=zs7 hI R hy he
   exact zcZ R (by simp[execOp,Ao]) h1 ⟨h3,h4,h5⟩ (by simp[h2]) hd hf
 | assign x=>
   simp only[zaG,zE]at hc;obtain⟨y,hy,rfl⟩:=hc;obtain⟨h1,h2,h3,h4,h5⟩:=zs7 hI R hy he
   exact zcZ R (by simp[execOp,Ao]) h1 ⟨h3,h4,h5⟩ (by simp[h2]) hd hf
 | pick c a' b=>
   simp only[zaG,zC,zB,zA]at hc;obtain⟨yc,J5,ya,Oo,yb,Lh,rfl⟩:=hc;obtain⟨t,ht,h1,h2,h3,h4,h5⟩:=zpi hI R J5 Oo Lh he
   exact zcZ R (by simp[execOp,Ao,ht,asBool]) h1 ⟨h3,h4,h5⟩ (by simp[h2]) hd hf
 | alloc t=>
   simp only[zaG,zC,zB]at hc;obtain⟨z,hz,hc⟩:=hc;split at hc
   ·rename_i Mb;split at hc
    ·rename_i hl;simp only[zA]at hc;subst hc;exact zmy R hz hl.2 (hI.b _ Mb) Ao hd hf hk hn he
    ·cases hc
   split at hc
   ·rename_i hl;simp only[zA]at hc;subst hc
    cases AD:o.dst with
    | none=>simp[zpU,AD]at hl
    | some d=>rw[<- AD];exact zmw R hz Ao AD hd hf he
   ·simp only[zA]at hc;subst hc
    exact zmx R hz Ao hd hf hk hn he
 | box t x=>
   simp only[zaG,zC,zB,Prod.exists]at hc;obtain⟨ag,n,Az,y,hy,hc⟩:=hc;split at hc
   ·rename_i hl;simp only[zA]at hc;subst hc
    cases AD:o.dst with
    | none=>simp[zpU,AD]at hl
    | some d=>rw[<- AD];exact zpk hI R hy Ao AD hd hf he
   ·simp only[zA]at hc;subst hc
    exact zpl hI R hy Ao hd hf hk hn he
 | build t parts=>
   simp only[zaG,zC,zB]at hc;obtain⟨z,hz,hc⟩:=hc;split at hc
   ·rename_i fields hu;simp only[zB]at hc;obtain⟨ps,C5,hc⟩:=hc;split at hc
    ·rename_i Aa;simp only[zA]at hc;subst hc;obtain⟨h1,h2⟩:=zax C5
     have hg:zbn N A μ s w ((Instr.build t (parts.map fun(i,x)=>(i,a.eval x))).run P w) e:=by
      refine zkC hI R hz (.inl ⟨fields,hu,Aa,rfl⟩) ⟨h1,fun i q hi=> ?_⟩ he;obtain⟨⟨j,x⟩,hx,hf⟩:=h2 i q hi;simp only[zB,zA,Prod.exists]at hf;obtain⟨f,G4,ag,n,Az,y,hy,rfl⟩:=hf;obtain⟨inf,g1,g2,_⟩:=zaH Az;exact⟨(j,x),hx,by simp[G4,g1,g2],hy⟩
     exact hg.sound R (by simp only[execOp,Ao,Sem.run_bind,Sem.run_pure]) hd hf
    ·simp at hc
   ·rename_i len el hu;simp only[zB,zA,Prod.exists]at hc;obtain⟨ag,n,Az,ps,C5,rfl⟩:=hc;obtain⟨h1,h2⟩:=zax C5
    have hg:zbn N A μ s w ((Instr.build t (parts.map fun(i,x)=>(i,a.eval x))).run P w) e:=by
     refine zkC hI R hz (.inr ⟨len,el,ag,n,hu,Az,rfl⟩) ⟨h1,fun i q hi=> ?_⟩ he;obtain⟨⟨j,x⟩,hx,hf⟩:=h2 i q hi;simp only[zB,zA]at hf;obtain⟨y,hy,rfl⟩:=hf;exact⟨(j,x),hx,rfl,hy⟩
    exact hg.sound R (by simp only[execOp,Ao,Sem.run_bind,Sem.run_pure]) hd hf
   ·simp at hc
 | buildSlice t len parts=>
   simp only[zaG]at hc;split at hc
   ·rename_i el hu;simp only[zC,zB,Prod.exists]at hc;obtain⟨ag,n,Az,z,hz,ps,C5,hc⟩:=hc;split at hc
    ·rename_i Bo;simp only[zA]at hc;subst hc;obtain⟨h1,h2⟩:=zax C5;refine zmu hI R hu Az hz Bo.2.2 Bo.1 ⟨h1,fun i q hi=> ?_⟩ Ao hd hf hk hn he;obtain⟨⟨j,x⟩,hx,hf⟩:=h2 i q hi;simp only[zB,zA]at hf;obtain⟨y,hy,rfl⟩:=hf;exact⟨(j,x),hx,rfl,hy⟩
    ·simp at hc
   ·simp at hc
 | load t x=>
   simp only[zaG,zC,zB,Prod.exists]at hc;obtain⟨ag,n,Az,y,hy,hc⟩:=hc;split at hc
   ·simp only[zA]at hc;subst hc;exact(zCX (P:=P) R hy Az he).sound R (by simp only[execOp,Ao,Sem.run_bind,Sem.run_pure]) hd hf
   ·simp only[zA]at hc;subst hc
    exact(zDd (P:=P) hI R hy Az he).sound R (by simp only[execOp,Ao,Sem.run_bind,Sem.run_pure]) hd hf
 | store t x v=>
   simp only[zaG,zC,zB,Prod.exists]at hc;obtain⟨ag,n,Az,y,hy,z,hz,hc⟩:=hc;split at hc
   ·simp at hc
   ·rename_i Fk;have KG:o.dst=none:=by simpa using Fk
    split at hc
    ·simp only[zA]at hc;subst hc;exact zmr hI R hy hz Az Ao he KG
    ·simp only[zA]at hc;subst hc
     exact zn5 hI R hy hz Az Ao he KG
 | nilCheck x=>
   simp only[zaG,zE]at hc;obtain⟨y,hy,rfl⟩:=hc;obtain⟨v,h0,h1,h2,h3,h4,h5⟩:=zms (P:=P) hI R hy he o Ao
   exact zcZ R h0 h1 ⟨h3,h4,h5⟩ (by simp[h2]) hd hf
 | binOp bop t x y yt=>
   simp only[zaG,zC,zB]at hc;obtain⟨x',hx,y',hy,hc⟩:=hc
   have Af:(execOp a.eval o).run P w=((do eqGuard bop t x y (a.eval x) (a.eval y);binOp bop t (a.eval x) (a.eval y):Sem Value).run P w).andThen fun v w'=> .ok (.value v) w':=by
    simp only[execOp,Ao,Sem.run_bind,Sem.run_pure]
   split at hc
   ·simp only[zA]at hc;subst hc;exact(zDm (P:=P) hI R hx hy he t).sound R Af hd hf
   ·simp only[zA]at hc;subst hc;exact(zDm (P:=P) hI R hx hy he t).sound R Af hd hf
   ·rename_i hu;split at hc
    ·simp only[zA]at hc;subst hc;exact(zDi (P:=P) hI R hx hy he hu rfl).sound R Af hd hf
    ·simp only[zA]at hc;subst hc;exact(zDi (P:=P) hI R hx hy he hu rfl).sound R Af hd hf
    ·simp at hc
   ·simp only[zB]at hc;obtain⟨ks,CU,hc⟩:=hc;split at hc
    ·simp only[zA]at hc;subst hc;exact(zCO (P:=P) hI R hx hy he CU rfl).sound R Af hd hf
    ·simp only[zA]at hc;subst hc;exact(zCO (P:=P) hI R hx hy he CU rfl).sound R Af hd hf
    ·simp at hc
   ·simp at hc
 | unOp uop t x=>
   simp only[zaG,zE]at hc;obtain⟨y,hy,rfl⟩:=hc
   exact(zDL (P:=P) hI R hy he).sound R (by simp only[execOp,Ao,Sem.run_bind,Sem.run_pure]) hd hf
 | convert src dst x=>
   simp only[zaG,zC,zB]at hc;obtain⟨y,hy,hc⟩:=hc;split at hc
   ·rename_i h1 h2;simp only[zA]at hc;subst hc;exact(zDj (P:=P) hI R hy he h1 h2).sound R (by simp only[execOp,Ao,Sem.run_bind,Sem.run_pure]) hd hf
   ·rename_i h1 h2;split at hc
    ·rename_i h3;simp only[zA]at hc;subst hc;exact(zDl (P:=P) hI R hy he h1 h2 h3).sound R (by simp only[execOp,Ao,Sem.run_bind,Sem.run_pure]) hd hf
    ·cases hc
   ·simp at hc
 | makeFunc fn first cap=>
   cases fn with
   | func f=>
     simp only[zaG,zC,zB]at hc;obtain⟨k,Ag,xs,Jj,ys,EN,hc⟩:=hc;split at hc
     ·simp only[zA]at hc;subst hc;exact zn6 hI R Ag Jj EN Ao hd hf he
     simp only[zA]at hc;subst hc
     exact(zCN (P:=P) hI R Ag Jj EN he).sound R (by simp only[execOp,Ao,Sem.run_bind,Sem.run_pure]) hd hf
   | _=>simp[zaG]at hc
 | makeSlice t l cp=>
   simp only[zaG]at hc;split at hc
   ·rename_i el hu;simp only[zC,zB,Prod.exists]at hc;obtain⟨ag,n,Az,z,hz,i,hi,l',hl,c',Bp,hc⟩:=hc;split at hc
    ·rename_i Bo;simp only[zA]at hc;subst hc;exact zkz hI R hl Bp hu Az hz hi Ao Bo.1 hd hf hk hn he
    ·simp at hc
   ·simp at hc
 | slice t x lo hi mx=>
   simp only[zaG,zC,zB]at hc;obtain⟨y,hy,l,hl,h,hh,m,hm,hc⟩:=hc;split at hc
   ·rename_i el hu;simp only[zB,zA,Prod.exists]at hc;obtain⟨ag,n,Az,rfl⟩:=hc;exact(zCW (P:=P) hI R hy hl hh hm hu Az he).sound R (by simp only[execOp,Ao,Sem.run_bind,Sem.run_pure]) hd hf
   ·rename_i hu;split at hc
    ·rename_i OS;simp only[zA]at hc;subst hc
     have Jq:mx=none:=by
      cases mx with
      | none=>rfl
      | some z=>
        simp only[zhT,zE]at hm;obtain⟨_,_,rfl⟩:=hm;simp at OS
     subst Jq;exact(zCV (P:=P) hI R hy hl hh hu he).sound R (by simp only[execOp,Ao,Sem.run_bind,Sem.run_pure,Option.map_none]) hd hf
    ·simp at hc
   ·simp at hc
 | fieldAddr t x f=>
   simp only[zaG,zC,zB]at hc;obtain⟨y,hy,hc⟩:=hc;split at hc
   ·rename_i fields hu;simp only[zB,Prod.exists]at hc;obtain⟨fd,L3,ag,n,Az,hc⟩:=hc;split at hc
    ·rename_i Cx;split at hc
     ·simp only[zA]at hc;subst hc;obtain⟨v,h0,h1,h2,h3,h4,h5⟩:=zmt (P:=P) R hy hu L3 Az Cx he;exact zcZ R (v:=v) (by simp only[execOp,Ao,Sem.run_bind,h0,Result.andThen_ok,Sem.run_pure]) h1 ⟨h2,h3,h4⟩ h5 hd hf
     ·simp only[zA]at hc;subst hc;exact(zCZ (P:=P) hI R hy hu L3 Az Cx he).sound R (by simp only[execOp,Ao,Sem.run_bind,Sem.run_pure]) hd hf
    ·simp at hc
   ·simp at hc
 | field t x f=>
   simp only[zaG,zC,zB]at hc;obtain⟨y,hy,hc⟩:=hc;split at hc
   ·rename_i fields hu;simp only[zB,zA,Prod.exists]at hc;obtain⟨fd,L3,ag,n,Az,rfl⟩:=hc;exact(zCY (P:=P) hI R hy hu L3 Az he).sound R (by simp only[execOp,Ao,Sem.run_bind,Sem.run_pure]) hd hf
   ·simp at hc
 | indexAddr t x i=>
   simp only[zaG,zC,zB]at hc;obtain⟨y,hy,j,hj,hc⟩:=hc;split at hc
   ·rename_i el hu;simp only[zB,zA,Prod.exists]at hc;obtain⟨ag,n,Az,rfl⟩:=hc;exact(zCx (P:=P) hI R hy hj hu Az he).sound R (by simp only[execOp,Ao,Sem.run_bind,Sem.run_pure]) hd hf
   ·rename_i len el hu;simp only[zB,Prod.exists]at hc;obtain⟨ag,n,Az,hc⟩:=hc;split at hc
    ·simp only[zA]at hc;subst hc;obtain⟨v,h0,h1,h2,h3,h4,h5⟩:=zkB (P:=P) hI R hy hj hu Az he;exact zcZ R (v:=v) (by simp only[execOp,Ao,Sem.run_bind,h0,Result.andThen_ok,Sem.run_pure]) h1 ⟨h2,h3,h4⟩ h5 hd hf
    ·simp only[zA]at hc;subst hc;exact(zCy (P:=P) hI R hy hj hu Az he).sound R (by simp only[execOp,Ao,Sem.run_bind,Sem.run_pure]) hd hf
   ·simp at hc
 | index t x i=>
   simp only[zaG,zC,zB]at hc;obtain⟨y,hy,j,hj,hc⟩:=hc;split at hc
   ·rename_i len el hu;simp only[zB,zA,Prod.exists]at hc;obtain⟨ag,n,Az,rfl⟩:=hc;exact(zDg (P:=P) hI R hy hj hu Az he).sound R (by simp only[execOp,Ao,Sem.run_bind,Sem.run_pure]) hd hf
   ·rename_i hu;simp only[zA]at hc;subst hc;exact(zDf (P:=P) hI R hy hj hu he).sound R (by simp only[execOp,Ao,Sem.run_bind,Sem.run_pure]) hd hf
   ·simp at hc
 | extract x i=>
   simp only[zaG,zC,zB,zA]at hc;obtain⟨y,hy,rfl⟩:=hc
   exact(zDh (P:=P) hI R hy he).sound R (by simp only[execOp,Ao,Sem.run_bind,Sem.run_pure]) hd hf
 | makeMap t r=>
   simp only[zaG]at hc;split at hc
   ·rename_i hu;simp only[zA]at hc;subst hc;exact zkA R hu (by simp) Ao hd hf hk hn he
   ·rename_i k n hu;simp only[zA]at hc;subst hc;exact zkA R hu (fun x hx=>by simp only[zA]at hx;subst hx;exact⟨k,n,rfl⟩) Ao hd hf hk hn he
   ·simp at hc
 | lookup t x y ok=>
   simp only[zaG,zC,zB]at hc;obtain⟨x',hx,y',hy,hc⟩:=hc;split at hc
   ·rename_i kt et hu;simp only[zB,zA]at hc;obtain⟨kd,Ey,z,hz,rfl⟩:=hc;exact(zCw (P:=P) hI R hx hy hu (zyY Ey) hz he).sound R (by simp only[execOp,Ao,Sem.run_bind,Sem.run_pure]) hd hf
   ·simp at hc
 | mapUpdate t x y v=>
   simp only[zaG,zC,zB]at hc;obtain⟨x',hx,y',hy,v',hv,hc⟩:=hc;split at hc
   ·rename_i kt et hu;simp only[zB]at hc;obtain⟨kd,Ey,hc⟩:=hc;split at hc
    ·simp at hc
    ·rename_i Fk;simp only[zA]at hc;subst hc;exact ziR hI R hx hy hv hu (zyY Ey) (.inl Ao) he (by simpa using Fk)
   ·simp at hc
 | insert t x y v=>
   simp only[zaG,zC,zB]at hc;obtain⟨x',hx,y',hy,v',hv,hc⟩:=hc;split at hc
   ·rename_i kt et hu;simp only[zB]at hc;obtain⟨kd,Ey,hc⟩:=hc;split at hc
    ·simp at hc
    ·rename_i Fk;simp only[zA]at hc;subst hc;exact ziR hI R hx hy hv hu (zyY Ey) (.inr Ao) he (by simpa using Fk)
   ·simp at hc
 | call cl=>
   simp only[zaG]at hc;split at hc
   ·simp at hc
   ·rename_i hb;split at hc
    ·rename_i t x Bq CN;have Hd:cl.argTypes= #[t]:=Array.toList_inj.1 Bq;have Nq:cl.args= #[x]:=Array.toList_inj.1 CN;have AT:=zng (P:=P) (w:=w) (a:=a) Ao hb;rw[Hd,Nq]at AT;simp only[List.map_toArray,List.map_cons,List.map_nil]at AT;split at hc
     ·rename_i el hu;simp only[zE]at hc;obtain⟨y,hy,rfl⟩:=hc;exact(zDA (P:=P) hI R hy hu he).sound R AT hd hf
     ·rename_i hu;simp only[zE]at hc;obtain⟨y,hy,rfl⟩:=hc;exact(zDc (P:=P) hI R hy hu he).sound R AT hd hf
     ·rename_i n el hu;simp only[zA]at hc;subst hc;exact(zDe (P:=P) hu he).sound R AT hd hf
     ·simp at hc
    ·simp at hc
   ·rename_i hb;split at hc
    ·rename_i t u x y Bq CN;simp only[zC,zB]at hc;obtain⟨x',hx,y',hy,hc⟩:=hc;split at hc
     ·rename_i el el' h1 h2;simp only[zB,Prod.exists]at hc;obtain⟨ag,n,Az,i,hi,z,hz,hc⟩:=hc;split at hc
      ·rename_i Bo;simp only[zA]at hc;subst hc;exact zmv hI R hx hy h1 h2 Az hi hz Bo.2 Bo.1 Ao hb (Array.toList_inj.1 Bq) (Array.toList_inj.1 CN) hd hf hk hn he
      ·simp at hc
     ·rename_i el k h1 h2;simp only[zB,Prod.exists]at hc;obtain⟨ag,n,Az,i,hi,z,hz,hc⟩:=hc;split at hc
      ·rename_i Bo;simp only[zA]at hc;subst hc;exact zpm hI R hx hy h1 h2 Az hi hz Bo.1 Ao hb (Array.toList_inj.1 Bq) (Array.toList_inj.1 CN) hd hf hk hn he
      ·simp at hc
     ·simp at hc
    ·simp at hc
   ·rename_i hb;split at hc
    ·rename_i t u x y Bq CN;simp only[zC,zB]at hc;obtain⟨x',hx,y',hy,hc⟩:=hc;split at hc
     ·rename_i el h1;simp only[zB,Prod.exists]at hc;obtain⟨ag,n,Az,hc⟩:=hc;split at hc
      ·rename_i Cx;simp only[zA]at hc;subst hc;exact zpj hI R hx hy h1 Az Cx Ao hb (Array.toList_inj.1 Bq) (Array.toList_inj.1 CN) hd hf he
      ·simp at hc
     ·simp at hc
    ·simp at hc
   ·rename_i hb;split at hc
    ·rename_i t1 t2 x y Bq CN;simp only[zC,zB,zA]at hc;obtain⟨x',hx,y',hy,rfl⟩:=hc;have AT:=znf (P:=P) (w:=w) (a:=a) Ao hb;rw[Array.toList_inj.1 (CN:cl.args.toList= #[x,y].toList)]at AT;simp only[List.map_toArray,List.map_cons,List.map_nil]at AT;exact(zDK (P:=P) (mn:=false) hI R hx hy he cl.argTypes o.type).sound R AT hd hf
    ·simp at hc
   ·rename_i hb;split at hc
    ·rename_i t1 t2 x y Bq CN;simp only[zC,zB,zA]at hc;obtain⟨x',hx,y',hy,rfl⟩:=hc;have AT:=zne (P:=P) (w:=w) (a:=a) Ao hb;rw[Array.toList_inj.1 (CN:cl.args.toList= #[x,y].toList)]at AT;simp only[List.map_toArray,List.map_cons,List.map_nil]at AT;exact(zDK (P:=P) (mn:=true) hI R hx hy he cl.argTypes o.type).sound R AT hd hf
    ·simp at hc
   ·rename_i hb;split at hc
    ·rename_i t x Bq CN;simp only[zC,zB]at hc;obtain⟨x',hx,hc⟩:=hc;split at hc
     ·rename_i el h1;simp only[zB,Prod.exists]at hc;obtain⟨ag,n,Az,z,hz,hc⟩:=hc;split at hc
      ·rename_i Cx;simp only[zA]at hc;subst hc;exact zn7 hI R hx h1 Az Cx.1 hz Cx.2 Ao hb (Array.toList_inj.1 Bq) (Array.toList_inj.1 CN) hd hf he
      ·simp at hc
     ·simp at hc
    ·simp at hc
   ·rename_i hb;split at hc
    ·rename_i t x Bq CN;have AT:=znh (P:=P) (w:=w) (a:=a) Ao hb;rw[Array.toList_inj.1 (Bq:cl.argTypes.toList= #[t].toList),Array.toList_inj.1 (CN:cl.args.toList= #[x].toList)]at AT;simp only[List.map_toArray,List.map_cons,List.map_nil]at AT;split at hc
     ·rename_i el hu;simp only[zE]at hc;obtain⟨y,hy,rfl⟩:=hc;exact(zDk (P:=P) hI R hy hu he).sound R AT hd hf
     ·simp at hc
    ·simp at hc
   ·simp at hc
 | panic x=>
   simp only[zaG,zA]at hc;subst hc
   simp[zw4]at he
 | makeInterface t x=>
   simp only[zaG,zA]at hc;subst hc
   simp[zw4]at he
 | _=>simp[zaG]at hc
end
end Rg
end
section
namespace Rg
open Go
def zaZ (w:World) (A:Nat->Prop) (nm μ:Nat->Nat) (H:Nat->Option O) (vs:Array Value) (xs:List V):Prop:=
 vs.size=xs.length/\ ∀(i:Nat) (x:V),xs[i]? =some x-> ∃v,vs[i]? =some v/\zxy w A nm μ H v x
theorem zaZ.append {w:World} {A:Nat->Prop} {nm μ:Nat->Nat} {H:Nat->Option O} {vs us:Array Value} {xs ys:List V} (h:zaZ w A nm μ H vs xs) (h':zaZ w A nm μ H us ys):
 zaZ w A nm μ H (vs++us) (xs++ys):=by
 refine⟨by simp[h.1,h'.1],fun i x hi=> ?_⟩;rw[List.getElem?_append]at hi;split at hi
 ·rename_i Ai;obtain⟨v,hv,hr⟩:=h.2 i x hi;exact⟨v,by rw[Array.getElem?_append_left (by rw[h.1];exact Ai)];exact hv,hr⟩
 ·rename_i Co;obtain⟨v,hv,hr⟩:=h'.2 _ x hi;exact⟨v,by rw[Array.getElem?_append_right (by rw[h.1];omega),h.1];exact hv,hr⟩
def zjr (N:Nam) (A:Nat->Prop) (w:World):Prop:=
 ∀(g j:Nat) (x:T),(N.G g)[j]? =some x->A (N.gm g)/\(∃e,w.shape? (N.gm g)=some (e,(N.G g).length))/\ ∃v,w.cell? ⟨N.gm g,j,none⟩=some v/\RepT w A N.nm v x
def zfl (P:Program) (N:Nam) (g:Nat) (args:List V) (r:V):Prop:=
 ∀(A:Nat->Prop) (w:World) (vs:Array Value),(∀r,A r->r<w.heap.size)->zjr N A w->zaZ w A N.nm (fun _=>0) (fun _=>none) vs args->
  Calls P (N.nm g) vs w fun e w'=> ∃v,e= .returned v/\(w'.os=w.os/\w'.output=w.output)/\w.heap.size<=w'.heap.size/\(∀q,q<w.heap.size->w'.heap[q]? =w.heap[q]?)/\
   zxy w' (fun q=>A q\/(w.heap.size<=q/\q<w'.heap.size)) N.nm (fun _=>0) (fun _=>none) v r
def FW (ro:Option Nat):Fence:={ Fence.wide with round:=ro }
theorem zfm {ro:Option Nat} {k:Nat}:(FW ro).room k:=fun _ h=>by simp[FW,Fence.wide]at h
theorem zdR {ro:Option Nat} {n:Nat}:(FW ro).depth.isSome=true->1<=n:=fun h=>by simp[FW,Fence.wide]at h
theorem zgE {P:Program} {ro:Option Nat} {n f:Nat} {args:Array Value} {w:World} {R:Ending->World->Prop} (h:Calls P f args w R):CallsIn (FW ro) n P f args w R:=(callsIn_wide (n:=n)).2 h
def zrd:Ex->Exit
 | .normal=> .normal
 | .exit id=> .exit id
 | .ret=> .ret
def zCr (N:Nam) (c:Ctx) (ns:Nat) (ex:Ex) (s':St) (e:Exit) (a':Act) (w':World):Prop:=
 e=zrd ex/\ ∃A' μ' lam',Rel N c ns A' μ' lam' s' a' w'
def zf7 (P:Program) (N:Nam) (bd:C) (s:St) (ex:Ex) (s':St):Prop:=
 ∀rc m,N.cr rc m bd-> ∀l c A μ lam a w,Rel N c m A μ lam s a w->rc.wpIn (FW (some l)) 0 P (zCr N c m ex s') a w
def zam:Act:={ tmps:= #[],defers:=[] }
def zhR (P:Program) (N:Nam) (g:Nat) (args:List V) (H:Nat->Option O) (n:Nat) (r:V) (H':Nat->Option O) (n':Nat):Prop:=
 ∀(c:Ctx) (A:Nat->Prop) (μ lam:Nat->Nat) (w:World) (vs:Array Value),Rel N c 0 A μ lam (.init [] H n) zam w->zaZ w A N.nm μ H vs args->
  Calls P (N.nm g) vs w fun e w'=> ∃v A' μ' lam',e= .returned v/\Rel N c 0 A' μ' lam' (.init [] H' n') zam w'/\zxy w' A' N.nm μ' H' v r
structure Real (P:Program) (F:Nat) (rf:Func):Prop where
 f:P.funcs[F]? =some rf
 b:rf.body.isSome=true
 n : (rf.name == "runtime.NumGoroutine") = false
section
variable {P:Program} {N:Nam} {I:Inv} {c:Ctx} {ns p:Nat} {A:Nat->Prop} {μ lam:Nat->Nat} {s:St} {a:Act} {w:World} {e:Eff} {o:Oper} {ro:Option Nat}
theorem ze6 {cl:Call} {f:Operand} {F:Nat} {va vb:Array Value} {rf:Func} (ho:o.op= .call cl) (hb:cl.callee= .value f) (hv:a.eval f= .func (.func F) va vb) (hr:Real P F rf):
 (execOp a.eval o).run P w= .ok (.enter F (va++cl.args.map a.eval++vb)) w:=by
 have Hb:rf.body.isNone=false:=by have:=hr.b;cases h:rf.body<;>simp_all
 have hn:=hr.n;simp only[execOp,ho,resolve,hb,Sem.run_bind,hv,Deferred.ofValue,Sem.run_pure,Result.andThen_ok,invoke,callFunc,run_program,hr.f,hn,Hb,zG,if_false]
theorem zjb {fv:V} {v:Value} {g:Nat} {as bs:List V} (hr:zxy w A N.nm μ s.heap v fv) (hf:zze fv=some (g,as,bs)):
 ∃va vb,v= .func (.func (N.nm g)) va vb/\zaZ w A N.nm μ s.heap va as/\zaZ w A N.nm μ s.heap vb bs:=by
 unfold zze at hf;split at hf
 ·simp only[zA,Prod.mk.injEq]at hf;obtain⟨rfl,rfl,rfl⟩:=hf
  cases(hr:RepC w A N.nm μ s.heap v _)with
  | fn _ _ _ va vb fa fb ha hb Bn Cl CO DC=>
    exact⟨va,vb,rfl,⟨ha,fun i x hi=>⟨fa i,Bn i x hi,(Cl i x hi).toV⟩⟩,⟨hb,fun i x hi=>⟨fb i,CO i x hi,(DC i x hi).toV⟩⟩⟩
 ·simp only[zA,Prod.mk.injEq]at hf;obtain⟨rfl,rfl,rfl⟩:=hf
  cases hr.t_inv with
  | fn _ a b va vb fa fb ha hb Bn Cl CO DC=>
    refine⟨va,vb,rfl,⟨by simp[ha],fun i x hi=> ?_⟩,⟨by simp[hb],fun i x hi=> ?_⟩⟩
    ·simp only[zJ,zE]at hi;obtain⟨y,hy,rfl⟩:=hi;exact⟨fa i,Bn i y hy,(RepC.t (Cl i y hy)).toV⟩
    ·simp only[zJ,zE]at hi;obtain⟨y,hy,rfl⟩:=hi;exact⟨fb i,CO i y hy,(RepC.t (DC i y hy)).toV⟩
 ·simp only[zA,Prod.mk.injEq]at hf;obtain⟨rfl,rfl,rfl⟩:=hf
  cases hr.t_inv with
  | fa _ c vc fc hc Fs Hr=>
    refine⟨#[.agg vc],#[],rfl,⟨rfl,fun i x hi=> ?_⟩,⟨rfl,fun i x hi=>by simp at hi⟩⟩
    cases i with
    | succ i=>simp at hi
    | zero=>
      simp only[List.getElem?_cons_zero,zA]at hi;subst hi;refine⟨.agg vc,rfl,?_⟩;refine⟨vc,rfl,by simp[hc],fun j y hj=> ?_⟩;simp only[zJ,zE]at hj;obtain⟨z,hz,rfl⟩:=hj;exact⟨fc j,by simpa using Fs j z hz,.t (Hr j z hz)⟩
 ·simp at hf
theorem zx5.mono {w:World} {A A':Nat->Prop} {nm μ:Nat->Nat} {H:Nat->Option O} {v:Value} {x:V} (h:zx5 w A nm μ H v x) (hA: ∀r,A r->A' r):zx5 w A' nm μ H v x:=
 h.evo ⟨fun _ _=>rfl,hA,fun _ o h=>⟨o,h,O.le_refl o,fun _=>rfl⟩,fun _ _ h=>h⟩
theorem zxy.mono {w:World} {A A':Nat->Prop} {nm μ:Nat->Nat} {H:Nat->Option O} {v:Value} {x:V} (h:zxy w A nm μ H v x) (hA: ∀r,A r->A' r):zxy w A' nm μ H v x:=
 h.evo ⟨fun _ _=>rfl,hA,fun _ o h=>⟨o,h,O.le_refl o,fun _=>rfl⟩,fun _ _ h=>h⟩
theorem zxy.noheap {w:World} {A:Nat->Prop} {nm μ μ':Nat->Nat} {H':Nat->Option O} {v:Value} {x:V} (h:zxy w A nm μ (fun _=>none) v x):zxy w A nm μ' H' v x:=
 h.evo ⟨fun _ _=>rfl,fun _ h=>h,fun _ _ h=>by simp at h,fun _ _ h=>h⟩
theorem zcM (H0:Nat->Option O): ∀(l:List Nat) (h:Nat->Option O) (k:Nat) (o:O),zxu h (Rg.freezes H0 l) k=some o->h k=some o\/ ∃sz rs f,H0 k=some (.rows sz rs f)
 | [],h,k,o,hk=> .inl hk
 | q::l,h,k,o,hk=>by
   by_cases hq: ∃sz rs f,H0 q=some (.rows sz rs f)
   ·obtain⟨sz,rs,f,hq⟩:=hq;have:Rg.freezes H0 (q::l)=(q,.rows sz rs true)::Rg.freezes H0 l:=by simp[Rg.freezes,hq]
    rw[this]at hk;rcases zcM H0 l _ k o hk with h1 | h1
    ·by_cases e:k=q
     ·subst e;exact .inr ⟨sz,rs,f,hq⟩
     ·rw[zaa _ _ e]at h1;exact .inl h1
    ·exact .inr h1
   ·have:Rg.freezes H0 (q::l)=Rg.freezes H0 l:=by
     simp only[Rg.freezes,List.filterMap_cons];split
     ·rfl
     ·rename_i x hx;split at hx
      ·rename_i sz rs f h;exact absurd ⟨sz,rs,f,h⟩ hq
      ·simp at hx
    rw[this]at hk;exact zcM H0 l h k o hk
theorem zkR (hI:I.Ok N) (R:Rel N c ns A μ lam s a w) {cl:Call} {f:Operand} {f':Opd} {args':List Opd} {fv:V} {g:Nat} {as bs vs rs:List V} {r:V} {rf:Func} {Q:Exit->Act->World->Prop}
 (ho:o.op= .call cl) (hb:cl.callee= .value f) (hf:opd I f=some f') (Br:opds I cl.args=some args') (An:evl N.G s f'=some fv) (Au:zze fv=some (g,as,bs))
 (Am:Real P (N.nm g) rf) (Aq:zzo N.G s args'=some vs) (AA:(as++vs++bs).mapM (toT1 s.heap)=some rs) (hc:zfl P N g rs r)
 (hd: ∀x,o.dst=some x->x<ns) (AI:s.free o.dst {}):
 o.wpIn (FW ro) 0 P a w (fun a' w'=> ∃A' μ' lam',Rel N c ns A' μ' lam' (s.apply o.dst { val:=r,hp:=if r.scalar then []else freezes s.heap ((as++vs++bs).flatMap (zxp s.heap)) }) a' w') Q:=by
 obtain⟨va,vb,hv,ha,Bi⟩:=zjb (zxc hI R hf An) Au;have B7:zaZ w A N.nm μ s.heap (cl.args.map a.eval) vs:=zbA hI R Br Aq;have Aa:=(ha.append B7).append Bi;obtain⟨m1,m2⟩:=zax AA
 let A2:Nat->Prop:=fun r=>A r\/ ∃k∈(as++vs++bs).flatMap (zxp s.heap),zho s.heap k/\μ k=r
 have KY: ∀r,A2 r->r<w.heap.size:=by
  rintro r (h | ⟨k,_,⟨sz,rs,f,hk⟩,rfl⟩)
  ·exact R.alt r h
  ·exact R.lt_live hk rfl
 have IG:zjr N A2 w:=by
  intro g j x h;obtain⟨h1,ES,v,hv,hr⟩:=R.glob g j x h;exact⟨.inl h1,ES,v,hv,hr.mono (fun _ _=>rfl) (fun _ h=> .inl h)⟩
 have Ad:zaZ w A2 N.nm (fun _=>0) (fun _=>none) (va++cl.args.map a.eval++vb) rs:=by
  refine⟨by rw[Aa.1,m1],fun i x hi=> ?_⟩;obtain⟨y,hy,ht⟩:=m2 i x hi;obtain⟨v,hv,hr⟩:=Aa.2 i y hy;refine⟨v,hv,((zAH R.heap ht hr (fun _=>0) (fun _=>none)).mono ?_).toV⟩;rintro q (h | ⟨k,hk,h2⟩)
  ·exact .inl h
  ·exact .inr ⟨k,List.mem_flatMap.2 ⟨y,zL hy,hk⟩,h2⟩
 have BL:=hc A2 w _ KY IG Ad;refine⟨fun _ _=>trivial,?_⟩;rw[o.semAt_eq _ _ (by rw[ho];simp),ze6 ho hb hv Am,Oper.uponIn_enter];refine⟨zdR,zgE (BL.mono ?_)⟩;rintro e w' ⟨v,rfl,De,AM,As,DY⟩
 have Ml: ∀r x,w.shape? r=some x->w'.shape? r=some x:=by
  intro r x h
  have Ai:r<w.heap.size:=by
   rcases Nat.lt_or_ge r w.heap.size with h' | h'
   ·exact h'
   ·simp[World.shape?,Array.getElem?_eq_none h']at h
  simpa[World.shape?,As r Ai]using h
 have R1:Rel N c ns A μ lam s a w':=by
  refine R.world AM ?_ (fun r hr _=>As r (Nat.lt_of_lt_of_le hr R.csize)) Ml (R.defers.evo (fun r h=>As r (Array.getElem?_eq_some_iff.1 h).1) (fun _ _ h=>h)) De;rintro r (h | ⟨t,h,rfl⟩ | ⟨k,o',h,hl,rfl⟩)
  ·exact As r (R.alt r h)
  ·exact As _ (R.lt_loc h)
  ·exact As _ (R.lt_live h hl)
 by_cases hs:r.scalar=true
 ·refine⟨A,μ,lam,?_⟩;have:=R1.put o.dst { val:=r } v hd AI rfl rfl rfl (DY.scalar hs) (by simp);simpa[hs]using this
 ·obtain⟨A',R2,Di,Ar⟩:=Rel.freezes (μ:=μ) s.heap ((as++vs++bs).flatMap (zxp s.heap)) A s R1 (fun k sz rs f h=>⟨f,h⟩)
  have R3:=R2.growA (fun q=>w.heap.size<=q/\q<w'.heap.size) (fun q hq t ht=>by have:=R.lt_loc ht;omega)
   (fun q hq k o hk hl=>by
     have : ∃o',s.heap k=some o'/\o'.live=true:=by
      rcases zcM s.heap _ _ k o hk with h | ⟨sz,rs,f,h⟩
      ·exact⟨o,h,hl⟩
      ·exact⟨_,h,rfl⟩
     obtain⟨o',h1,h2⟩:=this
     have:=R.lt_live h1 h2;omega)
   (fun q hq=> .inr (by have:=R.csize;omega)) (fun q hq=>hq.2) (R.defers.join R2.defers (fun q hq=>hq.1))
  refine⟨fun q=>A' q\/(w.heap.size<=q/\q<w'.heap.size),μ,lam,?_⟩
  have BR:zxy w' (fun q=>A' q\/(w.heap.size<=q/\q<w'.heap.size)) N.nm μ (zxu s.heap (Rg.freezes s.heap ((as++vs++bs).flatMap (zxp s.heap)))) v r:=by
   refine(zxy.noheap DY).mono ?_;rintro q ((h | ⟨k,hk,⟨sz,rs,f,AX⟩,rfl⟩) | h)
   ·exact .inl (Di q h)
   ·exact .inl (Ar k hk sz rs f AX)
   ·exact .inr h
  have:=R3.put o.dst { val:=r } v hd AI rfl rfl rfl BR (by simp);rw[if_neg hs];exact this
end
end Rg
end
