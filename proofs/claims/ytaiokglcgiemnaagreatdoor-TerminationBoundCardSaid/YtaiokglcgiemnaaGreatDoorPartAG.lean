/- Part of the proof of the laws of the package relyguardlaw36: an abstract machine for the program's functions, what they compute, and that the machine is the program's. No condition. (RgN2 RgP) -/
import Derived.Test.YtaiokglcgiemnaaGreatDoorPartAF
section
namespace Rg
open Go
def World.setMap (w:World) (r:Nat) (ob:Go.Obj):World:={ w with heap:=w.heap.setIfInBounds r ob }
theorem ba_eq {x y:ByteArray} (h:(x==y)=true):x=y:=by
 cases x;cases y
 exact congrArg ByteArray.mk (eq_of_beq h)
section
variable {P:Program} {w:World}
theorem run_getMap {r n:Nat} {ms:Array MapEntry} (h:w.heap[r]? =some (.map ms n)):(getObj r).run P w= .ok (.map ms n) w:=by
 simp only[getObj,Sem.run,h]
theorem run_setMap {r n:Nat} {ms:Array MapEntry} (ob:Go.Obj) (h:w.heap[r]? =some (.map ms n)):(setObj r ob).run P w= .ok () (World.setMap w r ob):=by
 simp only[setObj,Sem.run,h];rfl
def keyKind:TypeDesc->Option Nat
 | .int _=>some 0
 | .bool=>some 1
 | .string=>some 2
 | _=>none
def T.kind:T->Option Nat
 | .int _ _=>some 0
 | .bool _=>some 1
 | .str _=>some 2
 | _=>none
theorem run_checkKey1 {t:TypeId} {k:Nat} {b:Bool} {n:Nat} {v:Value} (hk:kindOf P t=some k):(Instr.checkKey b (n+1) t v).run P w= .ok () w:=by
 unfold kindOf at hk
 split at hk<;>(try simp at hk)
 all_goals(rename_i hu;simp[Instr.checkKey,run_und hu])
end
def KeyTy (P:Program) (t:TypeId) (kd:Nat):Prop:=(∃d,P.underlying t=some d/\keyKind d=some kd/\kindOf P t=some kd)\/ ∃ks,plainEq P t=some ks/\kd=3+kcode ks
def KeyKd (k:T) (kd:Nat):Prop:=k.kind=some kd\/ ∃ts,k= .sl [ts]/\kd=3+kcode (ts.map T.kindN)
theorem kcode_inj: ∀{a b:List Nat},(∀x∈a,x<=2)->(∀x∈b,x<=2)->kcode a=kcode b->a=b
 | [],[],_,_,_=>rfl
 | [],_::_,_,_,h=>by simp only[kcode]at h;omega
 | _::_,[],_,_,h=>by simp only[kcode]at h;omega
 | x::a,y::b,ha,hb,h=>by
   have h1:=ha x (by simp)
   have h2:=hb y (by simp)
   simp only[kcode]at h
   have h3:x=y:=by omega
   rw[h3,kcode_inj (a:=a) (b:=b) (fun z hz=>ha z (by simp[hz])) (fun z hz=>hb z (by simp[hz])) (by omega)]
theorem kind_le {P:Program} {t:TypeId} {k:Nat} (h:kindOf P t=some k):k<=2:=by
 unfold kindOf at h
 split at h<;>simp at h<;>omega
theorem plain_le {P:Program}: ∀{fs:List Field} {i:Nat} {ks:List Nat},plainFields P i fs=some ks-> ∀k∈ks,k<=2
 | [],i,ks,h=>by simp only[plainFields,Option.some.injEq]at h;subst h;simp
 | f::fs,i,ks,h=>by
   simp only[plainFields,Option.bind_eq_bind,Option.bind_eq_some_iff]at h
   obtain⟨k,hk,ks',hks,h⟩:=h
   split at h
   ·simp only[Option.some.injEq]at h;subst h
    intro x hx
    rcases List.mem_cons.1 hx with rfl | hx
    ·exact kind_le hk
    ·exact plain_le hks x hx
   ·cases h
theorem plainEq_le {P:Program} {t:TypeId} {ks:List Nat} (h:plainEq P t=some ks): ∀k∈ks,k<=2:=by
 unfold plainEq at h
 split at h
 ·split at h
  ·exact plain_le h
  ·cases h
 ·cases h
theorem kindN_le (ts:List T): ∀k∈ts.map T.kindN,k<=2:=by
 intro k hk
 obtain⟨t,_,rfl⟩:=List.mem_map.1 hk
 cases t<;>simp[T.kindN]
theorem keyEqs_eq: ∀{ts us:List T} {b:Bool},keyEqs ts us=some b->eqCells (ts.map T.kindN) (ts.map V.t) (us.map V.t)=some b
 | [],[],b,h=>h
 | [],_::_,b,h=>by simp[keyEqs]at h
 | _::_,[],b,h=>by simp[keyEqs]at h
 | t::ts,u::us,b,h=>by
   simp only[keyEqs,Option.bind_eq_bind,Option.bind_eq_some_iff,Option.some.injEq]at h
   obtain⟨c,hc,r,hr,rfl⟩:=h
   have ih:=keyEqs_eq hr
   simp only[List.map_cons,eqCells,ih,Option.bind_eq_bind]
   have h1:eqCell t.kindN (.t t) (.t u)=some c:=by
    unfold keyEq1 at hc
    split at hc
    ·split at hc
     ·rename_i hk;subst hk;simpa[eqCell,T.kindN]using hc
     ·cases hc
    ·rename_i a b
     simp only[Option.some.injEq]at hc;subst hc
     simp only[eqCell,T.kindN,if_true]
     rw[ByteArray.toList_eq,ByteArray.toList_eq]
     show some (a.data.toList==b.data.toList)=some (a.data==b.data)
     rw[Array.beq_toList]
    ·simp only[Option.some.injEq]at hc;subst hc
     simp[eqCell,T.kindN]
    ·cases hc
   rw[h1];rfl
theorem keyEqs_same: ∀{ts us:List T} {vs ws:List Value},keyVals ts=some vs->keyVals us=some ws->keyEqs ts us=some true->vs=ws
 | [],[],vs,ws,hv,hw,_=>by simp only[keyVals,Option.some.injEq]at hv hw;rw[<- hv,<- hw]
 | [],_::_,_,_,_,_,h=>by simp[keyEqs]at h
 | _::_,[],_,_,_,_,h=>by simp[keyEqs]at h
 | t::ts,u::us,vs,ws,hv,hw,h=>by
   simp only[keyEqs,Option.bind_eq_bind,Option.bind_eq_some_iff,Option.some.injEq,Bool.and_eq_true]at h
   obtain⟨c,hc,r,hr,hcr,hrr⟩:=h
   subst hcr hrr
   simp only[keyVals,Option.bind_eq_some_iff,Option.map_eq_some_iff]at hv hw
   obtain⟨v,hv1,vs',hv2,rfl⟩:=hv
   obtain⟨z,hw1,ws',hw2,rfl⟩:=hw
   have ih:=keyEqs_same hv2 hw2 hr
   have h1:v=z:=by
    unfold keyEq1 at hc
    split at hc
    ·split at hc
     ·rename_i hk
      simp only[Option.some.injEq,beq_iff_eq]at hc
      simp only[keyVal1,Option.some.injEq]at hv1 hw1
      rw[<- hv1,<- hw1,hk,hc]
     ·cases hc
    ·simp only[Option.some.injEq]at hc
     have:=ba_eq hc
     simp only[keyVal1,Option.some.injEq]at hv1 hw1
     rw[<- hv1,<- hw1,this]
    ·simp only[Option.some.injEq,beq_iff_eq]at hc
     simp only[keyVal1,Option.some.injEq]at hv1 hw1
     rw[<- hv1,<- hw1,hc]
    ·cases hc
   rw[h1,ih]
theorem keyVals_rep {w:World} {A:Nat->Prop} {nm μ:Nat->Nat} {H:Nat->Option O}: ∀{ts:List T} {vs:List Value},keyVals ts=some vs->RepL w A nm μ H vs (ts.map V.t)
 | [],vs,h=>by simp only[keyVals,Option.some.injEq]at h;subst h;exact⟨rfl,fun i c h=>by simp at h⟩
 | t::ts,vs,h=>by
   simp only[keyVals,Option.bind_eq_some_iff,Option.map_eq_some_iff]at h
   obtain⟨v,hv,vs',hvs,rfl⟩:=h
   obtain⟨i1,i2⟩:=keyVals_rep (w:=w) (A:=A) (nm:=nm) (μ:=μ) (H:=H) hvs
   refine⟨by simpa using i1,fun i c hc=> ?_⟩
   cases i with
   | zero=>
     simp only[List.map_cons,List.getElem?_cons_zero,Option.some.injEq]at hc
     subst hc
     refine⟨v,rfl,?_⟩
     cases t<;>simp[keyVal1]at hv<;>subst hv
     ·exact .t (.int _ _)
     ·exact .t (.bool _)
     ·exact .t (.str _)
   | succ i=>exact i2 i c (by simpa using hc)
theorem cells_keyVals {w:World} {A:Nat->Prop} {nm μ:Nat->Nat} {H:Nat->Option O}: ∀{cs:List V} {vs:List Value} {ts:List T},RepL w A nm μ H vs cs->keyCells cs=some ts->keyVals ts=some vs
 | [],vs,ts,hr,h=>by
   simp only[keyCells,Option.some.injEq]at h;subst h
   have:vs=[]:=by simpa using hr.1
   subst this;rfl
 | c::cs,vs,ts,hr,h=>by
   simp only[keyCells,Option.bind_eq_bind,Option.bind_eq_some_iff,Option.some.injEq]at h
   obtain⟨t,ht,ts',hts,rfl⟩:=h
   cases vs with
   | nil=>have:=hr.1;simp at this
   | cons v vs=>
     have ih:=cells_keyVals (cs:=cs) (vs:=vs) ⟨by simpa using hr.1,fun i x hx=>by simpa using hr.2 (i+1) x (by simpa using hx)⟩ hts
     obtain⟨v',hv',hvr⟩:=hr.2 0 c rfl
     simp only[List.getElem?_cons_zero,Option.some.injEq]at hv'
     subst hv'
     have h1:keyVal1 t=some v:=by
      unfold keyCell at ht
      split at ht
      ·simp only[Option.some.injEq]at ht;subst ht;cases hvr with | t h=>cases h;rfl
      ·simp only[Option.some.injEq]at ht;subst ht;cases hvr with | t h=>cases h;rfl
      ·simp only[Option.some.injEq]at ht;subst ht;cases hvr with | t h=>cases h;rfl
      ·cases ht
     simp only[keyVals,h1,ih,Option.bind_some,Option.map_some]
theorem keyOf_rep {w:World} {A:Nat->Prop} {nm μ:Nat->Nat} {H:Nat->Option O} {x:V} {k:T} {kd:Nat} {v:Value} (h:keyOf kd x=some k) (hv:RepV w A nm μ H v x):keyVal k=some v/\KeyKd k kd:=by
 unfold keyOf at h
 split at h
 ·split at h
  ·rename_i hk;simp only[Option.some.injEq]at h;subst h;subst hk;cases hv.t_inv;exact⟨rfl,.inl rfl⟩
  ·cases h
 ·split at h
  ·rename_i hk;simp only[Option.some.injEq]at h;subst h;subst hk;cases hv.t_inv;exact⟨rfl,.inl rfl⟩
  ·cases h
 ·split at h
  ·rename_i hk;simp only[Option.some.injEq]at h;subst h;subst hk;cases hv.t_inv;exact⟨rfl,.inl rfl⟩
  ·cases h
 ·simp only[Option.bind_eq_some_iff]at h
  obtain⟨ts,hts,h⟩:=h
  split at h
  ·rename_i hk
   simp only[Option.some.injEq]at h;subst h
   obtain⟨xs,rfl,hr⟩:=hv.agg_inv
   have:=cells_keyVals hr hts
   exact⟨by simp[keyVal,this],.inr ⟨ts,rfl,hk⟩⟩
  ·cases h
 ·cases h
theorem sameNow_key {d:TypeDesc} {v u:Value} {x y:T} {b:Bool} (hv:keyVal x=some v) (hu:keyVal y=some u) (he:keyEq x y=some b)
 {kd:Nat} (hd:keyKind d=some kd) (hx:x.kind=some kd):Instr.sameNow d v u=some b:=by
 unfold keyEq at he
 split at he
 ·simp only[keyVal,Option.some.injEq]at hv hu
  subst hv hu
  split at he
  ·rename_i hk
   simp only[Option.some.injEq]at he
   subst hk
   cases d<;>simp[keyKind]at hd<;>subst hd<;>simp[T.kind]at hx
   simp[Instr.sameNow,he]
  ·simp at he
 ·simp only[keyVal,Option.some.injEq]at hv hu
  subst hv hu
  simp only[Option.some.injEq]at he
  cases d<;>simp[keyKind]at hd<;>subst hd<;>simp[T.kind]at hx
  simp[Instr.sameNow,he]
 ·simp only[keyVal,Option.some.injEq]at hv hu
  subst hv hu
  simp only[Option.some.injEq]at he
  cases d<;>simp[keyKind]at hd<;>subst hd<;>simp[T.kind]at hx
  simp[Instr.sameNow,he]
 ·simp[T.kind]at hx
 ·simp at he
theorem same_bits: ∀{ts:List T} {vs:List Value},keyVals ts=some vs->((vs.zip vs).all fun(x,y)=>Instr.sameBits 9999 x y)=true
 | [],vs,h=>by simp only[keyVals,Option.some.injEq]at h;subst h;rfl
 | t::ts,vs,h=>by
   simp only[keyVals,Option.bind_eq_some_iff,Option.map_eq_some_iff]at h
   obtain⟨v,hv,vs',hvs,rfl⟩:=h
   have ih:=same_bits hvs
   simp only[List.zip_cons_cons,List.all_cons,ih,Bool.and_true]
   have hb: ∀s:ByteArray,(s==s)=true:=fun s=>by show(s.data==s.data)=true;simp
   cases t<;>simp[keyVal1]at hv<;>subst hv<;>simp[Instr.sameBits,hb]
theorem keyEq_sl {ts:List T} {k:T} {b:Bool} (h:keyEq (.sl [ts]) k=some b): ∃us,k= .sl [us]/\keyEqs ts us=some b:=by
 cases k with
 | sl es=>
   match es,h with
   | [],h=>simp[keyEq]at h
   | [us],h=>exact⟨us,rfl,h⟩
   | _::_::_,h=>simp[keyEq]at h
 | _=>simp[keyEq]at h
theorem keyEq_same {v u:Value} {x y:T} (hv:keyVal x=some v) (hu:keyVal y=some u) (he:keyEq x y=some true):Instr.sameBits 10000 u v=true:=by
 unfold keyEq at he
 split at he
 ·simp only[keyVal,Option.some.injEq]at hv hu
  subst hv hu
  split at he
  ·rename_i hk
   simp only[Option.some.injEq,beq_iff_eq]at he
   subst hk;subst he
   simp[Instr.sameBits]
  ·simp at he
 ·simp only[keyVal,Option.some.injEq]at hv hu
  subst hv hu
  simp only[Option.some.injEq]at he
  have:=ba_eq he
  subst this
  simpa[Instr.sameBits]using he
 ·simp only[keyVal,Option.some.injEq]at hv hu
  subst hv hu
  simp only[Option.some.injEq,beq_iff_eq]at he
  subst he
  simp[Instr.sameBits]
 ·simp only[keyVal,Option.map_eq_some_iff]at hv hu
  obtain⟨vs,hvs,rfl⟩:=hv
  obtain⟨ws,hws,rfl⟩:=hu
  have:=keyEqs_same hvs hws he
  subst this
  have h1:=same_bits hvs
  simp only[Instr.sameBits,beq_self_eq_true,Bool.true_and]
  simpa using h1
 ·simp at he
def EntRep (w:World) (A:Nat->Prop) (nm μ:Nat->Nat) (H:Nat->Option O) (ms:List MapEntry) (es:List (T×V)):Prop:=
 ms.length=es.length/\ ∀(i:Nat) (k:T) (x:V),es[i]? =some (k,x)-> ∃m,ms[i]? =some m/\keyVal k=some m.key/\RepV1 w A nm μ H m.val x
section
variable {P:Program} {w:World}
theorem run_equal_struct {t:TypeId} {ks:List Nat} {xs ys:Array Value} {as bs:List V} {r:Bool} {A:Nat->Prop} {nm μ:Nat->Nat} {H:Nat->Option O} (ht:plainEq P t=some ks)
 (hx:RepL w A nm μ H xs.toList as) (hy:RepL w A nm μ H ys.toList bs) (hr:eqCells ks as bs=some r):(Op.equal t (.agg xs) (.agg ys)).run P w= .ok r w:=by
 unfold plainEq at ht
 split at ht
 ·rename_i fields hfs
  split at ht
  ·rename_i hc
   have hfo:P.fieldsOf t=fields:=by simp[Program.fieldsOf,hfs]
   have h0:=run_eqFields (P:=P) (i:=0) 9998 ht hx hy (by simpa using hr)
   have:=run_equalIn_struct (P:=P) w 9999 t xs ys (by rw[hfo];exact hfs) hc.1
   show(Op.equalIn 10000 t (.agg xs) (.agg ys)).run P w= .ok r w
   rw[this,hfo];exact h0
  ·cases ht
 ·cases ht
theorem plainFields_len: ∀{fs:List Field} {i:Nat} {ks:List Nat},plainFields P i fs=some ks->ks.length=fs.length
 | [],i,ks,h=>by simp only[plainFields,Option.some.injEq]at h;subst h;rfl
 | f::fs,i,ks,h=>by
   simp only[plainFields,Option.bind_eq_bind,Option.bind_eq_some_iff]at h
   obtain⟨k,hk,ks',hks,h⟩:=h
   split at h
   ·simp only[Option.some.injEq]at h;subst h
    simp[plainFields_len hks]
   ·cases h
theorem struct_key {ks:List Nat} {x:T} {v:Value} {t:TypeId} (hp:plainEq P t=some ks) (hx:KeyKd x (3+kcode ks)) (hv:keyVal x=some v): ∃ts vs,x= .sl [ts]/\ks=ts.map T.kindN/\keyVals ts=some vs/\v= .agg vs.toArray:=by
 rcases hx with hx | ⟨ts,rfl,hk⟩
 ·exfalso
  cases x<;>simp[T.kind]at hx<;>omega
 ·simp only[keyVal,Option.map_eq_some_iff]at hv
  obtain⟨vs,hvs,rfl⟩:=hv
  exact⟨ts,vs,rfl,kcode_inj (plainEq_le hp) (kindN_le ts) (by omega),hvs,rfl⟩
theorem run_checkKey {kt:TypeId} {kd:Nat} {k:T} {v:Value} (b:Bool) (ht:KeyTy P kt kd) (hk:KeyKd k kd) (hv:keyVal k=some v):(Instr.checkKey b 10000 kt v).run P w= .ok () w:=by
 rcases ht with⟨d,hu,hd,hkk⟩ | ⟨ks,hp,rfl⟩
 ·exact run_checkKey1 (n:=9999) hkk
 ·obtain⟨ts,vs,rfl,hks,hvs,rfl⟩:=struct_key hp hk hv
  have hlen:vs.length=ks.length:=by
   have:=(keyVals_rep (w:=w) (A:=fun _=>True) (nm:=id) (μ:=id) (H:=fun _=>none) hvs).1
   rw[hks];simpa using this
  unfold plainEq at hp
  split at hp
  ·rename_i fields hfs
   split at hp
   ·have hfl:=plainFields_len hp
    rw[show(10000:Nat)=9999+1 from rfl,Instr.checkKey]
    simp only[Sem.run_bind,run_und hfs,Result.andThen_ok]
    rw[<- Array.forIn_toList]
    have hle:0+fields.toList.length<=vs.toArray.size:=by simp at hfl⊢;omega
    clear hfl hlen hks hk hv
    generalize fields.toList=L at hp hle
    generalize(0:Nat)=i at hp hle
    induction L generalizing i ks with
    | nil=>simp
    | cons f L ih=>
      simp only[plainFields,Option.bind_eq_bind,Option.bind_eq_some_iff]at hp
      obtain⟨k,hkf,ks',hks',hp⟩:=hp
      split at hp
      ·rename_i hc2
       obtain⟨hn,ho,htyp⟩:=hc2
       obtain⟨inf,g1,g2,g3,g4⟩:=typ_spec htyp
       simp only[List.length_cons]at hle
       obtain⟨u,hu⟩: ∃u,vs.toArray[i]? =some u:=⟨_,Array.getElem?_eq_getElem (by omega)⟩
       have hpx:(part f.type vs.toArray f.offset).run P w= .ok u w:=by
        simp only[part,Sem.run_bind,g4 w,Result.andThen_ok,ho]
        simp only[hu];rfl
       have p2:(Instr.checkKey b 9999 f.type u).run P w= .ok () w:=run_checkKey1 (n:=9998) hkf
       simp only[List.forIn_cons,Sem.run_bind,hn,ne_eq,not_false_eq_true,if_true,Result.andThen_ok,hpx,p2,Sem.run_pure]
       exact ih _ _ hks' (by omega)
      ·cases hp
   ·cases hp
  ·cases hp
theorem find_now {A:Nat->Prop} {nm μ:Nat->Nat} {H:Nat->Option O} {d:TypeDesc} {v:Value} {x:T} (hv:keyVal x=some v) {kd:Nat} (hd:keyKind d=some kd) (hx:x.kind=some kd):
 ∀(es:List (T×V)) (ms:List MapEntry) (j:Nat) (r:Option V),EntRep w A nm μ H ms es->mapFind x es=some r->
  match r with
  | none=>Instr.findNow d v ms j=some none/\ ∀u,mapPut x u es=some (es++[(x,u)])
  | some q=> ∃i m,Instr.findNow d v ms j=some (some (j+i,m.val))/\ms[i]? =some m/\RepV1 w A nm μ H m.val q/\Instr.sameBits 10000 m.key v=true/\ ∀u,mapPut x u es=some (es.set i (x,u))
 | [],ms,j,r,h,hf=>by
   simp only[mapFind,Option.some.injEq]at hf
   subst hf
   obtain⟨h1,_⟩:=h
   have:ms=[]:=by simpa using h1
   subst this
   exact⟨rfl,fun u=>rfl⟩
 | (k,y)::es,ms,j,r,h,hf=>by
   obtain⟨h1,h2⟩:=h
   cases ms with
   | nil=>simp at h1
   | cons m ms=>
     obtain⟨m',hm',hk,hval⟩:=h2 0 k y rfl
     simp only[List.getElem?_cons_zero,Option.some.injEq]at hm'
     subst hm'
     simp only[mapFind]at hf
     split at hf
     ·simp at hf
     ·rename_i hke
      simp only[Option.some.injEq]at hf
      subst hf
      exact⟨0,m,by simp[Instr.findNow,sameNow_key hv hk hke hd hx],rfl,hval,keyEq_same hv hk hke,fun u=>by simp[mapPut,hke]⟩
     ·rename_i hke
      have hrec:EntRep w A nm μ H ms es:=⟨by simpa using h1,fun i k' x' hi=>h2 (i+1) k' x' (by simpa using hi)⟩
      have ih:=find_now hv hd hx es ms (j+1) r hrec hf
      cases r with
      | none=>exact⟨by simp[Instr.findNow,sameNow_key hv hk hke hd hx,ih.1],fun u=>by simp[mapPut,hke,ih.2 u]⟩
      | some q=>
        obtain⟨i,m',h3,h4,h5,h6,h7⟩:=ih
        refine⟨i+1,m',?_,by simpa using h4,h5,h6,fun u=>by simp[mapPut,hke,h7 u]⟩
        simp only[Instr.findNow,sameNow_key hv hk hke hd hx,h3]
        congr 3;omega
theorem find_ask {A:Nat->Prop} {nm μ:Nat->Nat} {H:Nat->Option O} {kt:TypeId} {ts:List T} {vs:List Value} (hp:plainEq P kt=some (ts.map T.kindN)) (hv:keyVals ts=some vs):
 ∀(es:List (T×V)) (ms:List MapEntry) (j:Nat) (r:Option V),EntRep w A nm μ H ms es->mapFind (.sl [ts]) es=some r->
  match r with
  | none=>(Instr.findAsking kt (.agg vs.toArray) ms j).run P w= .ok none w/\ ∀u,mapPut (.sl [ts]) u es=some (es++[(.sl [ts],u)])
  | some q=> ∃i m,(Instr.findAsking kt (.agg vs.toArray) ms j).run P w= .ok (some (j+i,m.val)) w/\ms[i]? =some m/\RepV1 w A nm μ H m.val q/\Instr.sameBits 10000 m.key (.agg vs.toArray)=true/\ ∀u,mapPut (.sl [ts]) u es=some (es.set i (.sl [ts],u))
 | [],ms,j,r,h,hf=>by
   simp only[mapFind,Option.some.injEq]at hf
   subst hf
   obtain⟨h1,_⟩:=h
   have:ms=[]:=by simpa using h1
   subst this
   exact⟨by simp[Instr.findAsking],fun u=>rfl⟩
 | (k,y)::es,ms,j,r,h,hf=>by
   obtain⟨h1,h2⟩:=h
   cases ms with
   | nil=>simp at h1
   | cons m ms=>
     obtain⟨m',hm',hk,hval⟩:=h2 0 k y rfl
     simp only[List.getElem?_cons_zero,Option.some.injEq]at hm'
     subst hm'
     have hke0: ∀b,keyEq (.sl [ts]) k=some b->(Op.equal kt (.agg vs.toArray) m.key).run P w= .ok b w:=fun b hb=>by
      obtain⟨us,rfl,hb⟩:=keyEq_sl hb
      simp only[keyVal,Option.map_eq_some_iff]at hk
      obtain⟨ws,hws,hkk⟩:=hk
      rw[<- hkk]
      exact run_equal_struct (A:=A) (nm:=nm) (μ:=μ) (H:=H) hp (by simpa using keyVals_rep hv) (by simpa using keyVals_rep hws) (keyEqs_eq hb)
     simp only[mapFind]at hf
     split at hf
     ·simp at hf
     ·rename_i hke
      simp only[Option.some.injEq]at hf
      subst hf
      exact⟨0,m,by simp[Instr.findAsking,hke0 _ hke],rfl,hval,keyEq_same (by simp[keyVal,hv]) hk hke,fun u=>by simp[mapPut,hke]⟩
     ·rename_i hke
      have hrec:EntRep w A nm μ H ms es:=⟨by simpa using h1,fun i k' x' hi=>h2 (i+1) k' x' (by simpa using hi)⟩
      have ih:=find_ask hp hv es ms (j+1) r hrec hf
      cases r with
      | none=>exact⟨by simp[Instr.findAsking,hke0 _ hke,ih.1],fun u=>by simp[mapPut,hke,ih.2 u]⟩
      | some q=>
        obtain⟨i,m',h3,h4,h5,h6,h7⟩:=ih
        refine⟨i+1,m',?_,by simpa using h4,h5,h6,fun u=>by simp[mapPut,hke,h7 u]⟩
        simp only[Instr.findAsking,Sem.run_bind,hke0 _ hke,Result.andThen_ok,Bool.false_eq_true,if_false,h3]
        have:j+1+i=j+(i+1):=by omega
        rw[this]
theorem find_rep {A:Nat->Prop} {nm μ:Nat->Nat} {H:Nat->Option O} {kt:TypeId} {kd:Nat} {v:Value} {x:T} (ht:KeyTy P kt kd) (hx:KeyKd x kd) (hv:keyVal x=some v) {es:List (T×V)} {ms:List MapEntry} {r:Option V} (he:EntRep w A nm μ H ms es) (hf:mapFind x es=some r):
 match r with
 | none=>(Instr.findKey kt v ms).run P w= .ok none w/\ ∀u,mapPut x u es=some (es++[(x,u)])
 | some q=> ∃i m,(Instr.findKey kt v ms).run P w= .ok (some (i,m.val)) w/\ms[i]? =some m/\RepV1 w A nm μ H m.val q/\Instr.sameBits 10000 m.key v=true/\ ∀u,mapPut x u es=some (es.set i (x,u)):=by
 rcases ht with⟨d,hu,hd,hkk⟩ | ⟨ks,hp,rfl⟩
 ·have hxk:x.kind=some kd:=by
   rcases hx with hx | ⟨ts,rfl,hk⟩
   ·exact hx
   ·have:=kind_le hkk;omega
  have h:=find_now (w:=w) (A:=A) (nm:=nm) (μ:=μ) (H:=H) hv hd hxk es ms 0 r he hf
  cases r with
  | none=>exact⟨by simp[Instr.findKey,run_und hu,h.1],h.2⟩
  | some q=>
    obtain⟨i,m,h1,h2,h3,h4,h5⟩:=h
    exact⟨i,m,by simp[Instr.findKey,run_und hu,h1],h2,h3,h4,h5⟩
 ·obtain⟨ts,vs,rfl,rfl,hvs,rfl⟩:=struct_key hp hx hv
  have hst: ∃fields,P.underlying kt=some (.struct fields):=by
   unfold plainEq at hp
   split at hp
   ·rename_i fields hfs;exact⟨fields,hfs⟩
   ·cases hp
  obtain⟨fields,hfs⟩:=hst
  have hfk:(Instr.findKey kt (.agg vs.toArray) ms).run P w=(Instr.findAsking kt (.agg vs.toArray) ms).run P w:=by
   cases ms with
   | nil=>simp[Instr.findKey,run_und hfs,Instr.findNow,Instr.findAsking]
   | cons m ms=>simp[Instr.findKey,run_und hfs,Instr.findNow,Instr.sameNow]
  have h:=find_ask (w:=w) (A:=A) (nm:=nm) (μ:=μ) (H:=H) hp hvs es ms 0 r he hf
  rw[hfk]
  cases r with
  | none=>exact h
  | some q=>
    obtain⟨i,m,h1,h2,h3,h4,h5⟩:=h
    exact⟨i,m,by rw[h1];simp,h2,h3,h4,h5⟩
end
theorem mapPut_none {k:T} {v:V}: ∀{es:List (T×V)},mapFind k es=none->mapPut k v es=none
 | [],h=>by simp[mapFind]at h
 | (k',v')::es,h=>by
   simp only[mapFind]at h
   simp only[mapPut]
   cases hk:keyEq k k' with
   | none=>rfl
   | some b=>
     rw[hk]at h
     cases b with
     | true=>simp at h
     | false=>simp only at h⊢;rw[mapPut_none h];rfl
section
variable {P:Program} {N:Nam} {I:Inv} {c:Ctx} {ns p:Nat} {A:Nat->Prop} {μ lam:Nat->Nat} {s:St} {a:Act} {w:World} {e:Eff} {o:Oper}
theorem s_mkmap (R:Rel N c ns A μ lam s a w) {t kt et:TypeId} {h:Option Operand} (hu:P.underlying t=some (.map kt et)) (hh: ∀x,h=some x-> ∃k n,a.eval x= .int k n) (ho:o.op= .makeMap t h)
 (hd: ∀x,o.dst=some x->x<ns) (hf:s.free o.dst e) (hk:s.heap (s.bas+p)=none) (hn:s.bas+p<s.nxt) (he:aeval N.G p s .mkmap=some e):Sound P N c ns o a w (s.apply o.dst e):=by
 simp only[aeval,Option.some.injEq]at he;subst he
 have R1:=(R.alloc (.map #[] 0)).adoptH (o:=.map []) (r:=w.heap.size) hk hn R.orphan_new ⟨#[],0,heap_alloc w _,rfl,by simp⟩ (by simp)
 refine⟨.map (some w.heap.size),_,A,_,lam,.inl ?_,R1.put o.dst { val:=.mm (s.bas+p) } _ hd hf rfl rfl rfl ?_ (by simp)⟩
 ·cases h with
  | none=>simp[execOp,ho,Instr.makeMap]
  | some x=>
    obtain⟨k,n,hx⟩:=hh x rfl
    simp[execOp,ho,Instr.makeMap,run_und hu,hx,asInt,asIntOf]
 ·have:=RepC.mm (w:=w.alloc (.map #[] 0)) (A:=A) (nm:=N.nm) (μ:=upd μ (s.bas+p) w.heap.size) (H:=upd s.heap (s.bas+p) (some (.map []))) (s.bas+p) [] (by simp)
  simpa using this.toV
theorem zeroV_rep {t:TypeId} {z:V} {H:Nat->Option O} (h:zeroV P t=some z): ∃v,(∀w,(zeroValue t).run P w= .ok v w)/\ ∀w,RepV1 w A N.nm μ H v z:=by
 simp only[zeroV,Option.bind_eq_bind,Option.bind_eq_some_iff]at h
 obtain⟨i,hi,v,hv,h⟩:=h
 refine⟨v,fun w=>by simp[zeroValue,run_info hi,hv],fun w=> ?_⟩
 unfold constOf at h
 split at h
 ·simp only[Option.map_eq_some_iff]at h
  obtain⟨cs,hcs,rfl⟩:=h
  obtain⟨h1,h2⟩:=mapM_some hcs
  exact⟨_,rfl,h1,fun i c hi=>let⟨x,hx,hf⟩:=h2 i c hi;⟨x,hx,cellOf_rep hf⟩⟩
 ·exact(cellOf_rep h).toV1
theorem RepV.mm_inv {v:Value} {k:Nat} {es:List (T×V)} {H:Nat->Option O} {nm:Nat->Nat} (hk:H k=some (.map es)) (h:RepV w A nm μ H v (.mm k)):v= .map (some (μ k)):=by
 cases(h:RepC w A nm μ H v (.mm k))with
 | mm _ _ _=>rfl
 | dmm _ hk' _=>rw[hk]at hk';simp at hk'
theorem s_lookup (hI:I.Ok N) (R:Rel N c ns A μ lam s a w) {t kt et:TypeId} {kd:Nat} {x y:Operand} {x' y':Opd} {z:V} {ok:Bool} (hx:opd I x=some x') (hy:opd I y=some y')
 (hu:P.underlying t=some (.map kt et)) (hkt:KeyTy P kt kd) (hz:zeroV P et=some z) (he:aeval N.G p s (.lookup kd z ok x' y')=some e):
 Gives N A μ s w ((Instr.lookup t (a.eval x) (a.eval y) ok).run P w) e:=by
 simp only[aeval,Option.bind_eq_bind,Option.bind_eq_some_iff]at he
 obtain⟨kv,hkv,key,hkey,mv,hmv,es,hes,r,hr,he⟩:=he
 obtain⟨hkr,hkk⟩:=keyOf_rep hkey (opd_eval hI R hy hkv)
 have hmr:=opd_eval hI R hx hmv
 obtain⟨zv,hzr,hzp⟩:=zeroV_rep (A:=A) (N:=N) (μ:=μ) (H:=s.heap) hz
 generalize hvx:a.eval x=vx at hmr
 generalize hvy:a.eval y=vy at hkr
 have hent: ∃ms:Array MapEntry,EntRep w A N.nm μ s.heap ms.toList es/\((vx= .map none/\ms= #[])\/ ∃r n,vx= .map (some r)/\w.heap[r]? =some (.map ms n)):=by
  split at hes
  ·simp only[Option.some.injEq]at hes;subst hes
   have:vx= .map none:=by cases hmr.t_inv;rfl
   exact⟨#[],⟨rfl,by simp⟩,.inl ⟨this,rfl⟩⟩
  ·split at hes
   ·rename_i j es' hj
    simp only[Option.some.injEq]at hes;subst hes
    have hv:=RepV.mm_inv hj hmr
    obtain⟨ms,n,h1,h2,h3⟩:=R.heap _ _ hj
    refine⟨ms,⟨by simpa using h2,fun i k x hi=> ?_⟩,.inr ⟨_,n,hv,h1⟩⟩
    obtain⟨m,hm,hrest⟩:=h3 i k x hi
    exact⟨m,by simpa using hm,hrest⟩
   ·simp at hes
  ·simp at hes
 obtain⟨ms,hms,hmv'⟩:=hent
 have hfind:=find_rep (P:=P) (w:=w) hkt hkk hkr hms hr
 have hck:(Instr.checkKey ms.isEmpty 10000 kt vy).run P w= .ok () w:=run_checkKey _ hkt hkk hkr
 have hval: ∀(q:Value) (b:Bool),RepV1 w A N.nm μ s.heap q (r.getD z)->b=r.isSome->RepV w A N.nm μ s.heap (if ok then .tuple #[q,.bool b]else q) e.val/\Plain e:=by
  intro q b hq hb
  subst hb
  cases ok with
  | false=>
    simp only[Bool.false_eq_true,if_false,Option.some.injEq]at he
    subst he
    exact⟨hq.toV,rfl,rfl,rfl,rfl⟩
  | true=>
    simp only[if_true,Option.some.injEq]at he
    subst he
    refine⟨⟨_,rfl,rfl,fun i c hi=> ?_⟩,rfl,rfl,rfl,rfl⟩
    match i,hi with
    | 0,hi=>simp at hi;subst hi;exact⟨q,rfl,hq⟩
    | 1,hi=>simp at hi;subst hi;exact⟨.bool r.isSome,rfl,(RepC.t (.bool _)).toV1⟩
    | i+2,hi=>simp at hi
 cases r with
 | none=>
   have hfk:=hfind.1
   refine⟨_,?_,hval zv false (hzp w) rfl⟩
   rcases hmv' with⟨rfl,rfl⟩ | ⟨r,n,rfl,h1⟩
   ·simp only[Instr.lookup,Sem.run_bind,run_und hu,Result.andThen_ok,Sem.run_pure,hck,hfk,hzr]
   ·simp only[Instr.lookup,Sem.run_bind,run_und hu,Result.andThen_ok,Sem.run_pure,run_getMap h1,hck,hfk,hzr]
 | some q=>
   obtain⟨i,m,h1,h2,h3,h4,h5⟩:=hfind
   have hfk:=h1
   refine⟨_,?_,hval m.val true h3 rfl⟩
   rcases hmv' with⟨rfl,rfl⟩ | ⟨r,n,rfl,h1⟩
   ·simp only[Instr.lookup,Sem.run_bind,run_und hu,Result.andThen_ok,Sem.run_pure,hck,hfk]
   ·simp only[Instr.lookup,Sem.run_bind,run_und hu,Result.andThen_ok,Sem.run_pure,run_getMap h1,hck,hfk]
theorem s_mapupd (hI:I.Ok N) (R:Rel N c ns A μ lam s a w) {t kt et:TypeId} {kd:Nat} {x y v:Operand} {x' y' v':Opd} (hx:opd I x=some x') (hy:opd I y=some y') (hv:opd I v=some v')
 (hu:P.underlying t=some (.map kt et)) (hkt:KeyTy P kt kd) (ho:o.op= .mapUpdate t x y v\/o.op= .insert t x y v)
 (he:aeval N.G p s (.mapupd kd x' y' v')=some e) (hnd:o.dst=none):Sound P N c ns o a w (s.apply o.dst e):=by
 simp only[aeval,Option.bind_eq_bind,Option.bind_eq_some_iff]at he
 obtain⟨kv,hkv,key,hkey,u,hu',mv,hmv,he⟩:=he
 obtain⟨hkr,hkk⟩:=keyOf_rep hkey (opd_eval hI R hy hkv)
 have hmr:=opd_eval hI R hx hmv
 have hvr:=opd_eval hI R hv hu'
 split at he
 ·rename_i j
  split at he
  ·rename_i es hj
   simp only[Option.bind_eq_some_iff]at he
   obtain⟨es',hes',he⟩:=he
   split at he
   ·rename_i hone
    simp only[Option.some.injEq]at he
    subst he
    have hv1:RepV1 w A N.nm μ s.heap (a.eval v) u:=by
     cases u<;>first | exact hvr | simp[V.one]at hone
    have hvx:=RepV.mm_inv hj hmr
    obtain⟨ms,n,h1,h2,h3⟩:=R.heap _ _ hj
    have hent:EntRep w A N.nm μ s.heap ms.toList es:=⟨by simpa using h2,fun i k x hi=>by
     obtain⟨m,hm,hrest⟩:=h3 i k x hi
     exact⟨m,by simpa using hm,hrest⟩⟩
    have hlt:μ j<w.heap.size:=R.lt_live hj rfl
    have hfound: ∃r,mapFind key es=some r:=by
     cases hq:mapFind key es with
     | some r=>exact⟨r,rfl⟩
     | none=>rw[mapPut_none hq]at hes';simp at hes'
    obtain⟨r,hr⟩:=hfound
    have hck: ∀b,(Instr.checkKey b 10000 kt (a.eval y)).run P w= .ok () w:=fun b=>run_checkKey b hkt hkk hkr
    have hfind:=find_rep (P:=P) (w:=w) hkt hkk hkr hent hr
    have hfin: ∀(ms':Array MapEntry) (n':Nat),(Instr.mapUpdate t (a.eval x) (a.eval y) (a.eval v)).run P w= .ok () (World.setMap w (μ j) (.map ms' n'))->
     (∀H',Evo w A μ s.heap (World.setMap w (μ j) (.map ms' n')) A μ H'->EntRep (World.setMap w (μ j) (.map ms' n')) A N.nm μ H' ms'.toList es')->Sound P N c ns o a w (s.apply o.dst { hp:=[(j,.map es')] }):=by
     intro ms' n' hrun hrep
     have R1:=R.changeH (o':= .map es') (w':=World.setMap w (μ j) (.map ms' n')) hj (by simp[O.le]) rfl (by simp) (by simp) rfl (by simp[World.setMap])
      (fun r hr=>by simp only[World.setMap,Array.getElem?_setIfInBounds];rw[if_neg (Ne.symm hr)])
      (fun r x hr=>by
        by_cases hrj:r=μ j
        ·subst hrj;simp[World.shape?,h1]at hr
        ·simp only[World.shape?,World.setMap,Array.getElem?_setIfInBounds]at hr⊢
         rw[if_neg (Ne.symm hrj)];exact hr)
      (fun E=>by
        obtain⟨g1,g2⟩:=hrep _ E
        refine⟨ms',n',by simp[World.setMap,hlt],by simpa using g1,fun i k x hi=> ?_⟩
        obtain⟨m,hm,hrest⟩:=g2 i k x hi
        exact⟨m,by simpa using hm,hrest⟩)
     refine⟨undef,World.setMap w (μ j) (.map ms' n'),A,μ,lam,.inr ⟨?_,rfl⟩,?_⟩
     ·rcases ho with ho | ho<;>simp only[execOp,ho,Sem.run_bind,hrun,Result.andThen_ok,Sem.run_pure]
     ·rw[hnd];exact R1
    cases r with
    | none=>
      have hfk:=hfind.1
      have hes2:=hfind.2 u
      rw[hes']at hes2
      simp only[Option.some.injEq]at hes2
      subst hes2
      refine hfin (ms.push { key:=a.eval y,val:=a.eval v,born:=n }) (n+1) ?_ ?_
      ·simp only[Instr.mapUpdate,Sem.run_bind,run_und hu,Result.andThen_ok,hvx,run_getMap h1,hck,hfk,run_setMap _ h1]
      ·intro H' E
       refine⟨by simp[h2],fun i k x hi=> ?_⟩
       rw[List.getElem?_append]at hi
       split at hi
       ·rename_i hil
        obtain⟨m,hm,g1,g3⟩:=hent.2 i k x hi
        have:i<ms.size:=by omega
        refine⟨m,by rw[Array.toList_push,List.getElem?_append_left (by simpa using this)];exact hm,g1,g3.evo E⟩
       ·rename_i hil
        have:i=es.length:=by
         have:=(List.getElem?_eq_some_iff.1 hi).1;simp at this;omega
        subst this
        simp at hi
        obtain⟨rfl,rfl⟩:=hi
        exact⟨{ key:=a.eval y,val:=a.eval v,born:=n },by simp[<- h2],hkr,hv1.evo E⟩
    | some q=>
      obtain⟨i,m,g1,g2,g3,g4,g5⟩:=hfind
      have hfk:=g1
      have hes2:=g5 u
      rw[hes']at hes2
      simp only[Option.some.injEq]at hes2
      subst hes2
      have hmi:ms[i]? =some m:=by simpa using g2
      refine hfin (ms.modify i fun e=>{ e with key:=a.eval y,val:=a.eval v }) n ?_ ?_
      ·simp only[Instr.mapUpdate,Sem.run_bind,run_und hu,Result.andThen_ok,hvx,run_getMap h1,hck,hfk,run_setMap _ h1,hmi,Option.map_some,Option.getD_some,Instr.keyThatStays,g4,if_true,Sem.run_pure]
      ·intro H' E
       refine⟨by simp[h2],fun i' k x hi=> ?_⟩
       rcases set_get hi with⟨rfl,hkx⟩ | ⟨hne,hi⟩
       ·simp only[Prod.mk.injEq]at hkx
        obtain⟨rfl,rfl⟩:=hkx
        exact⟨{ m with key:=a.eval y,val:=a.eval v },by simp[hmi],hkr,hv1.evo E⟩
       ·obtain⟨m',hm',j1,j3⟩:=hent.2 i' k x hi
        exact⟨m',by simpa[Array.getElem?_modify,Ne.symm hne]using hm',j1,j3.evo E⟩
   ·simp at he
  ·simp at he
 ·simp at he
end
end Rg
end
section
namespace Rg
open Go
def isRows (H:Nat->Option O) (k:Nat):Prop:= ∃sz rs f,H k=some (.rows sz rs f)
section
variable {w:World} {A:Nat->Prop} {N:Nam} {μ:Nat->Nat} {H:Nat->Option O}
theorem mem_reach_row {d k:Nat} {sz:Nat} {rs:List (List V)} {frz:Bool} (hk:H k=some (.rows sz rs frz)) {i j:Nat} {row:List V} {x:V} (h1:rs[i]? =some row) (h2:row[j]? =some x) {q:Nat} (hq:q∈reach H d x):
 q∈(match H k with | some (.rows _ rs _)=>rs.flatMap (fun(row:List V)=>row.flatMap (reach H d)) | _=>([]:List Nat)):=by
 rw[hk]
 exact List.mem_flatMap.2 ⟨row,List.mem_of_getElem? h1,List.mem_flatMap.2 ⟨x,List.mem_of_getElem? h2,hq⟩⟩
theorem toT_rep (hH: ∀k o,H k=some o->HObj w A N μ H (μ k) o): ∀(d:Nat) (x:V) (t:T) (v:Value),toT H d x=some t->RepC w A N.nm μ H v x->
 RepT w (fun r=>A r\/ ∃k∈reach H d x,isRows H k/\μ k=r) N.nm v t:=by
 intro d
 induction d with
 | zero=>
   intro x t v ht hr
   cases x with
   | t y=>
     simp only[toT,Option.some.injEq]at ht;subst ht
     exact(RepV.t_inv (w:=w) hr.toV).norm.mono (fun _ _=>rfl) (fun _ h=> .inl h)
   | _=>simp[toT]at ht
 | succ d ih=>
   intro x t v ht hr
   cases x with
   | t y=>
     simp only[toT,Option.some.injEq]at ht;subst ht
     exact(RepV.t_inv (w:=w) hr.toV).norm.mono (fun _ _=>rfl) (fun _ h=> .inl h)
   | ms k i len=>
     simp only[toT]at ht
     split at ht
     ·rename_i sz rs frz hk
      simp only[Option.bind_eq_bind,Option.bind_eq_some_iff,Option.some.injEq]at ht
      obtain⟨r,hrd,es,hes,rfl⟩:=ht
      obtain⟨hl1,hl2⟩:=mapM_some hes
      cases hr with
      | ms _ _ _ cap sz' rs' frz' ad hk' hi' hc ha=>
        rw[hk]at hk';cases hk'
        unfold rd at hrd
        rw[if_pos hi']at hrd
        simp only[Option.some.injEq]at hrd;subst hrd
        have hlen:es.length=len:=by rw[<- hl1];simp;omega
        rcases Nat.eq_zero_or_pos len with h0 | h0
        ·subst h0
         have:es=[]:=List.length_eq_zero_iff.1 hlen
         subst this
         exact .sl0 _ _
        ·obtain⟨rfl,e0,n0,hs0,hn0⟩:=ha.resolve_left (by omega)
         obtain⟨cc,e1,z,h1,h2,h3,h4,h5⟩:=hH k _ hk
         subst hlen
         have hrow: ∀(i':Nat) (e:List T),es[i']? =some e-> ∃row,rs[i+i']? =some row/\row.length=e.length/\ ∀(j:Nat) (y:T),e[j]? =some y-> ∃x,row[j]? =some x/\toT H d x=some y:=by
          intro i' e he
          obtain⟨row,hrow,hm⟩:=hl2 i' e he
          obtain⟨m1,m2⟩:=mapM_some hm
          rw[List.getElem?_take]at hrow
          split at hrow
          ·rw[List.getElem?_drop]at hrow
           exact⟨row,hrow,m1,m2⟩
          ·simp at hrow
         have hcell: ∀(i':Nat) (e:List T) (j:Nat) (y:T),es[i']? =some e->e[j]? =some y-> ∃u x,w.cell? ⟨μ k,i*sz+i'*sz+j,none⟩=some u/\RepC w A N.nm μ H u x/\toT H d x=some y/\
          (∀q∈reach H d x,q∈reach H (d+1) (.ms k i es.length)):=by
          intro i' e j y he hj
          obtain⟨row,g1,g2,g3⟩:=hrow i' e he
          obtain⟨x,hx,ht⟩:=g3 j y hj
          obtain⟨u,hu,hr⟩:=h5 _ row j x g1 hx
          refine⟨u,x,?_,hr,ht,fun q hq=> ?_⟩
          ·rw[Nat.add_mul]at hu
           simp[World.cell?,h1,hu]
          ·simp only[reach]
           exact List.mem_cons_of_mem _ (mem_reach_row hk g1 hx hq)
         refine .sl (μ k) (i*sz) cap sz es (fun i' j=>(w.cell? ⟨μ k,i*sz+i'*sz+j,none⟩).getD undef) h0 (by omega) (.inr ⟨k,by simp[reach],⟨_,_,_,hk⟩,rfl⟩) ?_ ?_ ?_
         ·intro i' e he
          obtain⟨row,g1,g2,g3⟩:=hrow i' e he
          rw[<- g2];exact h4 _ row g1
         ·intro i' e j y he hj
          obtain⟨u,x,hu,_⟩:=hcell i' e j y he hj
          rw[hu];rfl
         ·intro i' e j y he hj
          obtain⟨u,x,hu,hr,ht,hq⟩:=hcell i' e j y he hj
          rw[hu]
          exact(ih x y u ht hr).mono (fun _ _=>rfl) (fun r h=>h.elim .inl fun⟨q,h1,h2⟩=> .inr ⟨q,hq q h1,h2⟩)
      | dms _ _ _ hk'=>rw[hk]at hk';cases hk'
     ·simp at ht
   | mp k i off=>
     simp only[toT]at ht
     split at ht
     ·rename_i sz rs frz hk
      simp only[Option.bind_eq_bind,Option.bind_eq_some_iff,Option.some.injEq]at ht
      obtain⟨row,hrow,cs,hcs,rfl⟩:=ht
      obtain⟨hl1,hl2⟩:=mapM_some hcs
      cases hr with
      | mp _ _ _ sz' rs' frz' hk' hi'=>
        rw[hk]at hk';cases hk'
        obtain⟨cc,e1,z,h1,h2,h3,h4,h5⟩:=hH k _ hk
        have hcell: ∀(j:Nat) (y:T),cs[j]? =some y-> ∃u x,w.cell? ⟨μ k,i*sz+off+j,none⟩=some u/\RepC w A N.nm μ H u x/\toT H d x=some y/\
         (∀q∈reach H d x,q∈reach H (d+1) (.mp k i off)):=by
         intro j y hj
         obtain⟨x,hx,ht⟩:=hl2 j y hj
         rw[List.getElem?_drop]at hx
         obtain⟨u,hu,hr⟩:=h5 _ row _ x hrow hx
         refine⟨u,x,?_,hr,ht,fun q hq=> ?_⟩
         ·rw[Nat.add_assoc]
          simp[World.cell?,h1,hu]
         ·simp only[reach]
          exact List.mem_cons_of_mem _ (mem_reach_row hk hrow hx hq)
        refine .ip (μ k) (i*sz+off) cs (fun j=>(w.cell? ⟨μ k,i*sz+off+j,none⟩).getD undef) (.inr ⟨k,by simp[reach],⟨_,_,_,hk⟩,rfl⟩) ?_ ?_
        ·intro j y hj
         obtain⟨u,x,hu,_⟩:=hcell j y hj
         rw[hu];rfl
        ·intro j y hj
         obtain⟨u,x,hu,hr,ht,hq⟩:=hcell j y hj
         rw[hu]
         exact(ih x y u ht hr).mono (fun _ _=>rfl) (fun r h=>h.elim .inl fun⟨q,h1,h2⟩=> .inr ⟨q,hq q h1,h2⟩)
      | mb _ _ hk'=>rw[hk]at hk';cases hk'
      | dmp _ _ _ hk'=>rw[hk]at hk';cases hk'
     ·simp at ht
   | fn f a b=>
     simp only[toT,Option.bind_eq_bind,Option.bind_eq_some_iff,Option.some.injEq]at ht
     obtain⟨a',ha',b',hb',rfl⟩:=ht
     obtain⟨p1,p2⟩:=mapM_some ha'
     obtain⟨q1,q2⟩:=mapM_some hb'
     cases hr with
     | fn _ _ _ va vb fa fb ha hb hva hra hvb hrb=>
       refine .fn f a' b' va vb fa fb (by omega) (by omega) ?_ ?_ ?_ ?_
       ·intro j y hj;obtain⟨x,hx,_⟩:=p2 j y hj;exact hva j x hx
       ·intro j y hj
        obtain⟨x,hx,ht⟩:=p2 j y hj
        refine(ih x y _ ht (hra j x hx)).mono (fun _ _=>rfl) (fun r h=>h.elim .inl fun⟨q,h1,h2⟩=> .inr ⟨q,?_,h2⟩)
        simp only[reach]
        exact List.mem_append_left _ (List.mem_flatMap.2 ⟨x,List.mem_of_getElem? hx,h1⟩)
       ·intro j y hj;obtain⟨x,hx,_⟩:=q2 j y hj;exact hvb j x hx
       ·intro j y hj
        obtain⟨x,hx,ht⟩:=q2 j y hj
        refine(ih x y _ ht (hrb j x hx)).mono (fun _ _=>rfl) (fun r h=>h.elim .inl fun⟨q,h1,h2⟩=> .inr ⟨q,?_,h2⟩)
        simp only[reach]
        exact List.mem_append_right _ (List.mem_flatMap.2 ⟨x,List.mem_of_getElem? hx,h1⟩)
   | mm k=>
     simp only[toT]at ht
     split at ht
     ·simp only[Option.some.injEq]at ht;subst ht
      exact .opq _ hr.one
     ·cases ht
   | yl k=>simp[toT]at ht
   | agg cs=>simp[toT]at ht
   | tup cs=>simp[toT]at ht
   | undef=>simp[toT]at ht
   | lb=>simp[toT]at ht
theorem toT1_rep (hH: ∀k o,H k=some o->HObj w A N μ H (μ k) o) {x y:V} {v:Value} (ht:toT1 H x=some y) (hr:RepV w A N.nm μ H v x) (μ':Nat->Nat) (H':Nat->Option O):
 RepV1 w (fun r=>A r\/ ∃k∈reach1 H x,isRows H k/\μ k=r) N.nm μ' H' v y:=by
 have key: ∀{x:V} {t:T},toT H 1000 x=some t->RepC w A N.nm μ H v x->RepT w (fun r=>A r\/ ∃k∈reach H 1000 x,isRows H k/\μ k=r) N.nm v t:=fun h1 h2=>toT_rep hH 1000 _ _ _ h1 h2
 cases x with
 | agg cs=>
   simp only[toT1,Option.map_eq_some_iff]at ht
   obtain⟨ts,hts,rfl⟩:=ht
   obtain⟨vs,rfl,hl⟩:=hr
   obtain⟨p1,p2⟩:=mapM_some hts
   refine⟨vs,rfl,by rw[hl.1];simp[p1],fun i c hi=> ?_⟩
   simp only[List.getElem?_map,Option.map_eq_some_iff]at hi
   obtain⟨t,ht,rfl⟩:=hi
   obtain⟨x,hx,hxt⟩:=p2 i t ht
   obtain⟨u,hu,hur⟩:=hl.2 i x hx
   refine⟨u,hu,.t ((toT_rep hH 1000 x t u hxt hur).mono (fun _ _=>rfl) (fun r h=>h.elim .inl fun⟨q,h1,h2⟩=> .inr ⟨q,?_,h2⟩))⟩
   simp only[reach1]
   exact List.mem_flatMap.2 ⟨x,List.mem_of_getElem? hx,h1⟩
 | yl k=>simp[toT1,toT]at ht
 | tup cs=>simp[toT1,toT]at ht
 | undef=>simp[toT1,toT]at ht
 | lb=>simp[toT1,toT]at ht
 | t z=>
   simp only[toT1,Option.map_eq_some_iff]at ht
   obtain⟨t,ht,rfl⟩:=ht
   exact RepC.t (key ht hr)
 | ms k i l=>
   simp only[toT1,Option.map_eq_some_iff]at ht
   obtain⟨t,ht,rfl⟩:=ht
   exact RepC.t (key ht hr)
 | mp k i o=>
   simp only[toT1,Option.map_eq_some_iff]at ht
   obtain⟨t,ht,rfl⟩:=ht
   exact RepC.t (key ht hr)
 | mm k=>
   simp only[toT1,Option.map_eq_some_iff]at ht
   obtain⟨t,ht,rfl⟩:=ht
   exact RepC.t (key ht hr)
 | fn f a b=>
   simp only[toT1,Option.map_eq_some_iff]at ht
   obtain⟨t,ht,rfl⟩:=ht
   exact RepC.t (key ht hr)
end
section
variable {N:Nam} {c:Ctx} {ns:Nat} {A:Nat->Prop} {μ lam:Nat->Nat} {s:St} {a:Act} {w:World}
theorem Rel.freezes (H0:Nat->Option O): ∀(l:List Nat) (A:Nat->Prop) (s:St),Rel N c ns A μ lam s a w->(∀k sz rs f,H0 k=some (.rows sz rs f)-> ∃f',s.heap k=some (.rows sz rs f'))->
 ∃A',Rel N c ns A' μ lam { s with heap:=hpUpd s.heap (freezes H0 l) } a w/\(∀r,A r->A' r)/\(∀k∈l,∀sz rs f,H0 k=some (.rows sz rs f)->A' (μ k))
 | [],A,s,R,_=>⟨A,R,fun _ h=>h,by simp⟩
 | k::l,A,s,R,h0=>by
   by_cases hk: ∃sz rs f,H0 k=some (.rows sz rs f)
   ·obtain⟨sz,rs,f,hk⟩:=hk
    obtain⟨f',hk'⟩:=h0 k sz rs f hk
    have R1:=R.freeze hk'
    obtain⟨A',R2,hsub,hin⟩:=Rel.freezes H0 l _ _ R1 (fun k1 sz1 rs1 f1 h1=>by
     by_cases e:k1=k
     ·subst e;rw[hk]at h1;cases h1;exact⟨true,by simp⟩
     ·obtain⟨f2,h2⟩:=h0 k1 sz1 rs1 f1 h1
      exact⟨f2,by simp only[upd_other _ _ e];exact h2⟩)
    refine⟨A',?_,fun r h=>hsub r (.inl h),fun k1 h1 sz1 rs1 f1 h2=> ?_⟩
    ·have:Rg.freezes H0 (k::l)=(k,.rows sz rs true)::Rg.freezes H0 l:=by simp[Rg.freezes,hk]
     rw[this];exact R2
    ·rcases List.mem_cons.1 h1 with rfl | h1
     ·exact hsub _ (.inr rfl)
     ·exact hin k1 h1 sz1 rs1 f1 h2
   ·obtain⟨A',R2,hsub,hin⟩:=Rel.freezes H0 l A s R h0
    refine⟨A',?_,hsub,fun k1 h1 sz1 rs1 f1 h2=> ?_⟩
    ·have:Rg.freezes H0 (k::l)=Rg.freezes H0 l:=by
      simp only[Rg.freezes,List.filterMap_cons]
      split
      ·rfl
      ·rename_i x hx
       split at hx
       ·rename_i sz rs f h;exact absurd ⟨sz,rs,f,h⟩ hk
       ·simp at hx
     rw[this];exact R2
    ·rcases List.mem_cons.1 h1 with rfl | h1
     ·exact absurd ⟨sz1,rs1,f1,h2⟩ hk
     ·exact hin k1 h1 sz1 rs1 f1 h2
theorem RepC.scalar {w w':World} {A A':Nat->Prop} {nm μ μ':Nat->Nat} {H H':Nat->Option O} {v:Value} {x:V} (h:RepC w A nm μ H v x) (hx:x.scalar1=true):RepC w' A' nm μ' H' v x:=by
 cases x<;>simp[V.scalar1]at hx
 exact .t ((RepV.t_inv h.toV).scalar hx)
theorem RepV1.scalar {w w':World} {A A':Nat->Prop} {nm μ μ':Nat->Nat} {H H':Nat->Option O} {v:Value} {x:V} (h:RepV1 w A nm μ H v x) (hx:x.scalar2=true):RepV1 w' A' nm μ' H' v x:=by
 cases x with
 | agg cs=>
   obtain⟨vs,rfl,h1,h2⟩:=h
   refine⟨vs,rfl,h1,fun i c hi=> ?_⟩
   obtain⟨u,hu,hr⟩:=h2 i c hi
   exact⟨u,hu,hr.scalar (List.all_eq_true.1 hx c (List.mem_of_getElem? hi))⟩
 | t y=>exact RepC.scalar (x:=.t y) h hx
 | _=>simp[V.scalar2,V.scalar1]at hx
theorem RepV.scalar {w w':World} {A A':Nat->Prop} {nm μ μ':Nat->Nat} {H H':Nat->Option O} {v:Value} {x:V} (h:RepV w A nm μ H v x) (hx:x.scalar=true):RepV w' A' nm μ' H' v x:=by
 cases x with
 | tup cs=>
   obtain⟨vs,rfl,h1,h2⟩:=h
   refine⟨vs,rfl,h1,fun i c hi=> ?_⟩
   obtain⟨u,hu,hr⟩:=h2 i c hi
   exact⟨u,hu,hr.scalar (List.all_eq_true.1 hx c (List.mem_of_getElem? hi))⟩
 | agg cs=>exact(RepV1.scalar (x:=.agg cs) h hx).toV
 | t y=>exact(RepV1.scalar (x:=.t y) h hx).toV
 | _=>simp[V.scalar,V.scalar2,V.scalar1]at hx
end
end Rg
end
