/- Part of the proof of the laws of the package relyguardlaw36: an abstract machine for the program's functions, what they compute, and that the machine is the program's. No condition. (RgD RgE RgF RgG) -/
import Derived.Test.YtaiokglcgiemnaaGreatDoorPartAB
import Derived.Laws.StructEq
section
namespace Rg
open Go
structure Inv where
 fi:Nat->Option Nat
 gi:Nat->Option Nat
 tB:Option Nat
structure Inv.Ok (I:Inv) (N:Nam):Prop where
 f: ∀f k,I.fi f=some k->N.nm k=f
 g: ∀g k,I.gi g=some k->N.gm k=g/\N.G k≠[]
 b: ∀t,I.tB=some t->N.tB=t
def cellOf:Value->Option V
 | .int k n=>some (.t (.int k n))
 | .bool b=>some (.t (.bool b))
 | .string s=>some (.t (.str s))
 | .pointer none=>some (.t .nilp)
 | .slice none 0 0=>some (.t .nils)
 | .map none=>some (.t .nilm)
 | .nilFunc=>some (.t .nilf)
 | .nilIface=>some (.t .nili)
 | _=>none
def cellsOf (v:Value):Option (List V):=v.cells.toList.mapM cellOf
def constOf:Value->Option V
 | .agg cs=>(cs.toList.mapM cellOf).map V.agg
 | v=>cellOf v
section
variable (P:Program) (I:Inv)
def opd:Operand->Option Opd
 | .tmp t=>some (.s t)
 | .const v=>(constOf v).map .c
 | .global g=>(I.gi g).map .g
 | .func f=>(I.fi f).map fun k=> .c (.t (.fn k [] []))
def opdO:Option Operand->Option (Option Opd)
 | none=>some none
 | some x=>(opd I x).map some
def opds (xs:Array Operand):Option (List Opd):=xs.toList.mapM (opd I)
def typ (t:TypeId):Option (Bool×Nat):=
 match P.info? t,P.underlying t with
 | some i,some (.struct _)=>some (true,i.size)
 | some i,some (.array _ _)=>some (true,i.size)
 | some i,some _=>if i.size=1 then some (false,1)else none
 | _,_=>none
def zeroOf (t:TypeId):Option (List V):=
 match P.info? t with
 | some i=>match i.zero with
   | some z=>cellsOf z
   | none=>none
 | none=>none
def zeroV (t:TypeId):Option V:=do
 let i<- P.info? t
 let v<- i.zero
 constOf v
def isLoc (isL:Nat->Bool):Operand->Bool
 | .tmp t=>isL t
 | _=>false
def dstL (isL:Nat->Bool):Option Nat->Bool
 | some d=>isL d
 | none=>false
def kindOf (t:TypeId):Option Nat:=
 match P.underlying t with
 | some (.int _)=>some 0
 | some .bool=>some 1
 | some .string=>some 2
 | _=>none
def plainFields (i:Nat):List Field->Option (List Nat)
 | []=>some []
 | f::fs=>do
   let k<- kindOf P f.type
   let ks<- plainFields (i+1) fs
   if f.name ≠ "_" /\ f.offset = i /\ typ P f.type = some (false, 1) then some (k :: ks) else none
def plainEq (t:TypeId):Option (List Nat):=
 match P.underlying t with
 | some (.struct fields)=>if P.stoodInHeld t=false/\P.eqGuardType P.depth t=false then plainFields P 0 fields.toList else none
 | _=>none
def plainFields2 (i:Nat):List Field->Option (List Nat)
 | []=>some []
 | f::fs=>match kindOf P f.type with
   | some k=>do
     let ks<- plainFields2 (i+1) fs
     if f.name ≠ "_" /\ f.offset = i /\ typ P f.type = some (false, 1) then some (k :: ks) else none
   | none=>do
     let k1<- plainEq P f.type
     let ks<- plainFields2 (i+k1.length) fs
     if f.name ≠ "_" /\ f.offset = i /\ typ P f.type = some (true, k1.length) /\ 0 < k1.length then some (k1 ++ ks) else none
def plainEq2 (t:TypeId):Option (List Nat):=
 match P.underlying t with
 | some (.struct fields)=>if P.stoodInHeld t=false/\P.eqGuardType P.depth t=false then plainFields2 P 0 fields.toList else none
 | _=>none
def keyKindOf (t:TypeId):Option Nat:=
 match kindOf P t with
 | some k=>some k
 | none=>(plainEq P t).map fun ks=>3+kcode ks
def treeFn (k:Nat):Bool:=k==197
def isBld (t:TypeId):Bool:=
 match(P.info? t).bind (·.zero)with
 | some (.agg cs)=>match cs.toList with
   | [.pointer none,.slice none 0 0]=>true
   | _=>false
 | _=>false
def compOp (isL:Nat->Bool) (dst:Option Nat):Op->Option AOp
 | .move x | .assign x=>(opd I x).map .mv
 | .pick c a b=>do
   let c<- opd I c
   let a<- opd I a
   let b<- opd I b
   some (.pick c a b)
 | .alloc t=>do
   let z<- zeroOf P t
   if I.tB=some t then if dstL isL dst=false/\isBld P t=true then some .allocB else none
   else if dstL isL dst then some (.allocL z)else some (.allocH z)
 | .box t x=>do
   let(_,n)<- typ P t
   let x<- opd I x
   if dstL isL dst then some (.boxL n x)else some (.boxH n x)
 | .build t parts=>do
   let z<- zeroOf P t
   match P.underlying t with
   | some (.struct fields)=>do
     let ps<- parts.toList.mapM fun(i,x)=>do
      let f<- fields[i]?
      let(_,n)<- typ P f.type
      let x<- opd I x
      some (f.offset,n,x)
     if fields.toList.all (fun f=>(typ P f.type).isSome)then some (.build z ps)else none
   | some (.array _ e)=>do
     let(_,n)<- typ P e
     let ps<- parts.toList.mapM fun(i,x)=>do
      let x<- opd I x
      some (i*n,n,x)
     some (.build z ps)
   | _=>none
 | .buildSlice t len parts=>do
   match P.underlying t with
   | some (.slice e)=>do
     let(_,n)<- typ P e
     let z<- zeroOf P e
     let ps<- parts.toList.mapM fun(i,x)=>do
      let x<- opd I x
      some (i,x)
     if len*n<=2^24/\0<n/\z.length=n then some (.bslice n len z ps)else none
   | _=>none
 | .load t a=>do
   let(ag,n)<- typ P t
   let x<- opd I a
   if isLoc isL a then some (.loadL ag n x)else some (.load ag n x)
 | .store t a v=>do
   let(_,n)<- typ P t
   let x<- opd I a
   let v<- opd I v
   if dst.isSome then none else if isLoc isL a then some (.storeL n x v)else some (.store n x v)
 | .nilCheck x=>(opd I x).map .nilchk
 | .binOp op t x y _=>do
   let a<- opd I x
   let b<- opd I y
   match P.underlying t with
   | some (.int _)=>some (.bin op a b)
   | some .string=>some (.bin op a b)
   | some .bool=>match op with
     | .eql=>some (.eqb false a b)
     | .neq=>some (.eqb true a b)
     | _=>none
   | some (.struct _)=>do
     let n<- plainEq2 P t
     match op with
     | .eql=>some (.eqa false n a b)
     | .neq=>some (.eqa true n a b)
     | _=>none
   | _=>none
 | .unOp op _ x=>(opd I x).map (.un op)
 | .convert src dst x=>do
   let a<- opd I x
   match P.underlying src,P.underlying dst with
   | some (.int _),some (.int k)=>some (.conv k a)
   | some (.slice e),some .string=>match P.underlying e with
     | some (.int .u8)=>some (.bstr a)
     | _=>none
   | _,_=>none
 | .makeFunc (.func f) first cap=>do
   let k<- I.fi f
   let a<- opds I first
   let b<- opds I cap
   match treeFn k,a,b with
   | true,[],[x]=>some (.mkfnT k x)
   | _,_,_=>some (.mkfn k a b)
 | .makeSlice t l c=>do
   match P.underlying t with
   | some (.slice e)=>do
     let(_,n)<- typ P e
     let z<- zeroOf P e
     let i<- P.info? e
     let l<- opd I l
     let c<- opd I c
     if 0<n/\z.length=n then some (.mkslice n i.bytes z l c)else none
   | _=>none
 | .slice t x lo hi mx=>do
   let a<- opd I x
   let l<- opdO I lo
   let h<- opdO I hi
   let m<- opdO I mx
   match P.underlying t with
   | some (.slice e)=>do
     let(_,n)<- typ P e
     some (.slice n a l h m)
   | some .string=>if m.isNone then some (.slstr a l h)else none
   | _=>none
 | .fieldAddr t x f=>do
   let a<- opd I x
   match P.underlying t with
   | some (.struct fields)=>do
     let f<- fields[f]?
     let(_,n)<- typ P f.type
     if 0<n then if isLoc isL x then some (.faddrL f.offset a)else some (.faddr f.offset a)
     else none
   | _=>none
 | .field t x f=>do
   let a<- opd I x
   match P.underlying t with
   | some (.struct fields)=>do
     let f<- fields[f]?
     let(ag,n)<- typ P f.type
     some (.field ag f.offset n a)
   | _=>none
 | .indexAddr t x i=>do
   let a<- opd I x
   let j<- opd I i
   match P.underlying t with
   | some (.slice e)=>do
     let(_,n)<- typ P e
     some (.iaddrS n a j)
   | some (.array len e)=>do
     let(_,n)<- typ P e
     if isLoc isL x then some (.iaddrAL len n a j)else some (.iaddrA len n a j)
   | _=>none
 | .index t x i=>do
   let a<- opd I x
   let j<- opd I i
   match P.underlying t with
   | some (.array len e)=>do
     let(ag,n)<- typ P e
     some (.idxA ag len n a j)
   | some .string=>some (.idxS a j)
   | _=>none
 | .extract x i=>do
   let a<- opd I x
   some (.extr a i)
 | .makeMap t r=>do
   match P.underlying t,r with
   | some (.map _ _),none=>some .mkmap
   | some (.map _ _),some (.const (.int _ _))=>some .mkmap
   | _,_=>none
 | .lookup t x y ok=>do
   let a<- opd I x
   let b<- opd I y
   match P.underlying t with
   | some (.map kt et)=>do
     let kd<- keyKindOf P kt
     let z<- zeroV P et
     some (.lookup kd z ok a b)
   | _=>none
 | .mapUpdate t x y v=>do
   let a<- opd I x
   let b<- opd I y
   let u<- opd I v
   match P.underlying t with
   | some (.map kt _)=>do
     let kd<- keyKindOf P kt
     if dst.isSome then none else some (.mapupd kd a b u)
   | _=>none
 | .insert t x y v=>do
   let a<- opd I x
   let b<- opd I y
   let u<- opd I v
   match P.underlying t with
   | some (.map kt _)=>do
     let kd<- keyKindOf P kt
     if dst.isSome then none else some (.mapupd kd a b u)
   | _=>none
 | .call c=>do
   match c.callee with
   | .value _=>none
   | .builtin .len=>do
     match c.argTypes.toList,c.args.toList with
     | [t],[x]=>match P.underlying t with
       | some (.slice _)=>(opd I x).map .len
       | some .string=>(opd I x).map .slen
       | some (.array n _)=>some (.lenA n)
       | _=>none
     | _,_=>none
   | .builtin .append=>do
     match c.argTypes.toList,c.args.toList with
     | [t,u],[x,y]=>do
       let a<- opd I x
       let b<- opd I y
       match P.underlying t,P.underlying u with
       | some (.slice e),some (.slice _)=>do
         let(_,n)<- typ P e
         let i<- P.info? e
         let z<- zeroOf P e
         if 0<n/\z.length=n then some (.append n i.bytes a b)else none
       | some (.slice e),some (.int _)=>do
         let(_,n)<- typ P e
         let i<- P.info? e
         let z<- zeroOf P e
         if 0<n/\z.length=n then some (.appz n i.bytes z a b)else none
       | _,_=>none
     | _,_=>none
   | .builtin .copy=>do
     match c.argTypes.toList,c.args.toList with
     | [t,_],[x,y]=>do
       let a<- opd I x
       let b<- opd I y
       match P.underlying t with
       | some (.slice e)=>do
         let(_,n)<- typ P e
         if 0<n then some (.copy n a b)else none
       | _=>none
     | _,_=>none
   | .builtin .max=>do
     match c.argTypes.toList,c.args.toList with
     | [_,_],[x,y]=>do
       let a<- opd I x
       let b<- opd I y
       some (.mx false a b)
     | _,_=>none
   | .builtin .min=>do
     match c.argTypes.toList,c.args.toList with
     | [_,_],[x,y]=>do
       let a<- opd I x
       let b<- opd I y
       some (.mx true a b)
     | _,_=>none
   | .builtin .clear=>do
     match c.argTypes.toList,c.args.toList with
     | [t],[x]=>do
       let a<- opd I x
       match P.underlying t with
       | some (.slice e)=>do
         let(_,n)<- typ P e
         let z<- zeroOf P e
         if 0<n/\z.length=n then some (.clear n z a)else none
       | _=>none
     | _,_=>none
   | .builtin .cap=>do
     match c.argTypes.toList,c.args.toList with
     | [t],[x]=>match P.underlying t with
       | some (.slice _)=>(opd I x).map .capN
       | _=>none
     | _,_=>none
   | _=>none
 | .panic _=>some .stop
 | .makeInterface _ _=>some .stop
 | _=>none
end
end Rg
end
section
namespace Rg
open Go
theorem addr_add (r o n:Nat):(⟨r,o,none⟩:Addr).add n=⟨r,o+n,none⟩:=by
 unfold Addr.add;split<;>simp_all
theorem RepV.t_inv {w:World} {A:Nat->Prop} {nm μ:Nat->Nat} {H:Nat->Option O} {v:Value} {x:T} (h:RepV w A nm μ H v (.t x)):RepT w A nm v x:=by
 cases(h:RepC w A nm μ H v (.t x));assumption
theorem RepV.int_inv {w:World} {A:Nat->Prop} {nm μ:Nat->Nat} {H:Nat->Option O} {v:Value} {k:IntKind} {n:Int} (h:RepV w A nm μ H v (.t (.int k n))):v= .int k n:=by
 cases h.t_inv;rfl
theorem RepV.bool_inv {w:World} {A:Nat->Prop} {nm μ:Nat->Nat} {H:Nat->Option O} {v:Value} {b:Bool} (h:RepV w A nm μ H v (.t (.bool b))):v= .bool b:=by
 cases h.t_inv;rfl
theorem RepV.str_inv {w:World} {A:Nat->Prop} {nm μ:Nat->Nat} {H:Nat->Option O} {v:Value} {b:ByteArray} (h:RepV w A nm μ H v (.t (.str b))):v= .string b:=by
 cases h.t_inv;rfl
theorem cellOf_rep {w:World} {A:Nat->Prop} {nm μ:Nat->Nat} {H:Nat->Option O} {v:Value} {x:V} (h:cellOf v=some x):RepC w A nm μ H v x:=by
 unfold cellOf at h
 split at h<;>first
  | (simp at h;done)
  | (simp only[Option.some.injEq]at h;subst h;exact .t (by constructor))
theorem mapM_some {α β:Type} {f:α->Option β}: ∀{l:List α} {r:List β},l.mapM f=some r->l.length=r.length/\ ∀(i:Nat) (y:β),r[i]? =some y-> ∃x,l[i]? =some x/\f x=some y
 | [],r,h=>by simp at h;subst h;simp
 | x::l,r,h=>by
   simp only[List.mapM_cons,Option.bind_eq_bind,Option.bind_eq_some_iff,Option.pure_def,Option.some.injEq]at h
   obtain⟨y,hy,ys,hys,rfl⟩:=h
   obtain⟨h1,h2⟩:=mapM_some hys
   refine⟨by simp[h1],fun i z hz=> ?_⟩
   cases i with
   | zero=>simp at hz;subst hz;exact⟨x,rfl,hy⟩
   | succ i=>simp at hz;simpa using h2 i z hz
theorem cellsOf_rep {w:World} {A:Nat->Prop} {nm μ:Nat->Nat} {H:Nat->Option O} {v:Value} {cs:List V} (h:cellsOf v=some cs):
 RepL w A nm μ H v.cells.toList cs:=by
 obtain⟨h1,h2⟩:=mapM_some h
 exact⟨h1,fun i c hi=>let⟨x,hx,hf⟩:=h2 i c hi;⟨x,hx,cellOf_rep hf⟩⟩
theorem constOf_rep {w:World} {A:Nat->Prop} {nm μ:Nat->Nat} {H:Nat->Option O} {v:Value} {x:V} (h:constOf v=some x):RepV w A nm μ H v x:=by
 unfold constOf at h
 split at h
 ·simp only[Option.map_eq_some_iff]at h
  obtain⟨cs,hcs,rfl⟩:=h
  obtain⟨h1,h2⟩:=mapM_some hcs
  exact⟨_,rfl,h1,fun i c hi=>let⟨x,hx,hf⟩:=h2 i c hi;⟨x,hx,cellOf_rep hf⟩⟩
 ·exact(cellOf_rep h).toV
section
variable {P:Program} {N:Nam} {I:Inv} {c:Ctx} {ns:Nat} {A:Nat->Prop} {μ lam:Nat->Nat} {s:St} {a:Act} {w:World}
theorem opd_eval (hI:I.Ok N) (R:Rel N c ns A μ lam s a w) {x:Operand} {y:Opd} {v:V} (hx:opd I x=some y) (hv:evl N.G s y=some v):
 RepV w A N.nm μ s.heap (a.eval x) v:=by
 cases x with
 | tmp t=>
   simp only[opd,Option.some.injEq]at hx;subst hx
   have he:=R.env t
   simp only[evl]at hv
   split at hv<;>first | (simp at hv;done) | skip
   simp only[Option.some.injEq]at hv;subst hv
   exact he
 | const v0=>
   simp only[opd,Option.map_eq_some_iff]at hx
   obtain⟨x0,h0,rfl⟩:=hx
   simp only[evl,Option.some.injEq]at hv;subst hv
   exact constOf_rep h0
 | global g=>
   simp only[opd,Option.map_eq_some_iff]at hx
   obtain⟨k,h0,rfl⟩:=hx
   simp only[evl,Option.some.injEq]at hv;subst hv
   obtain⟨rfl,hne⟩:=hI.g g k h0
   have hA:A (N.gm k):=by
    cases hG:N.G k with
    | nil=>exact absurd hG hne
    | cons x l=>exact(R.glob k 0 x (by simp[hG])).1
   show RepC w A N.nm μ s.heap _ _
   refine .t (.ip (N.gm k) 0 (N.G k) (fun j=>(w.cell? ⟨N.gm k,0+j,none⟩).getD undef) hA ?_ ?_)
   ·intro j x hj
    obtain⟨_,_,v,hv,_⟩:=R.glob k j x hj
    simp[hv]
   ·intro j x hj
    obtain⟨_,_,v,hv,hr⟩:=R.glob k j x hj
    simpa[hv]using hr
 | func f=>
   simp only[opd,Option.map_eq_some_iff]at hx
   obtain⟨k,h0,rfl⟩:=hx
   simp only[evl,Option.some.injEq]at hv;subst hv
   have:=hI.f f k h0
   subst this
   show RepC w A N.nm μ s.heap _ _
   exact .t (.fn k [] [] #[] #[] (fun _=>undef) (fun _=>undef) rfl rfl (by simp) (by simp) (by simp) (by simp))
theorem ref_eval (R:Rel N c ns A μ lam s a w) {x:Operand} {y:Opd} {b o:Nat} {cs:List V} (hx:opd I x=some y) (hr:refL s y=some (b,o)) (hb:s.loc b=some cs):
 a.eval x= .pointer (some ⟨lam b,o,none⟩):=by
 cases x with
 | tmp t=>
   simp only[opd,Option.some.injEq]at hx;subst hx
   simp only[refL]at hr
   split at hr
   ·rename_i r hadr
    simp only[Option.some.injEq]at hr;subst hr
    exact(R.adr t b o hadr).2.2
   ·split at hr<;>first | (simp at hr;done) | skip
    simp only[Option.some.injEq,Prod.mk.injEq]at hr
    obtain⟨rfl,rfl⟩:=hr
    exact(R.loc t cs hb).1
 | const v0=>
   simp only[opd,Option.map_eq_some_iff]at hx
   obtain⟨_,_,rfl⟩:=hx
   simp[refL]at hr
 | global g=>
   simp only[opd,Option.map_eq_some_iff]at hx
   obtain⟨_,_,rfl⟩:=hx
   simp[refL]at hr
 | func f=>
   simp only[opd,Option.map_eq_some_iff]at hx
   obtain⟨_,_,rfl⟩:=hx
   simp[refL]at hr
theorem int_eval (hI:I.Ok N) (R:Rel N c ns A μ lam s a w) {x:Operand} {y:Opd} {n:Int} (hx:opd I x=some y) (hv:evInt N.G s y=some n):
 ∃k,a.eval x= .int k n:=by
 unfold evInt at hv
 split at hv<;>first | (simp at hv;done) | skip
 rename_i k m he
 simp only[Option.some.injEq]at hv;subst hv
 exact⟨_,(opd_eval hI R hx he).int_inv⟩
theorem bool_eval (hI:I.Ok N) (R:Rel N c ns A μ lam s a w) {x:Operand} {y:Opd} {b:Bool} (hx:opd I x=some y) (hv:evBool N.G s y=some b):
 a.eval x= .bool b:=by
 unfold evBool at hv
 split at hv<;>first | (simp at hv;done) | skip
 rename_i m he
 simp only[Option.some.injEq]at hv;subst hv
 exact(opd_eval hI R hx he).bool_inv
end
theorem run_info {P:Program} {w:World} {t:TypeId} {i:TypeInfo} (h:P.info? t=some i):(typeInfo t).run P w= .ok i w:=by
 simp[typeInfo,h]
theorem run_size {P:Program} {w:World} {t:TypeId} {i:TypeInfo} (h:P.info? t=some i):(Go.sizeOf t).run P w= .ok i.size w:=by
 simp[Go.sizeOf,run_info h]
theorem run_und {P:Program} {w:World} {t:TypeId} {d:TypeDesc} (h:P.underlying t=some d):(underlying t).run P w= .ok d w:=by
 simp[underlying,h]
theorem typ_spec {P:Program} {t:TypeId} {ag:Bool} {n:Nat} (h:typ P t=some (ag,n)):
 ∃i,P.info? t=some i/\i.size=n/\(ag=false->n=1)/\ ∀w,(isAgg t).run P w= .ok ag w:=by
 unfold typ at h
 split at h
 ·rename_i i fs h1 h2
  simp only[Option.some.injEq,Prod.mk.injEq]at h
  obtain⟨rfl,rfl⟩:=h
  exact⟨i,h1,rfl,by simp,fun w=>by simp[isAgg,run_und h2]⟩
 ·rename_i i l e h1 h2
  simp only[Option.some.injEq,Prod.mk.injEq]at h
  obtain⟨rfl,rfl⟩:=h
  exact⟨i,h1,rfl,by simp,fun w=>by simp[isAgg,run_und h2]⟩
 ·rename_i i d h2 h3 h1 h4
  split at h
  ·rename_i hs
   simp only[Option.some.injEq,Prod.mk.injEq]at h
   obtain⟨rfl,rfl⟩:=h
   refine⟨i,h1,hs,by simp,fun w=> ?_⟩
   simp only[isAgg,Sem.run_bind,run_und h4,Result.andThen_ok]
   cases d<;>simp_all
  ·simp at h
 ·simp at h
def wrapV (ag:Bool) (vs:List Value):Value:=if ag then .agg vs.toArray else vs.headD undef
theorem run_loadVar {P:Program} {w:World} {t:TypeId} {ag:Bool} {n:Nat} (h:typ P t=some (ag,n)) (r off:Nat) (vs:List Value) (hl:vs.length=n)
 (hv: ∀(j:Nat) (v:Value),vs[j]? =some v->w.cell? ⟨r,off+j,none⟩=some v):(loadVar t ⟨r,off,none⟩).run P w= .ok (wrapV ag vs) w:=by
 obtain⟨i,h1,rfl,h3,h4⟩:=typ_spec h
 cases ag with
 | true=>
   have hload:=run_loadCells_list (P:=P) (w:=w) ⟨r,off,none⟩ vs (fun j v hj=>by rw[addr_add];exact hv j v hj)
   rw[hl]at hload
   simp[loadVar,h4 w,run_size h1,hload,wrapV]
 | false=>
   have hn:vs.length=1:=by rw[hl,h3 rfl]
   match vs,hn with
   | [v],_=>
     have:=hv 0 v rfl
     simp only[Nat.add_zero]at this
     simp[loadVar,h4 w,this,wrapV]
section
variable {w:World} {A:Nat->Prop} {nm μ:Nat->Nat} {H:Nat->Option O}
theorem RepL.rd {vs:List Value} {cs r:List V} {off n:Nat} (h:RepL w A nm μ H vs cs) (hr:rd cs off n=some r):
 RepL w A nm μ H ((vs.drop off).take n) r/\off+n<=vs.length/\r.length=n:=by
 unfold Rg.rd at hr
 split at hr
 ·rename_i hle
  simp only[Option.some.injEq]at hr;subst hr
  refine⟨⟨by simp[h.1],fun i c hi=> ?_⟩,by rw[h.1];exact hle,by simp;omega⟩
  simp only[List.getElem?_take,List.getElem?_drop]at hi⊢
  split at hi
  ·rename_i hin
   obtain⟨v,hv,hrep⟩:=h.2 _ c hi
   exact⟨v,by simp[hin,hv],hrep⟩
  ·simp at hi
 ·simp at hr
theorem RepL.wrap1 {vs:List Value} {r:List V} {ag:Bool} {v:V} (h:RepL w A nm μ H vs r) (hw:wrapAg ag r=some v):RepV1 w A nm μ H (wrapV ag vs) v:=by
 cases ag with
 | true=>
   simp only[wrapAg,if_true,Option.some.injEq]at hw;subst hw
   exact⟨_,rfl,by simpa using h⟩
 | false=>
   simp only[wrapAg,Bool.false_eq_true,if_false]at hw
   split at hw
   ·simp only[Option.some.injEq]at hw;subst hw
    rename_i x
    obtain⟨u,hu,hr⟩:=h.2 0 x rfl
    match vs,h.1,hu with
    | [u'],_,hu=>simp at hu;subst hu;simpa[wrapV]using hr.toV1
   ·simp at hw
theorem RepL.wrap {vs:List Value} {r:List V} {ag:Bool} {v:V} (h:RepL w A nm μ H vs r) (hw:wrapAg ag r=some v):RepV w A nm μ H (wrapV ag vs) v:=(h.wrap1 hw).toV
end
end Rg
end
section
namespace Rg
open Go
def Plain (e:Eff):Prop:=e.adr=none/\e.loc=none/\e.wloc=none/\e.hp=[]
def Gives (N:Nam) (A:Nat->Prop) (μ:Nat->Nat) (s:St) (w:World) (r:Result Value) (e:Eff):Prop:=
 ∃v,r= .ok v w/\RepV w A N.nm μ s.heap v e.val/\Plain e
section
variable {P:Program} {N:Nam} {I:Inv} {c:Ctx} {ns p:Nat} {A:Nat->Prop} {μ lam:Nat->Nat} {s:St} {a:Act} {w:World} {e:Eff}
theorem RepV.ip_inv {w:World} {A:Nat->Prop} {nm μ:Nat->Nat} {H:Nat->Option O} {v:Value} {cs:List T} (h:RepV w A nm μ H v (.t (.ip cs))):
 ∃(r off:Nat) (vf:Nat->Value),v= .pointer (some ⟨r,off,none⟩)/\A r/\(∀(j:Nat) (x:T),cs[j]? =some x->w.cell? ⟨r,off+j,none⟩=some (vf j))/\(∀(j:Nat) (x:T),cs[j]? =some x->RepT w A nm (vf j) x):=by
 cases h.t_inv with
 | ip r off _ vf hA hv hr=>exact⟨r,off,vf,rfl,hA,hv,hr⟩
theorem RepV.mp_inv {w:World} {A:Nat->Prop} {nm μ:Nat->Nat} {H:Nat->Option O} {v:Value} {k i off sz:Nat} {rs:List (List V)} {frz:Bool}
 (h:RepV w A nm μ H v (.mp k i off)) (hk:H k=some (.rows sz rs frz)):v= .pointer (some ⟨μ k,i*sz+off,none⟩)/\i<rs.length:=by
 cases(h:RepC w A nm μ H v (.mp k i off))with
 | mp _ _ _ sz' rs' frz' hk' hi=>rw[hk]at hk';cases hk';exact⟨rfl,hi⟩
 | mb _ _ hk'=>rw[hk]at hk';cases hk'
 | dmp _ _ _ hk'=>rw[hk]at hk';cases hk'
theorem RepV.agg_inv {w:World} {A:Nat->Prop} {nm μ:Nat->Nat} {H:Nat->Option O} {v:Value} {cs:List V} (h:RepV w A nm μ H v (.agg cs)):
 ∃vs,v= .agg vs/\RepL w A nm μ H vs.toList cs:=h
theorem row_cells (R:Rel N c ns A μ lam s a w) {k sz i:Nat} {rs:List (List V)} {frz:Bool} {row:List V} (hk:s.heap k=some (.rows sz rs frz)) (hrow:rs[i]? =some row):
 ∃vs:List Value,RepL w A N.nm μ s.heap vs row/\ ∀(j:Nat) (v:Value),vs[j]? =some v->w.cell? ⟨μ k,i*sz+j,none⟩=some v:=by
 obtain⟨cc,e0,z,h1,h2,h3,h4,h5⟩:=R.heap k _ hk
 have hi:i<rs.length:=(List.getElem?_eq_some_iff.1 hrow).1
 have hrl:=h4 i row hrow
 have hle:i*sz+sz<=cc.size:=by
  have:(i+1)*sz<=rs.length*sz:=Nat.mul_le_mul_right _ hi
  rw[Nat.succ_mul]at this;omega
 refine⟨(cc.toList.drop (i*sz)).take sz,⟨by simp;omega,fun j x hj=> ?_⟩,fun j v hj=> ?_⟩
 ·have hjl:j<row.length:=(List.getElem?_eq_some_iff.1 hj).1
  obtain⟨v,hv,hr⟩:=h5 i row j x hrow hj
  refine⟨v,?_,hr⟩
  simp only[List.getElem?_take,List.getElem?_drop,Array.getElem?_toList]
  rw[if_pos (by omega)];exact hv
 ·simp only[List.getElem?_take,List.getElem?_drop,Array.getElem?_toList]at hj
  split at hj
  ·simp[World.cell?,h1,hj]
  ·simp at hj
theorem s_mv (hI:I.Ok N) (R:Rel N c ns A μ lam s a w) {x:Operand} {y:Opd} (hx:opd I x=some y) (he:aeval N.G p s (.mv y)=some e):
 RepV w A N.nm μ s.heap (a.eval x) e.val/\Plain e:=by
 simp only[aeval,Option.bind_eq_bind,Option.bind_eq_some_iff,Option.some.injEq]at he
 obtain⟨v,hv,rfl⟩:=he
 exact⟨opd_eval hI R hx hv,rfl,rfl,rfl,rfl⟩
theorem s_pick (hI:I.Ok N) (R:Rel N c ns A μ lam s a w) {xc xa xb:Operand} {yc ya yb:Opd} (hc:opd I xc=some yc) (ha:opd I xa=some ya) (hb:opd I xb=some yb)
 (he:aeval N.G p s (.pick yc ya yb)=some e): ∃t,a.eval xc= .bool t/\RepV w A N.nm μ s.heap (if t then a.eval xa else a.eval xb) e.val/\Plain e:=by
 simp only[aeval,Option.bind_eq_bind,Option.bind_eq_some_iff,Option.some.injEq]at he
 obtain⟨t,ht,v,hv,rfl⟩:=he
 refine⟨t,bool_eval hI R hc ht,?_,rfl,rfl,rfl,rfl⟩
 cases t
 ·exact opd_eval hI R hb hv
 ·exact opd_eval hI R ha hv
theorem s_loadL (R:Rel N c ns A μ lam s a w) {x:Operand} {y:Opd} {t:TypeId} {ag:Bool} {n:Nat} (hx:opd I x=some y) (ht:typ P t=some (ag,n))
 (he:aeval N.G p s (.loadL ag n y)=some e):Gives N A μ s w ((Instr.loadAt t (a.eval x)).run P w) e:=by
 simp only[aeval,Option.bind_eq_bind,Option.bind_eq_some_iff,Option.some.injEq,Prod.exists]at he
 obtain⟨b,o,hr,cs,hb,r,hrd,v,hw,rfl⟩:=he
 obtain⟨_,cc,e0,h1,h2⟩:=R.loc b cs hb
 obtain⟨h3,h4,h5⟩:=h2.rd hrd
 refine⟨wrapV ag ((cc.toList.drop o).take n),?_,h3.wrap hw,rfl,rfl,rfl,rfl⟩
 have hl:=run_loadVar (w:=w) ht (lam b) o ((cc.toList.drop o).take n) (by simp at h4⊢;omega) (fun j v hj=>by
  simp only[List.getElem?_take,List.getElem?_drop,Array.getElem?_toList]at hj
  split at hj
  ·simp[World.cell?,h1,hj]
  ·simp at hj)
 simp[Instr.loadAt,ref_eval R hx hr hb,Instr.sureAddr,hl]
theorem s_load (hI:I.Ok N) (R:Rel N c ns A μ lam s a w) {x:Operand} {y:Opd} {t:TypeId} {ag:Bool} {n:Nat} (hx:opd I x=some y) (ht:typ P t=some (ag,n))
 (he:aeval N.G p s (.load ag n y)=some e):Gives N A μ s w ((Instr.loadAt t (a.eval x)).run P w) e:=by
 simp only[aeval,Option.bind_eq_bind,Option.bind_eq_some_iff]at he
 obtain⟨u,hu,he⟩:=he
 have hrep:=opd_eval hI R hx hu
 split at he
 ·rename_i k i off
  split at he
  ·rename_i sz rs frz hk
   simp only[Option.bind_eq_some_iff,Option.some.injEq]at he
   obtain⟨row,hrow,r,hrd,v,hw,rfl⟩:=he
   obtain⟨hv,_⟩:=RepV.mp_inv hrep hk
   obtain⟨vs,h1,h2⟩:=row_cells R hk hrow
   obtain⟨h3,h4,h5⟩:=h1.rd hrd
   refine⟨wrapV ag ((vs.drop off).take n),?_,h3.wrap hw,rfl,rfl,rfl,rfl⟩
   have hl:=run_loadVar (w:=w) ht (μ k) (i*sz+off) ((vs.drop off).take n) (by simp;omega) (fun j v hj=>by
    simp only[List.getElem?_take,List.getElem?_drop]at hj
    split at hj
    ·rw[Nat.add_assoc];exact h2 _ v hj
    ·simp at hj)
   simp[Instr.loadAt,hv,Instr.sureAddr,hl]
  ·simp at he
 ·rename_i cs
  simp only[Option.bind_eq_some_iff,Option.some.injEq]at he
  obtain⟨r,hrd,v,hw,rfl⟩:=he
  obtain⟨r0,off,vf,hv,hA,h1,h2⟩:=RepV.ip_inv hrep
  have h3:RepL w A N.nm μ s.heap ((List.range cs.length).map vf) (cs.map V.t):=by
   refine⟨by simp,fun j x hj=> ?_⟩
   simp only[List.getElem?_map,Option.map_eq_some_iff]at hj
   obtain⟨y,hy,rfl⟩:=hj
   have hjl:j<cs.length:=(List.getElem?_eq_some_iff.1 hy).1
   exact⟨vf j,by simp[hjl],.t (h2 j y hy)⟩
  have hrd':rd (cs.map V.t) 0 n=some (r.map V.t):=by
   unfold rd at hrd⊢
   split at hrd
   ·rename_i hle
    simp only[Option.some.injEq]at hrd;subst hrd
    rw[if_pos (by simpa using hle)]
    simp
   ·simp at hrd
  obtain⟨h4,h5,h6⟩:=h3.rd hrd'
  refine⟨wrapV ag ((((List.range cs.length).map vf).drop 0).take n),?_,h4.wrap hw,rfl,rfl,rfl,rfl⟩
  have hl:=run_loadVar (w:=w) ht r0 off ((((List.range cs.length).map vf).drop 0).take n) (by simp at h5⊢;omega) (fun j v hj=>by
   simp only[List.drop_zero,List.getElem?_take]at hj
   split at hj
   ·rename_i hjn
    simp only[List.getElem?_map,Option.map_eq_some_iff]at hj
    obtain⟨j',hj',rfl⟩:=hj
    have:j<cs.length:=by
     have:=(List.getElem?_eq_some_iff.1 hj').1
     simpa using this
    simp only[List.getElem?_range this,Option.some.injEq]at hj';subst hj'
    exact h1 j _ (List.getElem?_eq_getElem this)
   ·simp at hj)
  simp only[Instr.loadAt,hv,Instr.sureAddr,Sem.run_bind,Sem.run_pure,Result.andThen_ok,hl]
 ·simp at he
end
end Rg
end
section
namespace Rg
open Go
theorem run_bin {P:Program} {w:World} {A:Nat->Prop} {nm:Nat->Nat} {op:BinOp} {x y r:T} {v u:Value} (h:binT op x y=some r) (hx:RepT w A nm v x) (hy:RepT w A nm u y)
 (t:TypeId) (xo yo:Operand): ∃z,(do eqGuard op t xo yo v u;binOp op t v u:Sem Value).run P w= .ok z w/\RepT w A nm z r:=by
 cases hx<;>(try(simp[binT]at h;done))<;>cases hy<;>(try(simp[binT]at h;done))
 ·rename_i k m k' n
  simp only[binT]at h
  cases op<;>simp only at h
  case shl=>
   split at h
   ·simp at h
   ·rename_i hn
    simp only[Option.some.injEq]at h;subst h
    exact⟨_,by simp[eqGuard,binOp,Op.shift,hn],.int _ _⟩
  case shr=>
   split at h
   ·simp at h
   ·rename_i hn
    simp only[Option.some.injEq]at h;subst h
    exact⟨_,by simp[eqGuard,binOp,Op.shift,hn],.int _ _⟩
  case quo=>
   split at h
   ·rename_i hk;subst hk
    split at h
    ·simp at h
    ·rename_i hn
     simp only[Option.some.injEq]at h;subst h
     exact⟨_,by simp[eqGuard,binOp,Op.intDiv,hn],.int _ _⟩
   ·simp at h
  case rem=>
   split at h
   ·rename_i hk;subst hk
    split at h
    ·simp at h
    ·rename_i hn
     simp only[Option.some.injEq]at h;subst h
     exact⟨_,by simp[eqGuard,binOp,Op.intDiv,hn],.int _ _⟩
   ·simp at h
  case add | sub | mul=>
   split at h
   ·rename_i hk;subst hk
    simp only[Option.some.injEq]at h;subst h
    exact⟨_,by simp[eqGuard,binOp,Op.intArith],.int _ _⟩
   ·simp at h
  case and | or | xor | andNot=>
   split at h
   ·rename_i hk;subst hk
    simp only[Option.some.injEq]at h;subst h
    refine⟨_,?_,.int _ _⟩
    simp only[eqGuard,binOp,Op.intBits]
    simp
   ·simp at h
  all_goals
   split at h
   ·rename_i hk;subst hk
    simp only[Option.some.injEq]at h;subst h
    exact⟨_,by simp[eqGuard,binOp,Op.intCmp],.bool _⟩
   ·simp at h
 ·rename_i b c
  simp only[binT]at h
  cases op<;>simp only at h<;>(try(simp at h;done))
  case add=>
   split at h
   ·rename_i hle
    simp only[Option.some.injEq]at h;subst h
    refine⟨_,?_,.str _⟩
    have : ¬((b.size+c.size:Nat):Int)>IntKind.i64.max:=by
     have:IntKind.i64.max=9223372036854775807:=by decide
     omega
    simp only[eqGuard,binOp,Op.stringOp]
    simp
    omega
   ·simp at h
  all_goals
   simp only[Option.some.injEq]at h;subst h
   exact⟨_,by simp[eqGuard,binOp,Op.stringOp],.bool _⟩
section
variable {P:Program} {N:Nam} {I:Inv} {c:Ctx} {ns p:Nat} {A:Nat->Prop} {μ lam:Nat->Nat} {s:St} {a:Act} {w:World} {e:Eff}
theorem s_bin (hI:I.Ok N) (R:Rel N c ns A μ lam s a w) {x y:Operand} {x' y':Opd} {op:BinOp} (hx:opd I x=some x') (hy:opd I y=some y')
 (he:aeval N.G p s (.bin op x' y')=some e) (t:TypeId):
 Gives N A μ s w ((do eqGuard op t x y (a.eval x) (a.eval y);binOp op t (a.eval x) (a.eval y):Sem Value).run P w) e:=by
 simp only[aeval,Option.bind_eq_bind,Option.bind_eq_some_iff]at he
 obtain⟨u,hu,v,hv,he⟩:=he
 split at he
 ·rename_i b d
  simp only[Option.bind_eq_some_iff,Option.some.injEq]at he
  obtain⟨r,hr,rfl⟩:=he
  obtain⟨z,hz,hrep⟩:=run_bin (P:=P) hr (opd_eval hI R hx hu).t_inv (opd_eval hI R hy hv).t_inv t x y
  exact⟨z,hz,(RepC.t hrep).toV,rfl,rfl,rfl,rfl⟩
 ·simp at he
theorem s_mx (hI:I.Ok N) (R:Rel N c ns A μ lam s a w) {x y:Operand} {x' y':Opd} {mn:Bool} (hx:opd I x=some x') (hy:opd I y=some y')
 (he:aeval N.G p s (.mx mn x' y')=some e) (ts:Array TypeId) (t:TypeId):
 Gives N A μ s w ((if mn then Builtin.min_ ts t #[a.eval x,a.eval y]else Builtin.max_ ts t #[a.eval x,a.eval y]:Sem Value).run P w) e:=by
 simp only[aeval,Option.bind_eq_bind,Option.bind_eq_some_iff]at he
 obtain⟨u,hu,v,hv,he⟩:=he
 split at he
 ·rename_i b d
  simp only[Option.bind_eq_some_iff,Option.some.injEq]at he
  obtain⟨r,hr,rfl⟩:=he
  have h1:=(opd_eval hI R hx hu).t_inv
  have h2:=(opd_eval hI R hy hv).t_inv
  unfold mxT at hr
  split at hr
  ·rename_i k m k' m'
   split at hr
   ·rename_i hk
    subst hk
    simp only[Option.some.injEq]at hr;subst hr
    generalize a.eval x=vx at h1
    generalize a.eval y=vy at h2
    cases h1;cases h2
    cases mn
    ·exact⟨_,by simp[Builtin.max_,Builtin.max2],(RepC.t (.int _ _)).toV,rfl,rfl,rfl,rfl⟩
    ·exact⟨_,by simp[Builtin.min_,Builtin.min2],(RepC.t (.int _ _)).toV,rfl,rfl,rfl,rfl⟩
   ·simp at hr
  ·simp at hr
 ·simp at he
theorem s_eqb (hI:I.Ok N) (R:Rel N c ns A μ lam s a w) {x y:Operand} {x' y':Opd} {op:BinOp} {neg:Bool} (hx:opd I x=some x') (hy:opd I y=some y')
 (he:aeval N.G p s (.eqb neg x' y')=some e) {t:TypeId} (ht:P.underlying t=some .bool) (hop:op=if neg then .neq else .eql):
 Gives N A μ s w ((do eqGuard op t x y (a.eval x) (a.eval y);binOp op t (a.eval x) (a.eval y):Sem Value).run P w) e:=by
 simp only[aeval,Option.bind_eq_bind,Option.bind_eq_some_iff,Option.some.injEq]at he
 obtain⟨b,hb,d,hd,rfl⟩:=he
 rw[bool_eval hI R hx hb,bool_eval hI R hy hd]
 subst hop
 refine⟨.bool ((b==d) != neg),?_,(RepC.t (.bool _)).toV,rfl,rfl,rfl,rfl⟩
 have h1: ∀n,(Op.equalIn (n+1) t (.bool b) (.bool d)).run P w= .ok (b==d) w:=fun n=>by simp[Op.equalIn,run_und ht]
 have h2:(Op.equal t (.bool b) (.bool d)).run P w= .ok (b==d) w:=h1 9999
 cases neg<;>simp[eqGuard,binOp,h2]
theorem run_eqFields {fs:List Field} {xs ys:Array Value} {as bs:List V} {i:Nat} {ks:List Nat} {r:Bool} {μ:Nat->Nat} {H:Nat->Option O} {nm:Nat->Nat} (d:Nat)
 (hf:plainFields P i fs=some ks) (hx:RepL w A nm μ H xs.toList as) (hy:RepL w A nm μ H ys.toList bs)
 (he:eqCells ks (as.drop i) (bs.drop i)=some r):(Op.eqFields (d+1) xs ys fs).run P w= .ok r w:=by
 induction fs generalizing i r ks with
 | nil=>
   simp only[plainFields,Option.some.injEq]at hf;subst hf
   unfold eqCells at he
   split at he<;>simp_all [Op.eqFields]
 | cons f fs ih=>
   simp only[plainFields,Option.bind_eq_bind,Option.bind_eq_some_iff]at hf
   obtain⟨k,hk,ks',hks,hf⟩:=hf
   split at hf
   ·rename_i hc
    obtain⟨hn,ho,htyp⟩:=hc
    simp only[Option.some.injEq]at hf;subst hf
    unfold eqCells at he
    split at he
    ·simp_all
    ·rename_i n ns xa xs' ya ys' e1 e2 e3
     cases e1
     simp only[Option.bind_eq_bind,Option.bind_eq_some_iff,Option.some.injEq]at he
     obtain⟨q,hq,q',hq',rfl⟩:=he
     have ea:as[i]? =some xa:=by have:=congrArg (·[0]?) e2;simpa using this
     have eb:bs[i]? =some ya:=by have:=congrArg (·[0]?) e3;simpa using this
     have ea':as.drop (i+1)=xs':=by have:=congrArg List.tail e2;simpa using this
     have eb':bs.drop (i+1)=ys':=by have:=congrArg List.tail e3;simpa using this
     obtain⟨v,hv,hvr⟩:=hx.2 i _ ea
     obtain⟨u,hu,hur⟩:=hy.2 i _ eb
     obtain⟨inf,g1,g2,g3,g4⟩:=typ_spec htyp
     have ih':=ih hks (by rw[ea',eb'];exact hq')
     have hpx:(part f.type xs f.offset).run P w= .ok v w:=by
      simp only[Array.getElem?_toList]at hv
      simp[part,g4 w,ho,hv]
     have hpy:(part f.type ys f.offset).run P w= .ok u w:=by
      simp only[Array.getElem?_toList]at hu
      simp[part,g4 w,ho,hu]
     have heq:(Op.equalIn (d+1) f.type v u).run P w= .ok q w:=by
      unfold eqCell at hq
      split at hq
      ·split at hq
       ·rename_i hkk
        obtain⟨rfl,rfl⟩:=hkk
        simp only[Option.some.injEq]at hq;subst hq
        cases hvr.toV.int_inv;cases hur.toV.int_inv
        unfold kindOf at hk
        split at hk<;>simp at hk
        rename_i hty;simp[Op.equalIn,run_und hty]
       ·simp at hq
      ·split at hq
       ·rename_i hkk;subst hkk
        simp only[Option.some.injEq]at hq;subst hq
        cases hvr.toV.bool_inv;cases hur.toV.bool_inv
        unfold kindOf at hk
        split at hk<;>simp at hk
        rename_i hty;simp[Op.equalIn,run_und hty]
       ·simp at hq
      ·split at hq
       ·rename_i hkk;subst hkk
        simp only[Option.some.injEq]at hq;subst hq
        cases hvr.toV.str_inv;cases hur.toV.str_inv
        unfold kindOf at hk
        split at hk<;>simp at hk
        rename_i hty;simp[Op.equalIn,run_und hty,beq_toListBytes]
       ·simp at hq
      ·simp at hq
     simp only[Op.eqFields,ne_eq,hn,not_false_eq_true,if_true,Sem.run_bind,hpx,hpy,Result.andThen_ok,heq]
     cases q
     ·simp
     ·simpa using ih'
    ·simp at he
   ·simp at hf
end
end Rg
end
