/- Part of the proof of laws of relyguardtop. No condition. -/
import Derived.Test.YtoidcnbdndioaaaGreatDoorKartAA
import Derived.Laws.StructEq
set_option linter.unusedVariables false
set_option linter.unusedSimpArgs false
section
namespace Rg
open Go
structure Inv where
 fi:Nat->Option Nat
 gi:Nat->Option Nat
 tB:Option Nat
 tys:List (Nat×Nat):=[]
structure Inv.Ok (I:Inv) (N:Nam):Prop where
 f: ∀f k,I.fi f=some k->N.nm k=f
 g: ∀g k,I.gi g=some k->N.gm k=g/\N.G k≠[]/\N.GL k=N.G k
 b: ∀t,I.tB=some t->N.tB=t
 ty: ∀k t,(k,t)∈I.tys->N.nm k=10000000+t:=by intro k t h;cases h
def znk:Value->Option V
 | .int k n=>some (.t (.int k n))
 | .bool b=>some (.t (.bool b))
 | .string s=>some (.t (.str s))
 | .pointer none=>some (.t .nilp)
 | .slice none 0 0=>some (.t .nils)
 | .map none=>some (.t .nilm)
 | .nilFunc=>some (.t .nilf)
 | .nilIface=>some (.t .nili)
 | _=>none
def cellsOf (v:Value):Option (List V):=v.cells.toList.mapM znk
def zjz:Value->Option V
 | .agg cs=>(cs.toList.mapM znk).map V.agg
 | v=>znk v
section
variable (P:Program) (I:Inv)
def opd:Operand->Option Opd
 | .tmp t=>some (.s t)
 | .const v=>(zjz v).map .c
 | .global g=>(I.gi g).map .g
 | .func f=>(I.fi f).map fun k=> .c (.t (.fn k [] []))
def znu:Option Operand->Option (Option Opd)
 | none=>some none
 | some x=>(opd I x).map some
def opds (xs:Array Operand):Option (List Opd):=xs.toList.mapM (opd I)
def typ (t:TypeId):Option (Bool×Nat):=
 match P.info? t,P.underlying t with
 | some i,some (.struct _)=>some (true,i.size)
 | some i,some (.array _ _)=>some (true,i.size)
 | some i,some _=>if i.size=1 then some (false,1)else none
 | _,_=>none
def zdc (t:TypeId):Option (List V):=
 match P.info? t with
 | some i=>match i.zero with
   | some z=>cellsOf z
   | none=>none
 | none=>none
def ztK (t:TypeId):Option V:=do
 let i<- P.info? t
 let v<- i.zero
 zjz v
def zuK (isL:Nat->Bool):Operand->Bool
 | .tmp t=>isL t
 | _=>false
def zyU (isL:Nat->Bool):Option Nat->Bool
 | some d=>isL d
 | none=>false
def zdA (t:TypeId):Option Nat:=
 match P.underlying t with
 | some (.int _)=>some 0
 | some .bool=>some 1
 | some .string=>some 2
 | _=>none
def zbu (i:Nat):List Field->Option (List Nat)
 | []=>some []
 | f::fs=>do
   let k<- zdA P f.type
   let ks<- zbu (i+1) fs
   if f.name ≠ "_" /\ f.offset = i /\ typ P f.type = some (false, 1) then some (k :: ks) else none
def zdB (t:TypeId):Option (List Nat):=
 match P.underlying t with
 | some (.struct fields)=>if P.stoodInHeld t=false/\P.eqGuardType P.depth t=false then zbu P 0 fields.toList else none
 | _=>none
def zcR (i:Nat):List Field->Option (List Nat)
 | []=>some []
 | f::fs=>match zdA P f.type with
   | some k=>do
     let ks<- zcR (i+1) fs
     if f.name ≠ "_" /\ f.offset = i /\ typ P f.type = some (false, 1) then some (k :: ks) else none
   | none=>do
     let k1<- zdB P f.type
     let ks<- zcR (i+k1.length) fs
     if f.name ≠ "_" /\ f.offset = i /\ typ P f.type = some (true, k1.length) /\ 0 < k1.length then some (k1 ++ ks) else none
def zlo (t:TypeId):Option (List Nat):=
 match P.underlying t with
 | some (.struct fields)=>if P.stoodInHeld t=false/\P.eqGuardType P.depth t=false then zcR P 0 fields.toList else none
 | _=>none
def zfu (t:TypeId):Option Nat:=
 match zdA P t with
 | some k=>some k
 | none=>(zdB P t).map fun ks=>3+zjh ks
def zxP (k:Nat):Bool:=k==197||k==481
def zwR (t:TypeId):Bool:=
 match(P.info? t).bind (·.zero)with
 | some (.agg cs)=>match cs.toList with
   | [.pointer none,.slice none 0 0]=>true
   | _=>false
 | _=>false
def zHX (t:TypeId):Bool:=
 match P.underlying t with
 | some (.interface _)=>true
 | none=>true
 | _=>false
def zbq (isL:Nat->Bool) (dst:Option Nat):Op->Option AOp
 | .move x | .assign x=>(opd I x).map .mv
 | .pick c a b=>do
   let c<- opd I c
   let a<- opd I a
   let b<- opd I b
   some (.pick c a b)
 | .alloc t=>do
   let z<- zdc P t
   if I.tB=some t then if zyU isL dst=false/\zwR P t=true then some .allocB else none
   else if zyU isL dst then some (.allocL z)else if I.tys.any (·.2==t)then some (.allocA z)else some (.allocH z)
 | .box t x=>do
   let(_,n)<- typ P t
   let x<- opd I x
   if zyU isL dst then some (.boxL n x)else if I.tys.any (·.2==t)then some (.boxA n x)else some (.boxH n x)
 | .build t parts=>do
   let z<- zdc P t
   match P.underlying t with
   | some (.struct fields)=>do
     let ps<- parts.toList.mapM fun(i,x)=>do
      let f<- fields[i]?
      let(_,n)<- typ P f.type
      let x<- opd I x
      some (f.offset,n,x)
     if fields.toList.all (fun f=>(typ P f.type).isSome)then some (.build z ps)else none
   | some (.array _ e)=>do
     let(_,n)<- typ P e
     let ps<- parts.toList.mapM fun(i,x)=>do
      let x<- opd I x
      some (i*n,n,x)
     some (.build z ps)
   | _=>none
 | .buildSlice t len parts=>do
   match P.underlying t with
   | some (.slice e)=>do
     let(_,n)<- typ P e
     let z<- zdc P e
     let ps<- parts.toList.mapM fun(i,x)=>do
      let x<- opd I x
      some (i,x)
     if len*n<=2^24/\0<n/\z.length=n then some (if zyU isL dst then .lit n len z ps else .bslice n len z ps)else none
   | _=>none
 | .load t a=>do
   let(ag,n)<- typ P t
   let x<- opd I a
   if zuK isL a then some (.loadL ag n x)else some (.load ag n x)
 | .store t a v=>do
   let(_,n)<- typ P t
   let x<- opd I a
   let v<- opd I v
   if dst.isSome then none else if zuK isL a then some (.storeL n x v)else if I.tys.any (·.2==t)then some (.storeA n x v)else some (.store n x v)
 | .nilCheck x=>(opd I x).map .nilchk
 | .binOp op t x y _=>do
   let a<- opd I x
   let b<- opd I y
   match P.underlying t with
   | some (.int _)=>some (.bin op a b)
   | some .string=>some (.bin op a b)
   | some .bool=>match op with
     | .eql=>some (.eqb false a b)
     | .neq=>some (.eqb true a b)
     | _=>none
   | some (.struct _)=>do
     let n<- zlo P t
     match op with
     | .eql=>some (.eqa false n a b)
     | .neq=>some (.eqa true n a b)
     | _=>none
   | _=>none
 | .unOp op _ x=>(opd I x).map (.un op)
 | .convert src dst x=>do
   let a<- opd I x
   match P.underlying src,P.underlying dst with
   | some (.int _),some (.int k)=>some (.conv k a)
   | some (.slice e),some .string=>match P.underlying e with
     | some (.int .u8)=>some (.bstr a)
     | _=>none
   | _,_=>none
 | .makeFunc (.func f) first cap=>do
   let k<- I.fi f
   let a<- opds I first
   let b<- opds I cap
   match zxP k,a,b with
   | true,[],[x]=>some (.mkfnT k x)
   | _,_,_=>some (.mkfn k a b)
 | .makeSlice t l c=>do
   match P.underlying t with
   | some (.slice e)=>do
     let(_,n)<- typ P e
     let z<- zdc P e
     let i<- P.info? e
     let l<- opd I l
     let c<- opd I c
     if 0<n/\z.length=n then some (.mkslice n i.bytes z l c)else none
   | _=>none
 | .slice t x lo hi mx=>do
   let a<- opd I x
   let l<- znu I lo
   let h<- znu I hi
   let m<- znu I mx
   match P.underlying t with
   | some (.slice e)=>do
     let(_,n)<- typ P e
     some (.slice n a l h m)
   | some .string=>if m.isNone then some (.slstr a l h)else none
   | some (.array n e)=>do
     let(_,k)<- typ P e
     if m.isNone/\k=1/\I.tys.any (·.2==t)=true then some (.slicA n a l h)else none
   | _=>none
 | .fieldAddr t x f=>do
   let a<- opd I x
   match P.underlying t with
   | some (.struct fields)=>do
     let f<- fields[f]?
     let(_,n)<- typ P f.type
     if 0<n then if zuK isL x then some (.faddrL f.offset a)else some (.faddr f.offset a)
     else none
   | _=>none
 | .field t x f=>do
   let a<- opd I x
   match P.underlying t with
   | some (.struct fields)=>do
     let f<- fields[f]?
     let(ag,n)<- typ P f.type
     some (.field ag f.offset n a)
   | _=>none
 | .indexAddr t x i=>do
   let a<- opd I x
   let j<- opd I i
   match P.underlying t with
   | some (.slice e)=>do
     let(_,n)<- typ P e
     some (.iaddrS n a j)
   | some (.array len e)=>do
     let(_,n)<- typ P e
     if zuK isL x then some (.iaddrAL len n a j)else some (.iaddrA len n a j)
   | _=>none
 | .index t x i=>do
   let a<- opd I x
   let j<- opd I i
   match P.underlying t with
   | some (.array len e)=>do
     let(ag,n)<- typ P e
     some (.idxA ag len n a j)
   | some .string=>some (.idxS a j)
   | _=>none
 | .extract x i=>do
   let a<- opd I x
   some (.extr a i)
 | .makeMap t r=>do
   match P.underlying t,r with
   | some (.map _ _),none=>some .mkmap
   | some (.map _ _),some (.const (.int _ _))=>some .mkmap
   | _,_=>none
 | .lookup t x y ok=>do
   let a<- opd I x
   let b<- opd I y
   match P.underlying t with
   | some (.map kt et)=>do
     let kd<- zfu P kt
     let z<- ztK P et
     some (.lookup kd z ok a b)
   | _=>none
 | .mapUpdate t x y v=>do
   let a<- opd I x
   let b<- opd I y
   let u<- opd I v
   match P.underlying t with
   | some (.map kt _)=>do
     let kd<- zfu P kt
     if dst.isSome then none else some (.mapupd kd a b u)
   | _=>none
 | .insert t x y v=>do
   let a<- opd I x
   let b<- opd I y
   let u<- opd I v
   match P.underlying t with
   | some (.map kt _)=>do
     let kd<- zfu P kt
     if dst.isSome then none else some (.mapupd kd a b u)
   | _=>none
 | .call c=>do
   match c.callee with
   | .value _=>none
   | .builtin .len=>do
     match c.argTypes.toList,c.args.toList with
     | [t],[x]=>match P.underlying t with
       | some (.slice _)=>(opd I x).map .len
       | some .string=>(opd I x).map .slen
       | some (.array n _)=>some (.lenA n)
       | _=>none
     | _,_=>none
   | .builtin .append=>do
     match c.argTypes.toList,c.args.toList with
     | [t,u],[x,y]=>do
       let a<- opd I x
       let b<- opd I y
       match P.underlying t,P.underlying u with
       | some (.slice e),some (.slice _)=>do
         let(_,n)<- typ P e
         let i<- P.info? e
         let z<- zdc P e
         if 0<n/\z.length=n then some (.append n i.bytes a b)else none
       | some (.slice e),some (.int _)=>do
         let(_,n)<- typ P e
         let i<- P.info? e
         let z<- zdc P e
         if 0<n/\z.length=n then some (.appz n i.bytes z a b)else none
       | _,_=>none
     | _,_=>none
   | .builtin .copy=>do
     match c.argTypes.toList,c.args.toList with
     | [t,_],[x,y]=>do
       let a<- opd I x
       let b<- opd I y
       match P.underlying t with
       | some (.slice e)=>do
         let(_,n)<- typ P e
         if 0<n then some (.copy n a b)else none
       | _=>none
     | _,_=>none
   | .builtin .max=>do
     match c.argTypes.toList,c.args.toList with
     | [_,_],[x,y]=>do
       let a<- opd I x
       let b<- opd I y
       some (.mx false a b)
     | _,_=>none
   | .builtin .min=>do
     match c.argTypes.toList,c.args.toList with
     | [_,_],[x,y]=>do
       let a<- opd I x
       let b<- opd I y
       some (.mx true a b)
     | _,_=>none
   | .builtin .clear=>do
     match c.argTypes.toList,c.args.toList with
     | [t],[x]=>do
       let a<- opd I x
       match P.underlying t with
       | some (.slice e)=>do
         let(_,n)<- typ P e
         let z<- zdc P e
         if 0<n/\z.length=n then some (.clear n z a)else none
       | _=>none
     | _,_=>none
   | .builtin .cap=>do
     match c.argTypes.toList,c.args.toList with
     | [t],[x]=>match P.underlying t with
       | some (.slice _)=>(opd I x).map .capN
       | _=>none
     | _,_=>none
   | _=>none
 | .panic _=>some .stop
 | .makeInterface t x=>match I.tys.find? (·.2==t)with
   | some q=>if zHX P t then none else(opd I x).map (.mkif q.1)
   | none=>some .stop
 | .typeAssert x _ t ok=>do
   let q<- I.tys.find? (·.2==t)
   let z<- ztK P t
   let x<- opd I x
   if zHX P t then none else some (.tassert q.1 z ok x)
 | _=>none
end
end Rg
end
section
namespace Rg
open Go
theorem zcL (r o n:Nat):(⟨r,o,none⟩:Addr).add n=⟨r,o+n,none⟩:=by
 unfold Addr.add;split<;>simp_all
theorem zbl.t_inv {w:World} {A:Nat->Prop} {nm μ:Nat->Nat} {H:Nat->Option O} {v:Value} {x:T} (h:zbl w A nm μ H v (.t x)):RepT w A nm v x:=by
 cases(h:RepC w A nm μ H v (.t x));assumption
theorem zbl.int_inv {w:World} {A:Nat->Prop} {nm μ:Nat->Nat} {H:Nat->Option O} {v:Value} {k:IntKind} {n:Int} (h:zbl w A nm μ H v (.t (.int k n))):v= .int k n:=by
 cases h.t_inv;rfl
theorem zbl.bool_inv {w:World} {A:Nat->Prop} {nm μ:Nat->Nat} {H:Nat->Option O} {v:Value} {b:Bool} (h:zbl w A nm μ H v (.t (.bool b))):v= .bool b:=by
 cases h.t_inv;rfl
theorem zbl.str_inv {w:World} {A:Nat->Prop} {nm μ:Nat->Nat} {H:Nat->Option O} {v:Value} {b:ByteArray} (h:zbl w A nm μ H v (.t (.str b))):v= .string b:=by
 cases h.t_inv;rfl
theorem zeS {w:World} {A:Nat->Prop} {nm μ:Nat->Nat} {H:Nat->Option O} {v:Value} {x:V} (h:znk v=some x):RepC w A nm μ H v x:=by
 unfold znk at h
 split at h<;>first
  | (simp at h;done)
  | (simp only[zA]at h;subst h;exact .t (by constructor))
theorem zbb {α β:Type} {f:α->Option β}: ∀{l:List α} {r:List β},l.mapM f=some r->l.length=r.length/\ ∀(i:Nat) (y:β),r[i]? =some y-> ∃x,l[i]? =some x/\f x=some y
 | [],r,h=>by simp at h;subst h;simp
 | x::l,r,h=>by
   simp only[List.mapM_cons,zC,zB,Option.pure_def,zA]at h;obtain⟨y,hy,ys,FN,rfl⟩:=h;obtain⟨h1,h2⟩:=zbb FN;refine⟨by simp[h1],fun i z hz=> ?_⟩
   cases i with
   | zero=>simp at hz;subst hz;exact⟨x,rfl,hy⟩
   | succ i=>simp at hz;simpa using h2 i z hz
theorem zbT {w:World} {A:Nat->Prop} {nm μ:Nat->Nat} {H:Nat->Option O} {v:Value} {cs:List V} (h:cellsOf v=some cs):
 zfk w A nm μ H v.cells.toList cs:=by
 obtain⟨h1,h2⟩:=zbb h;exact⟨h1,fun i c hi=>let⟨x,hx,hf⟩:=h2 i c hi;⟨x,hx,zeS hf⟩⟩
theorem zor {w:World} {A:Nat->Prop} {nm μ:Nat->Nat} {H:Nat->Option O} {v:Value} {x:V} (h:zjz v=some x):zbl w A nm μ H v x:=by
 unfold zjz at h;split at h
 ·simp only[zE]at h;obtain⟨cs,AL,rfl⟩:=h;obtain⟨h1,h2⟩:=zbb AL;exact⟨_,rfl,h1,fun i c hi=>let⟨x,hx,hf⟩:=h2 i c hi;⟨x,hx,zeS hf⟩⟩
 ·exact(zeS h).toV
section
variable {P:Program} {N:Nam} {I:Inv} {c:Ctx} {ns:Nat} {A:Nat->Prop} {μ lam:Nat->Nat} {s:St} {a:Act} {w:World}
theorem zat (hI:I.Ok N) (R:Rel N c ns A μ lam s a w) {x:Operand} {y:Opd} {v:V} (hx:opd I x=some y) (hv:evl N.G s y=some v):
 zbl w A N.nm μ s.heap (a.eval x) v:=by
 cases x with
 | tmp t=>
   simp only[opd,zA]at hx;subst hx;have he:=R.env t;simp only[evl]at hv;split at hv<;>first | (simp at hv;done) | skip
   simp only[zA]at hv;subst hv
   exact he
 | const v0=>
   simp only[opd,zE]at hx;obtain⟨x0,h0,rfl⟩:=hx;simp only[evl,zA]at hv;subst hv
   exact zor h0
 | global g=>
   simp only[opd,zE]at hx;obtain⟨k,h0,rfl⟩:=hx;simp only[evl,zA]at hv;subst hv;obtain⟨rfl,Az,Bv⟩:=hI.g g k h0;rw[<- Bv]at Az⊢
   have hA:A (N.gm k):=by
    cases hG:N.GL k with
    | nil=>exact absurd hG Az
    | cons x l=>exact(R.glob k 0 x (by simp[hG])).1
   show RepC w A N.nm μ s.heap _ _;refine .t (.ip (N.gm k) 0 (N.GL k) (fun j=>(w.cell? ⟨N.gm k,0+j,none⟩).getD undef) hA ?_ ?_)
   ·intro j x hj;obtain⟨_,_,v,hv,_⟩:=R.glob k j x hj;simp[hv]
   ·intro j x hj;obtain⟨_,_,v,hv,hr⟩:=R.glob k j x hj
    simpa[hv]using hr
 | func f=>
   simp only[opd,zE]at hx;obtain⟨k,h0,rfl⟩:=hx;simp only[evl,zA]at hv;subst hv;have:=hI.f f k h0;subst this;show RepC w A N.nm μ s.heap _ _;exact .t (.fn k [] [] #[] #[] (fun _=>undef) (fun _=>undef) rfl rfl (by simp) (by simp) (by simp) (by simp))
theorem zio (R:Rel N c ns A μ lam s a w) {x:Operand} {y:Opd} {b o:Nat} {cs:List V} (hx:opd I x=some y) (hr:zd8 s y=some (b,o)) (hb:s.loc b=some cs):
 a.eval x= .pointer (some ⟨lam b,o,none⟩):=by
 cases x with
 | tmp t=>
   simp only[opd,zA]at hx;subst hx;simp only[zd8]at hr;split at hr
   ·rename_i r CI;simp only[zA]at hr;subst hr;exact(R.adr t b o CI).2.2
   ·split at hr<;>first | (simp at hr;done) | skip
    simp only[zA,Prod.mk.injEq]at hr;obtain⟨rfl,rfl⟩:=hr
    exact(R.loc t cs hb).1
 | const v0=>
   simp only[opd,zE]at hx;obtain⟨_,_,rfl⟩:=hx
   simp[zd8]at hr
 | global g=>
   simp only[opd,zE]at hx;obtain⟨_,_,rfl⟩:=hx
   simp[zd8]at hr
 | func f=>
   simp only[opd,zE]at hx;obtain⟨_,_,rfl⟩:=hx;simp[zd8]at hr
theorem zc4 (hI:I.Ok N) (R:Rel N c ns A μ lam s a w) {x:Operand} {y:Opd} {n:Int} (hx:opd I x=some y) (hv:zex N.G s y=some n):
 ∃k,a.eval x= .int k n:=by
 unfold zex at hv;split at hv<;>first | (simp at hv;done) | skip
 rename_i k m he;simp only[zA]at hv;subst hv;exact⟨_,(zat hI R hx he).int_inv⟩
theorem zhc (hI:I.Ok N) (R:Rel N c ns A μ lam s a w) {x:Operand} {y:Opd} {b:Bool} (hx:opd I x=some y) (hv:zd5 N.G s y=some b):
 a.eval x= .bool b:=by
 unfold zd5 at hv;split at hv<;>first | (simp at hv;done) | skip
 rename_i m he;simp only[zA]at hv;subst hv;exact(zat hI R hx he).bool_inv
end
theorem zgP {P:Program} {w:World} {t:TypeId} {i:TypeInfo} (h:P.info? t=some i):(typeInfo t).run P w= .ok i w:=by
 simp[typeInfo,h]
theorem zaO {P:Program} {w:World} {t:TypeId} {i:TypeInfo} (h:P.info? t=some i):(Go.sizeOf t).run P w= .ok i.size w:=by
 simp[Go.sizeOf,zgP h]
theorem zau {P:Program} {w:World} {t:TypeId} {d:TypeDesc} (h:P.underlying t=some d):(underlying t).run P w= .ok d w:=by
 simp[underlying,h]
theorem zbr {P:Program} {t:TypeId} {ag:Bool} {n:Nat} (h:typ P t=some (ag,n)):
 ∃i,P.info? t=some i/\i.size=n/\(ag=false->n=1)/\ ∀w,(isAgg t).run P w= .ok ag w:=by
 unfold typ at h;split at h
 ·rename_i i fs h1 h2;simp only[zA,Prod.mk.injEq]at h;obtain⟨rfl,rfl⟩:=h;exact⟨i,h1,rfl,by simp,fun w=>by simp[isAgg,zau h2]⟩
 ·rename_i i l e h1 h2;simp only[zA,Prod.mk.injEq]at h;obtain⟨rfl,rfl⟩:=h;exact⟨i,h1,rfl,by simp,fun w=>by simp[isAgg,zau h2]⟩
 ·rename_i i d h2 h3 h1 h4;split at h
  ·rename_i hs;simp only[zA,Prod.mk.injEq]at h;obtain⟨rfl,rfl⟩:=h;refine⟨i,h1,hs,by simp,fun w=> ?_⟩;simp only[isAgg,Sem.run_bind,zau h4,Result.andThen_ok];cases d<;>simp_all
  ·simp at h
 ·simp at h
def zgJ (ag:Bool) (vs:List Value):Value:=if ag then .agg vs.toArray else vs.headD undef
theorem zdZ {P:Program} {w:World} {t:TypeId} {ag:Bool} {n:Nat} (h:typ P t=some (ag,n)) (r off:Nat) (vs:List Value) (hl:vs.length=n)
 (hv: ∀(j:Nat) (v:Value),vs[j]? =some v->w.cell? ⟨r,off+j,none⟩=some v):(loadVar t ⟨r,off,none⟩).run P w= .ok (zgJ ag vs) w:=by
 obtain⟨i,h1,rfl,h3,h4⟩:=zbr h
 cases ag with
 | true=>
   have Ee:=run_loadCells_list (P:=P) (w:=w) ⟨r,off,none⟩ vs (fun j v hj=>by rw[zcL];exact hv j v hj);rw[hl]at Ee
   simp[loadVar,h4 w,zaO h1,Ee,zgJ]
 | false=>
   have hn:vs.length=1:=by rw[hl,h3 rfl]
   match vs,hn with
   | [v],_=>
     have:=hv 0 v rfl;simp only[Nat.add_zero]at this;simp[loadVar,h4 w,this,zgJ]
section
variable {w:World} {A:Nat->Prop} {nm μ:Nat->Nat} {H:Nat->Option O}
theorem zfk.rd {vs:List Value} {cs r:List V} {off n:Nat} (h:zfk w A nm μ H vs cs) (hr:rd cs off n=some r):
 zfk w A nm μ H ((vs.drop off).take n) r/\off+n<=vs.length/\r.length=n:=by
 unfold Rg.rd at hr;split at hr
 ·rename_i A5;simp only[zA]at hr;subst hr;refine⟨⟨by simp[h.1],fun i c hi=> ?_⟩,by rw[h.1];exact A5,by simp;omega⟩;simp only[zO,List.getElem?_drop]at hi⊢;split at hi
  ·rename_i Aj;obtain⟨v,hv,Ae⟩:=h.2 _ c hi;exact⟨v,by simp[Aj,hv],Ae⟩
  ·simp at hi
 ·simp at hr
theorem zfk.wrap1 {vs:List Value} {r:List V} {ag:Bool} {v:V} (h:zfk w A nm μ H vs r) (hw:zb9 ag r=some v):zcl w A nm μ H (zgJ ag vs) v:=by
 cases ag with
 | true=>
   simp only[zb9,if_true,zA]at hw;subst hw
   exact⟨_,rfl,by simpa using h⟩
 | false=>
   simp only[zb9,zG,if_false]at hw;split at hw
   ·simp only[zA]at hw;subst hw;rename_i x;obtain⟨u,hu,hr⟩:=h.2 0 x rfl
    match vs,h.1,hu with
    | [u'],_,hu=>simp at hu;subst hu;simpa[zgJ]using hr.toV1
   ·simp at hw
theorem zfk.wrap {vs:List Value} {r:List V} {ag:Bool} {v:V} (h:zfk w A nm μ H vs r) (hw:zb9 ag r=some v):zbl w A nm μ H (zgJ ag vs) v:=(h.wrap1 hw).toV
end
end Rg
end
section
namespace Rg
open Go
def Plain (e:Eff):Prop:=e.adr=none/\e.loc=none/\e.wloc=none/\e.hp=[]
def zdb (N:Nam) (A:Nat->Prop) (μ:Nat->Nat) (s:St) (w:World) (r:Result Value) (e:Eff):Prop:=
 ∃v,r= .ok v w/\zbl w A N.nm μ s.heap v e.val/\Plain e
section
variable {P:Program} {N:Nam} {I:Inv} {c:Ctx} {ns p:Nat} {A:Nat->Prop} {μ lam:Nat->Nat} {s:St} {a:Act} {w:World} {e:Eff}
theorem zbl.ip_inv {w:World} {A:Nat->Prop} {nm μ:Nat->Nat} {H:Nat->Option O} {v:Value} {cs:List T} (h:zbl w A nm μ H v (.t (.ip cs))):
 ∃(r off:Nat) (vf:Nat->Value),v= .pointer (some ⟨r,off,none⟩)/\A r/\(∀(j:Nat) (x:T),cs[j]? =some x->w.cell? ⟨r,off+j,none⟩=some (vf j))/\(∀(j:Nat) (x:T),cs[j]? =some x->RepT w A nm (vf j) x):=by
 cases h.t_inv with
 | ip r off _ vf hA hv hr=>exact⟨r,off,vf,rfl,hA,hv,hr⟩
theorem zbl.mp_inv {w:World} {A:Nat->Prop} {nm μ:Nat->Nat} {H:Nat->Option O} {v:Value} {k i off sz:Nat} {rs:List (List V)} {frz:Bool}
 (h:zbl w A nm μ H v (.mp k i off)) (hk:H k=some (.rows sz rs frz)):v= .pointer (some ⟨μ k,i*sz+off,none⟩)/\i<rs.length:=by
 cases(h:RepC w A nm μ H v (.mp k i off))with
 | mp _ _ _ sz' rs' frz' Ah hi=>rw[hk]at Ah;cases Ah;exact⟨rfl,hi⟩
 | mb _ _ Ah=>rw[hk]at Ah;cases Ah
 | dmp _ _ _ Ah=>rw[hk]at Ah;cases Ah
theorem zbl.agg_inv {w:World} {A:Nat->Prop} {nm μ:Nat->Nat} {H:Nat->Option O} {v:Value} {cs:List V} (h:zbl w A nm μ H v (.agg cs)):
 ∃vs,v= .agg vs/\zfk w A nm μ H vs.toList cs:=h
theorem zmt (R:Rel N c ns A μ lam s a w) {k sz i:Nat} {rs:List (List V)} {frz:Bool} {row:List V} (hk:s.heap k=some (.rows sz rs frz)) (Ap:rs[i]? =some row):
 ∃vs:List Value,zfk w A N.nm μ s.heap vs row/\ ∀(j:Nat) (v:Value),vs[j]? =some v->w.cell? ⟨μ k,i*sz+j,none⟩=some v:=by
 obtain⟨cc,e0,z,h1,h2,h3,h4,h5⟩:=R.heap k _ hk;have hi:i<rs.length:=(zH.1 Ap).1;have Bb:=h4 i row Ap
 have A5:i*sz+sz<=cc.size:=by
  have:(i+1)*sz<=rs.length*sz:=Nat.mul_le_mul_right _ hi;rw[Nat.succ_mul]at this;omega
 refine⟨(cc.toList.drop (i*sz)).take sz,⟨by simp;omega,fun j x hj=> ?_⟩,fun j v hj=> ?_⟩
 ·have AN:j<row.length:=(zH.1 hj).1;obtain⟨v,hv,hr⟩:=h5 i row j x Ap hj;refine⟨v,?_,hr⟩;simp only[zO,List.getElem?_drop,Array.getElem?_toList];rw[if_pos (by omega)];exact hv
 ·simp only[zO,List.getElem?_drop,Array.getElem?_toList]at hj;split at hj
  ·simp[World.cell?,h1,hj]
  ·simp at hj
theorem zCu (hI:I.Ok N) (R:Rel N c ns A μ lam s a w) {x:Operand} {y:Opd} (hx:opd I x=some y) (he:zaj N.G p s (.mv y)=some e):
 zbl w A N.nm μ s.heap (a.eval x) e.val/\Plain e:=by
 simp only[zaj,zC,zB,zA]at he;obtain⟨v,hv,rfl⟩:=he;exact⟨zat hI R hx hv,rfl,rfl,rfl,rfl⟩
theorem zxW (hI:I.Ok N) (R:Rel N c ns A μ lam s a w) {xc xa xb:Operand} {yc ya yb:Opd} (hc:opd I xc=some yc) (ha:opd I xa=some ya) (hb:opd I xb=some yb)
 (he:zaj N.G p s (.pick yc ya yb)=some e): ∃t,a.eval xc= .bool t/\zbl w A N.nm μ s.heap (if t then a.eval xa else a.eval xb) e.val/\Plain e:=by
 simp only[zaj,zC,zB,zA]at he;obtain⟨t,ht,v,hv,rfl⟩:=he;refine⟨t,zhc hI R hc ht,?_,rfl,rfl,rfl,rfl⟩;cases t
 ·exact zat hI R hb hv
 ·exact zat hI R ha hv
theorem zwj (R:Rel N c ns A μ lam s a w) {x:Operand} {y:Opd} {t:TypeId} {ag:Bool} {n:Nat} (hx:opd I x=some y) (ht:typ P t=some (ag,n))
 (he:zaj N.G p s (.loadL ag n y)=some e):zdb N A μ s w ((Instr.loadAt t (a.eval x)).run P w) e:=by
 simp only[zaj,zC,zB,zA,Prod.exists]at he;obtain⟨b,o,hr,cs,hb,r,BK,v,hw,rfl⟩:=he;obtain⟨_,cc,e0,h1,h2⟩:=R.loc b cs hb;obtain⟨h3,h4,h5⟩:=h2.rd BK;refine⟨zgJ ag ((cc.toList.drop o).take n),?_,h3.wrap hw,rfl,rfl,rfl,rfl⟩
 have hl:=zdZ (w:=w) ht (lam b) o ((cc.toList.drop o).take n) (by simp at h4⊢;omega) (fun j v hj=>by
  simp only[zO,List.getElem?_drop,Array.getElem?_toList]at hj;split at hj
  ·simp[World.cell?,h1,hj]
  ·simp at hj)
 simp[Instr.loadAt,zio R hx hr hb,Instr.sureAddr,hl]
theorem zxX (hI:I.Ok N) (R:Rel N c ns A μ lam s a w) {x:Operand} {y:Opd} {t:TypeId} {ag:Bool} {n:Nat} (hx:opd I x=some y) (ht:typ P t=some (ag,n))
 (he:zaj N.G p s (.load ag n y)=some e):zdb N A μ s w ((Instr.loadAt t (a.eval x)).run P w) e:=by
 simp only[zaj,zC,zB]at he;obtain⟨u,hu,he⟩:=he;have Ae:=zat hI R hx hu;split at he
 ·rename_i k i off;split at he
  ·rename_i sz rs frz hk;simp only[zB,zA]at he;obtain⟨row,Ap,r,BK,v,hw,rfl⟩:=he;obtain⟨hv,_⟩:=zbl.mp_inv Ae hk;obtain⟨vs,h1,h2⟩:=zmt R hk Ap;obtain⟨h3,h4,h5⟩:=h1.rd BK;refine⟨zgJ ag ((vs.drop off).take n),?_,h3.wrap hw,rfl,rfl,rfl,rfl⟩
   have hl:=zdZ (w:=w) ht (μ k) (i*sz+off) ((vs.drop off).take n) (by simp;omega) (fun j v hj=>by
    simp only[zO,List.getElem?_drop]at hj;split at hj
    ·rw[Nat.add_assoc];exact h2 _ v hj
    ·simp at hj)
   simp[Instr.loadAt,hv,Instr.sureAddr,hl]
  ·simp at he
 ·rename_i cs;simp only[zB,zA]at he;obtain⟨r,BK,v,hw,rfl⟩:=he;obtain⟨r0,off,vf,hv,hA,h1,h2⟩:=zbl.ip_inv Ae
  have h3:zfk w A N.nm μ s.heap ((List.range cs.length).map vf) (cs.map V.t):=by
   refine⟨by simp,fun j x hj=> ?_⟩;simp only[zJ,zE]at hj;obtain⟨y,hy,rfl⟩:=hj;have AN:j<cs.length:=(zH.1 hy).1;exact⟨vf j,by simp[AN],.t (h2 j y hy)⟩
  have Nl:rd (cs.map V.t) 0 n=some (r.map V.t):=by
   unfold rd at BK⊢;split at BK
   ·rename_i A5;simp only[zA]at BK;subst BK;rw[if_pos (by simpa using A5)];simp
   ·simp at BK
  obtain⟨h4,h5,h6⟩:=h3.rd Nl;refine⟨zgJ ag ((((List.range cs.length).map vf).drop 0).take n),?_,h4.wrap hw,rfl,rfl,rfl,rfl⟩
  have hl:=zdZ (w:=w) ht r0 off ((((List.range cs.length).map vf).drop 0).take n) (by simp at h5⊢;omega) (fun j v hj=>by
   simp only[List.drop_zero,zO]at hj;split at hj
   ·rename_i Kq;simp only[zJ,zE]at hj;obtain⟨j',Dp,rfl⟩:=hj
    have:j<cs.length:=by
     have:=(zH.1 Dp).1;simpa using this
    simp only[List.getElem?_range this,zA]at Dp;subst Dp;exact h1 j _ (zI this)
   ·simp at hj)
  simp only[Instr.loadAt,hv,Instr.sureAddr,Sem.run_bind,Sem.run_pure,Result.andThen_ok,hl]
 ·simp at he
end
end Rg
end
section
namespace Rg
open Go
theorem zwn {P:Program} {w:World} {A:Nat->Prop} {nm:Nat->Nat} {op:BinOp} {x y r:T} {v u:Value} (h:zvs op x y=some r) (hx:RepT w A nm v x) (hy:RepT w A nm u y)
 (t:TypeId) (xo yo:Operand): ∃z,(do eqGuard op t xo yo v u;binOp op t v u:Sem Value).run P w= .ok z w/\RepT w A nm z r:=by
 cases hx<;>(try(simp[zvs]at h;done))<;>cases hy<;>(try(simp[zvs]at h;done))
 ·rename_i k m k' n;simp only[zvs]at h;cases op<;>simp only at h
  case shl=>
   split at h
   ·simp at h
   ·rename_i hn;simp only[zA]at h;subst h;exact⟨_,by simp[eqGuard,binOp,Op.shift,hn],.int _ _⟩
  case shr=>
   split at h
   ·simp at h
   ·rename_i hn;simp only[zA]at h;subst h;exact⟨_,by simp[eqGuard,binOp,Op.shift,hn],.int _ _⟩
  case quo=>
   split at h
   ·rename_i hk;subst hk;split at h
    ·simp at h
    ·rename_i hn;simp only[zA]at h;subst h;exact⟨_,by simp[eqGuard,binOp,Op.intDiv,hn],.int _ _⟩
   ·simp at h
  case rem=>
   split at h
   ·rename_i hk;subst hk;split at h
    ·simp at h
    ·rename_i hn;simp only[zA]at h;subst h;exact⟨_,by simp[eqGuard,binOp,Op.intDiv,hn],.int _ _⟩
   ·simp at h
  case add | sub | mul=>
   split at h
   ·rename_i hk;subst hk;simp only[zA]at h;subst h;exact⟨_,by simp[eqGuard,binOp,Op.intArith],.int _ _⟩
   ·simp at h
  case and | or | xor | andNot=>
   split at h
   ·rename_i hk;subst hk;simp only[zA]at h;subst h;refine⟨_,?_,.int _ _⟩;simp only[eqGuard,binOp,Op.intBits];simp
   ·simp at h
  all_goals
   split at h
   ·rename_i hk;subst hk;simp only[zA]at h;subst h;exact⟨_,by simp[eqGuard,binOp,Op.intCmp],.bool _⟩
   ·simp at h
 ·rename_i b c;simp only[zvs]at h;cases op<;>simp only at h<;>(try(simp at h;done))
  case add=>
   split at h
   ·rename_i A5;simp only[zA]at h;subst h;refine⟨_,?_,.str _⟩
    have : ¬((b.size+c.size:Nat):Int)>IntKind.i64.max:=by
     have:IntKind.i64.max=9223372036854775807:=by decide
     omega
    simp only[eqGuard,binOp,Op.stringOp];simp;omega
   ·simp at h
  all_goals
   simp only[zA]at h;subst h;exact⟨_,by simp[eqGuard,binOp,Op.stringOp],.bool _⟩
section
variable {P:Program} {N:Nam} {I:Inv} {c:Ctx} {ns p:Nat} {A:Nat->Prop} {μ lam:Nat->Nat} {s:St} {a:Act} {w:World} {e:Eff}
theorem zx9 (hI:I.Ok N) (R:Rel N c ns A μ lam s a w) {x y:Operand} {x' y':Opd} {op:BinOp} (hx:opd I x=some x') (hy:opd I y=some y')
 (he:zaj N.G p s (.bin op x' y')=some e) (t:TypeId):
 zdb N A μ s w ((do eqGuard op t x y (a.eval x) (a.eval y);binOp op t (a.eval x) (a.eval y):Sem Value).run P w) e:=by
 simp only[zaj,zC,zB]at he;obtain⟨u,hu,v,hv,he⟩:=he;split at he
 ·rename_i b d;simp only[zB,zA]at he;obtain⟨r,hr,rfl⟩:=he;obtain⟨z,hz,Ae⟩:=zwn (P:=P) hr (zat hI R hx hu).t_inv (zat hI R hy hv).t_inv t x y;exact⟨z,hz,(RepC.t Ae).toV,rfl,rfl,rfl,rfl⟩
 ·simp at he
theorem zCt (hI:I.Ok N) (R:Rel N c ns A μ lam s a w) {x y:Operand} {x' y':Opd} {mn:Bool} (hx:opd I x=some x') (hy:opd I y=some y')
 (he:zaj N.G p s (.mx mn x' y')=some e) (ts:Array TypeId) (t:TypeId):
 zdb N A μ s w ((if mn then Builtin.min_ ts t #[a.eval x,a.eval y]else Builtin.max_ ts t #[a.eval x,a.eval y]:Sem Value).run P w) e:=by
 simp only[zaj,zC,zB]at he;obtain⟨u,hu,v,hv,he⟩:=he;split at he
 ·rename_i b d;simp only[zB,zA]at he;obtain⟨r,hr,rfl⟩:=he;have h1:=(zat hI R hx hu).t_inv;have h2:=(zat hI R hy hv).t_inv;unfold mxT at hr;split at hr
  ·rename_i k m k' m';split at hr
   ·rename_i hk;subst hk;simp only[zA]at hr;subst hr
    generalize a.eval x=vx at h1
    generalize a.eval y=vy at h2
    cases h1;cases h2;cases mn
    ·exact⟨_,by simp[Builtin.max_,Builtin.max2],(RepC.t (.int _ _)).toV,rfl,rfl,rfl,rfl⟩
    ·exact⟨_,by simp[Builtin.min_,Builtin.min2],(RepC.t (.int _ _)).toV,rfl,rfl,rfl,rfl⟩
   ·simp at hr
  ·simp at hr
 ·simp at he
theorem zx2 (hI:I.Ok N) (R:Rel N c ns A μ lam s a w) {x y:Operand} {x' y':Opd} {op:BinOp} {neg:Bool} (hx:opd I x=some x') (hy:opd I y=some y')
 (he:zaj N.G p s (.eqb neg x' y')=some e) {t:TypeId} (ht:P.underlying t=some .bool) (Ao:op=if neg then .neq else .eql):
 zdb N A μ s w ((do eqGuard op t x y (a.eval x) (a.eval y);binOp op t (a.eval x) (a.eval y):Sem Value).run P w) e:=by
 simp only[zaj,zC,zB,zA]at he;obtain⟨b,hb,d,hd,rfl⟩:=he;rw[zhc hI R hx hb,zhc hI R hy hd];subst Ao;refine⟨.bool ((b==d) != neg),?_,(RepC.t (.bool _)).toV,rfl,rfl,rfl,rfl⟩;have h1: ∀n,(Op.equalIn (n+1) t (.bool b) (.bool d)).run P w= .ok (b==d) w:=fun n=>by simp[Op.equalIn,zau ht]
 have h2:(Op.equal t (.bool b) (.bool d)).run P w= .ok (b==d) w:=h1 9999;cases neg<;>simp[eqGuard,binOp,h2]
theorem zhM {fs:List Field} {xs ys:Array Value} {as bs:List V} {i:Nat} {ks:List Nat} {r:Bool} {μ:Nat->Nat} {H:Nat->Option O} {nm:Nat->Nat} (d:Nat)
 (hf:zbu P i fs=some ks) (hx:zfk w A nm μ H xs.toList as) (hy:zfk w A nm μ H ys.toList bs)
 (he:zbh ks (as.drop i) (bs.drop i)=some r):(Op.eqFields (d+1) xs ys fs).run P w= .ok r w:=by
 induction fs generalizing i r ks with
 | nil=>
   simp only[zbu,zA]at hf;subst hf;unfold zbh at he
   split at he<;>simp_all [Op.eqFields]
 | cons f fs ih=>
   simp only[zbu,zC,zB]at hf;obtain⟨k,hk,ks',Dn,hf⟩:=hf;split at hf
   ·rename_i hc;obtain⟨hn,ho,DV⟩:=hc;simp only[zA]at hf;subst hf;unfold zbh at he;split at he
    ·simp_all
    ·rename_i n ns xa xs' ya ys' e1 e2 e3;cases e1;simp only[zC,zB,zA]at he;obtain⟨q,hq,q',Eu,rfl⟩:=he;have ea:as[i]? =some xa:=by have:=congrArg (·[0]?) e2;simpa using this
     have eb:bs[i]? =some ya:=by have:=congrArg (·[0]?) e3;simpa using this
     have ea':as.drop (i+1)=xs':=by have:=congrArg List.tail e2;simpa using this
     have eb':bs.drop (i+1)=ys':=by have:=congrArg List.tail e3;simpa using this
     obtain⟨v,hv,E5⟩:=hx.2 i _ ea;obtain⟨u,hu,DU⟩:=hy.2 i _ eb;obtain⟨inf,g1,g2,g3,g4⟩:=zbr DV;have ih':=ih Dn (by rw[ea',eb'];exact Eu)
     have Jh:(part f.type xs f.offset).run P w= .ok v w:=by
      simp only[Array.getElem?_toList]at hv;simp[part,g4 w,ho,hv]
     have KO:(part f.type ys f.offset).run P w= .ok u w:=by
      simp only[Array.getElem?_toList]at hu;simp[part,g4 w,ho,hu]
     have Fq:(Op.equalIn (d+1) f.type v u).run P w= .ok q w:=by
      unfold zg6 at hq;split at hq
      ·split at hq
       ·rename_i AB;obtain⟨rfl,rfl⟩:=AB;simp only[zA]at hq;subst hq;cases E5.toV.int_inv;cases DU.toV.int_inv;unfold zdA at hk;split at hk<;>simp at hk
        rename_i A6;simp[Op.equalIn,zau A6]
       ·simp at hq
      ·split at hq
       ·rename_i AB;subst AB;simp only[zA]at hq;subst hq;cases E5.toV.bool_inv;cases DU.toV.bool_inv;unfold zdA at hk;split at hk<;>simp at hk
        rename_i A6;simp[Op.equalIn,zau A6]
       ·simp at hq
      ·split at hq
       ·rename_i AB;subst AB;simp only[zA]at hq;subst hq;cases E5.toV.str_inv;cases DU.toV.str_inv;unfold zdA at hk;split at hk<;>simp at hk
        rename_i A6;simp[Op.equalIn,zau A6,beq_toListBytes]
       ·simp at hq
      ·simp at hq
     simp only[Op.eqFields,ne_eq,hn,not_false_eq_true,if_true,Sem.run_bind,Jh,KO,Result.andThen_ok,Fq];cases q
     ·simp
     ·simpa using ih'
    ·simp at he
   ·simp at hf
end
end Rg
end
section
namespace Rg
open Go
section
variable {P:Program} {N:Nam} {I:Inv} {c:Ctx} {ns p:Nat} {A:Nat->Prop} {μ lam:Nat->Nat} {s:St} {a:Act} {w:World} {e:Eff}
theorem zC2 (hI:I.Ok N) (R:Rel N c ns A μ lam s a w) {x:Operand} {x':Opd} {op:UnOp} (hx:opd I x=some x') (he:zaj N.G p s (.un op x')=some e):
 zdb N A μ s w ((Op.unary op (a.eval x)).run P w) e:=by
 simp only[zaj,zC,zB]at he;obtain⟨u,hu,he⟩:=he;split at he
 ·rename_i b;simp only[zB,zA]at he;obtain⟨r,hr,rfl⟩:=he;have Ae:=(zat hI R hx hu).t_inv
  generalize a.eval x=v at Ae
  unfold unT at hr;split at hr<;>simp only[zA,reduceCtorEq]at hr<;>subst hr<;>cases Ae
  ·exact⟨_,by simp[Op.unary,Op.intArith],(RepC.t (.int _ _)).toV,rfl,rfl,rfl,rfl⟩
  ·refine⟨_,?_,(RepC.t (.int _ _)).toV,rfl,rfl,rfl,rfl⟩;simp only[Op.unary,Op.intBits];simp
  ·exact⟨_,by simp[Op.unary],(RepC.t (.bool _)).toV,rfl,rfl,rfl,rfl⟩
 ·simp at he
theorem zx4 (hI:I.Ok N) (R:Rel N c ns A μ lam s a w) {x:Operand} {x':Opd} {k k0:IntKind} {src dst:TypeId} (hx:opd I x=some x')
 (he:zaj N.G p s (.conv k x')=some e) (h1:P.underlying src=some (.int k0)) (h2:P.underlying dst=some (.int k)):
 zdb N A μ s w ((convert src dst (a.eval x)).run P w) e:=by
 simp only[zaj,zC,zB,zA]at he;obtain⟨n,hn,rfl⟩:=he;obtain⟨j,hj⟩:=zc4 hI R hx hn;exact⟨_,by simp[convert,zau h1,zau h2,hj,Conv.intToInt],(RepC.t (.int _ _)).toV,rfl,rfl,rfl,rfl⟩
theorem zt1 (hI:I.Ok N) (R:Rel N c ns A μ lam s a w) {x:Operand} {x':Opd} (hx:opd I x=some x') (he:zaj N.G p s (.nilchk x')=some e) (o:Oper) (ho:o.op= .nilCheck x):
 ∃v,(execOp a.eval o).run P w= .ok (.value v) w/\zbl w A N.nm μ s.heap v e.val/\Plain e:=by
 simp only[zaj,zC,zB]at he;obtain⟨u,hu,he⟩:=he;have Ae:=zat hI R hx hu
 have k1: ∀ad,a.eval x= .pointer (some ad)->(execOp a.eval o).run P w= .ok (.value (a.eval x)) w:=by
  intro ad h;simp[execOp,ho,h]
 have k2: ∀f b d,a.eval x= .func (.func f) b d->(execOp a.eval o).run P w= .ok (.value (a.eval x)) w:=by
  intro f b d h;simp[execOp,ho,h]
 split at he
 ·rename_i k i off;split at he<;>simp only[zA,reduceCtorEq]at he
  rename_i hk;subst he;obtain⟨hv,_⟩:=Ae.mp_inv hk;exact⟨_,k1 _ hv,Ae,rfl,rfl,rfl,rfl⟩
 ·simp only[zA]at he;subst he;obtain⟨r,off,vf,hv,_⟩:=zbl.ip_inv Ae;exact⟨_,k1 _ hv,Ae,rfl,rfl,rfl,rfl⟩
 ·simp only[zA]at he;subst he;refine⟨_,?_,Ae,rfl,rfl,rfl,rfl⟩
  generalize hv:a.eval x=v at Ae
  cases(Ae:RepC w A N.nm μ s.heap v _)with
  | fn f _ _ va vb=>rw[<- hv];exact k2 _ _ _ hv
 ·simp only[zA]at he;subst he;refine⟨_,?_,Ae,rfl,rfl,rfl,rfl⟩
  generalize hv:a.eval x=v at Ae
  cases Ae.t_inv with
  | fn f _ _ va vb=>rw[<- hv];exact k2 _ _ _ hv
 ·simp only[zA]at he;subst he;refine⟨_,?_,Ae,rfl,rfl,rfl,rfl⟩
  generalize hv:a.eval x=v at Ae
  cases Ae.t_inv with
  | fa f c vc=>rw[<- hv];exact k2 _ _ _ hv
 ·simp at he
theorem zgu {t:TypeId} {fields:Array Field} {f:Field} {i n r off:Nat} {ag:Bool} {v:Value}
 (ht:P.underlying t=some (.struct fields)) (hf:fields[i]? =some f) (A6:typ P f.type=some (ag,n)) (hn:0<n) (hv:v= .pointer (some ⟨r,off,none⟩)):
 (Instr.fieldAt t v i).run P w= .ok (.pointer (some ⟨r,off+f.offset,none⟩)) w:=by
 obtain⟨inf,g1,g2,g3,g4⟩:=zbr A6;have:inf.size≠0:=by omega
 simp[Instr.fieldAt,zau ht,hf,hv,Instr.sureAddr,fieldPlace,zaO g1,this,zcL]
theorem zt5 (R:Rel N c ns A μ lam s a w) {x:Operand} {x':Opd} {t:TypeId} {fields:Array Field} {f:Field} {i n:Nat} {ag:Bool} (hx:opd I x=some x')
 (ht:P.underlying t=some (.struct fields)) (hf:fields[i]? =some f) (A6:typ P f.type=some (ag,n)) (hn:0<n)
 (he:zaj N.G p s (.faddrL f.offset x')=some e):
 ∃v,(Instr.fieldAt t (a.eval x) i).run P w= .ok v w/\zbl w A N.nm μ s.heap v e.val/\e.loc=none/\e.wloc=none/\e.hp=[]/\
  ∀b o,e.adr=some (b,o)->(s.loc b).isSome=true/\v= .pointer (some ⟨lam b,o,none⟩):=by
 simp only[zaj,zC,zB,zA,Prod.exists]at he;obtain⟨b,o,hr,cs,hb,rfl⟩:=he;have hv:=zio R hx hr hb;refine⟨_,zgu ht hf A6 hn hv,trivial,rfl,rfl,rfl,?_⟩;intro b' o' h;simp only[zA,Prod.mk.injEq]at h;obtain⟨rfl,rfl⟩:=h;exact⟨by rw[hb];rfl,rfl⟩
theorem zsr {r off:Nat} {cs:List T} {vf:Nat->Value} {nm:Nat->Nat} {H:Nat->Option O} (n:Nat) (hA:A r) (hv: ∀(j:Nat) (x:T),cs[j]? =some x->w.cell? ⟨r,off+j,none⟩=some (vf j))
 (hr: ∀(j:Nat) (x:T),cs[j]? =some x->RepT w A nm (vf j) x):zbl w A nm μ H (.pointer (some ⟨r,off+n,none⟩)) (.t (.ip (cs.drop n))):=
 (RepC.t (.ip r (off+n) (cs.drop n) (fun j=>vf (n+j)) hA (fun j x hj=>by rw[Nat.add_assoc];exact hv _ x (by simpa using hj)) (fun j x hj=>hr _ x (by simpa using hj)))).toV
theorem zwl (hI:I.Ok N) (R:Rel N c ns A μ lam s a w) {x:Operand} {x':Opd} {t:TypeId} {fields:Array Field} {f:Field} {i n:Nat} {ag:Bool} (hx:opd I x=some x')
 (ht:P.underlying t=some (.struct fields)) (hf:fields[i]? =some f) (A6:typ P f.type=some (ag,n)) (hn:0<n)
 (he:zaj N.G p s (.faddr f.offset x')=some e):zdb N A μ s w ((Instr.fieldAt t (a.eval x) i).run P w) e:=by
 simp only[zaj,zC,zB]at he;obtain⟨u,hu,he⟩:=he;have Ae:=zat hI R hx hu;split at he
 ·rename_i k i' off;split at he<;>simp only[zA,reduceCtorEq]at he
  rename_i sz rs frz hk;subst he;obtain⟨hv,hi⟩:=Ae.mp_inv hk;refine⟨_,zgu ht hf A6 hn hv,?_,rfl,rfl,rfl,rfl⟩;rw[Nat.add_assoc];exact(RepC.mp k i' _ sz rs frz hk hi).toV
 ·simp only[zA]at he;subst he;obtain⟨r,off,vf,hv,hA,h1,h2⟩:=zbl.ip_inv Ae;exact⟨_,zgu ht hf A6 hn hv,zsr _ hA h1 h2,rfl,rfl,rfl,rfl⟩
 ·simp at he
theorem zin {t:TypeId} {ag:Bool} {n off:Nat} {cs:Array Value} (h:typ P t=some (ag,n)) (A5:off+n<=cs.size):
 (part t cs off).run P w= .ok (zgJ ag ((cs.toList.drop off).take n)) w:=by
 obtain⟨inf,g1,g2,g3,g4⟩:=zbr h
 cases ag with
 | true=>
   simp only[part,Sem.run_bind,g4 w,Result.andThen_ok,if_true,zaO g1,Sem.run_pure,zgJ,g2]
   congr 2
   apply Array.ext'
   simp[Array.toList_extract,List.extract_eq_take_drop]
 | false=>
   have hn:=g3 rfl;subst hn;have Ad:off<cs.size:=by omega
   simp only[part,Sem.run_bind,g4 w,Result.andThen_ok,zG,if_false,Array.getElem?_eq_getElem Ad,Sem.run_pure,zgJ]
   congr 1
   rw[List.drop_eq_getElem_cons (by simpa using Ad)];simp
theorem zwk (hI:I.Ok N) (R:Rel N c ns A μ lam s a w) {x:Operand} {x':Opd} {t:TypeId} {fields:Array Field} {f:Field} {i n:Nat} {ag:Bool} (hx:opd I x=some x')
 (ht:P.underlying t=some (.struct fields)) (hf:fields[i]? =some f) (A6:typ P f.type=some (ag,n))
 (he:zaj N.G p s (.field ag f.offset n x')=some e):zdb N A μ s w ((Instr.field t (a.eval x) i).run P w) e:=by
 simp only[zaj,zC,zB]at he;obtain⟨u,hu,he⟩:=he;split at he
 ·rename_i cs;simp only[zB,zA]at he;obtain⟨r,hr,v,hw,rfl⟩:=he;obtain⟨vs,Au,hl⟩:=(zat hI R hx hu).agg_inv;obtain⟨h1,h2,h3⟩:=hl.rd hr;refine⟨_,?_,h1.wrap hw,rfl,rfl,rfl,rfl⟩;simp[Instr.field,zau ht,hf,Au,asAgg,zin (P:=P) (w:=w) A6 (by simpa using h2)]
 ·simp at he
theorem zx0 (hI:I.Ok N) (R:Rel N c ns A μ lam s a w) {x i:Operand} {x' i':Opd} {t el:TypeId} {len n:Nat} {ag:Bool} (hx:opd I x=some x') (hi:opd I i=some i')
 (ht:P.underlying t=some (.array len el)) (A6:typ P el=some (ag,n))
 (he:zaj N.G p s (.idxA ag len n x' i')=some e):zdb N A μ s w ((Instr.index t (a.eval x) (a.eval i)).run P w) e:=by
 simp only[zaj,zC,zB]at he;obtain⟨m,hm,u,hu,he⟩:=he;obtain⟨k,hk⟩:=zc4 hI R hi hm;split at he
 ·rename_i cs;split at he
  ·rename_i hb;simp only[zB,zA]at he;obtain⟨r,hr,v,hw,rfl⟩:=he;obtain⟨vs,Au,hl⟩:=(zat hI R hx hu).agg_inv;obtain⟨h1,h2,h3⟩:=hl.rd hr;obtain⟨inf,g1,g2,g3,g4⟩:=zbr A6;refine⟨_,?_,h1.wrap hw,rfl,rfl,rfl,rfl⟩;simp[Instr.index,hk,asIntOf,zau ht,Au,hb,zaO g1,g2,zin (P:=P) (w:=w) A6 (by simpa using h2)]
  ·simp at he
 ·simp at he
theorem zxZ (hI:I.Ok N) (R:Rel N c ns A μ lam s a w) {x i:Operand} {x' i':Opd} {t:TypeId} (hx:opd I x=some x') (hi:opd I i=some i')
 (ht:P.underlying t=some .string)
 (he:zaj N.G p s (.idxS x' i')=some e):zdb N A μ s w ((Instr.index t (a.eval x) (a.eval i)).run P w) e:=by
 simp only[zaj,zC,zB]at he;obtain⟨m,hm,u,hu,he⟩:=he;obtain⟨k,hk⟩:=zc4 hI R hi hm;split at he
 ·rename_i b;split at he
  ·rename_i hb;simp only[zB,zA]at he;obtain⟨r,hr,rfl⟩:=he;have hv:=(zat hI R hx hu).str_inv;refine⟨_,?_,(RepC.t (.int _ _)).toV,rfl,rfl,rfl,rfl⟩;simp[Instr.index,hk,asIntOf,zau ht,hv,hb,hr]
  ·simp at he
 ·simp at he
theorem zx1 (hI:I.Ok N) (R:Rel N c ns A μ lam s a w) {x:Operand} {x':Opd} {i:Nat} (hx:opd I x=some x')
 (he:zaj N.G p s (.extr x' i)=some e):zdb N A μ s w ((Instr.extract (a.eval x) i).run P w) e:=by
 simp only[zaj,zC,zB]at he;obtain⟨u,hu,he⟩:=he;split at he
 ·rename_i cs;simp only[zB,zA]at he;obtain⟨v,hv,rfl⟩:=he;obtain⟨vs,Au,hl,h1⟩:=zat hI R hx hu;obtain⟨z,hz,hr⟩:=h1 i v hv;refine⟨z,?_,hr.toV,rfl,rfl,rfl,rfl⟩;simp[Instr.extract,Au,hz]
 ·simp at he
theorem zbl.len_inv {w:World} {A:Nat->Prop} {nm μ:Nat->Nat} {s:St} {v:Value} {x:V} {n:Nat} (h:zbl w A nm μ s.heap v x) (hn:lenOf s x=some n):
 ∃ad cap,v= .slice ad n cap:=by
 unfold lenOf at hn;split at hn
 ·simp only[zA]at hn;subst hn;cases h.t_inv;exact⟨_,_,rfl⟩
 ·simp only[zA]at hn;subst hn;cases h.t_inv<;>exact⟨_,_,rfl⟩
 ·simp only[zA]at hn;subst hn;cases h.t_inv;exact⟨_,_,rfl⟩
 ·split at hn<;>simp only[zA,reduceCtorEq]at hn
  rename_i hk;subst hn
  cases(h:RepC w A nm μ s.heap v _)with
  | ms=>exact⟨_,_,rfl⟩
  | dms _ _ _ Ah=>rw[hk]at Ah;cases Ah
 ·simp at hn
theorem zBl (hI:I.Ok N) (R:Rel N c ns A μ lam s a w) {x:Operand} {x':Opd} {t el ty:TypeId} (hx:opd I x=some x') (ht:P.underlying t=some (.slice el))
 (he:zaj N.G p s (.len x')=some e):zdb N A μ s w ((Builtin.len_ #[t] ty #[a.eval x]).run P w) e:=by
 simp only[zaj,zC,zB,zA]at he;obtain⟨u,hu,n,hn,rfl⟩:=he;obtain⟨ad,cap,hv⟩:=(zat hI R hx hu).len_inv hn;refine⟨_,?_,(RepC.t (.int _ _)).toV,rfl,rfl,rfl,rfl⟩;simp[Builtin.len_,zau ht,hv,goInt]
theorem zxV (hI:I.Ok N) (R:Rel N c ns A μ lam s a w) {x:Operand} {x':Opd} {t ty:TypeId} (hx:opd I x=some x') (ht:P.underlying t=some .string)
 (he:zaj N.G p s (.slen x')=some e):zdb N A μ s w ((Builtin.len_ #[t] ty #[a.eval x]).run P w) e:=by
 simp only[zaj,zC,zB]at he;obtain⟨u,hu,he⟩:=he;split at he
 ·simp only[zA]at he;subst he;have hv:=(zat hI R hx hu).str_inv;refine⟨_,?_,(RepC.t (.int _ _)).toV,rfl,rfl,rfl,rfl⟩;simp[Builtin.len_,zau ht,hv,goInt]
 ·simp at he
theorem zx5 (hI:I.Ok N) (R:Rel N c ns A μ lam s a w) {x:Operand} {x':Opd} {t el ty:TypeId} (hx:opd I x=some x') (ht:P.underlying t=some (.slice el))
 (he:zaj N.G p s (.capN x')=some e):zdb N A μ s w ((Builtin.cap_ #[t] ty #[a.eval x]).run P w) e:=by
 simp only[zaj,zC,zB]at he;obtain⟨u,hu,he⟩:=he;split at he
 ·simp only[zA]at he;subst he;have hv:=(zat hI R hx hu).t_inv
  obtain⟨ad,hv⟩: ∃ad,a.eval x= .slice ad 0 0:=by
   generalize a.eval x=y at hv
   cases hv;exact⟨_,rfl⟩
  refine⟨_,?_,(RepC.t (.int _ _)).toV,rfl,rfl,rfl,rfl⟩;simp[Builtin.cap_,zau ht,hv,goInt]
 ·simp at he
theorem zxY {x:Value} {n:Nat} {t el ty:TypeId} (ht:P.underlying t=some (.array n el))
 (he:zaj N.G p s (.lenA n)=some e):zdb N A μ s w ((Builtin.len_ #[t] ty #[x]).run P w) e:=by
 simp only[zaj,zA]at he;subst he;refine⟨_,?_,(RepC.t (.int _ _)).toV,rfl,rfl,rfl,rfl⟩;simp[Builtin.len_,zau ht,goInt]
theorem zt3 (hI:I.Ok N) (R:Rel N c ns A μ lam s a w) {x i:Operand} {x' i':Opd} {t el:TypeId} {n:Nat} {ag:Bool} (hx:opd I x=some x') (hi:opd I i=some i')
 (ht:P.underlying t=some (.slice el)) (A6:typ P el=some (ag,n))
 (he:zaj N.G p s (.iaddrS n x' i')=some e):zdb N A μ s w ((Instr.indexAt t (a.eval x) (a.eval i)).run P w) e:=by
 simp only[zaj,zC,zB]at he;obtain⟨m,hm,u,hu,he⟩:=he;obtain⟨k,hk⟩:=zc4 hI R hi hm;obtain⟨inf,g1,g2,g3,g4⟩:=zbr A6;have Ae:=zat hI R hx hu;split at he
 ·rename_i es;split at he
  ·rename_i hb;simp only[zB]at he;obtain⟨row,Ap,he⟩:=he;split at he
   ·rename_i AS;simp only[zA]at he;subst he;have Ad:m.toNat<es.length:=(zH.1 Ap).1
    generalize hv:a.eval x=v at Ae
    cases Ae.t_inv with
    | sl0 ad cap=>simp at Ap
    | sl r off cap sz _ vf h0 hc hA hs Bs hr=>
      have IX:sz=n:=by rw[<- hs _ row Ap,AS]
      subst IX;have Lo:m<(es.length:Int):=by omega
      refine⟨.pointer (some ⟨r,off+m.toNat*sz,none⟩),?_,(RepC.t (.ip r (off+m.toNat*sz) row (fun j=>vf m.toNat j) hA (fun j x hj=>Bs _ row j x Ap hj) (fun j x hj=>hr _ row j x Ap hj))).toV,rfl,rfl,rfl,rfl⟩;simp[Instr.indexAt,hk,asIntOf,zau ht,hb,Lo,zaO g1,g2,zcL]
   ·simp at he
  ·simp at he
 ·rename_i es;split at he
  ·rename_i hb;simp only[zB]at he;obtain⟨row,Ap,he⟩:=he;split at he
   ·rename_i AS;simp only[zA]at he;subst he;have Ad:m.toNat<es.length:=(zH.1 Ap).1
    generalize hv:a.eval x=v at Ae
    have hq:=Ae.t_inv
    cases hq with
    | slc ad _ HN=>
    generalize hw:Value.slice ad es.length es.length=v2 at HN hv
    cases HN with
    | sl0 ad cap=>simp at Ap
    | sl r off cap sz _ vf h0 hc hA hs Bs hr=>
      have IX:sz=n:=by rw[<- hs _ row Ap,AS]
      subst IX;have Lo:m<(es.length:Int):=by omega
      refine⟨.pointer (some ⟨r,off+m.toNat*sz,none⟩),?_,(RepC.t (.ip r (off+m.toNat*sz) row (fun j=>vf m.toNat j) hA (fun j x hj=>Bs _ row j x Ap hj) (fun j x hj=>hr _ row j x Ap hj))).toV,rfl,rfl,rfl,rfl⟩;simp[Instr.indexAt,hk,asIntOf,zau ht,hb,Lo,zaO g1,g2,zcL]
   ·simp at he
  ·simp at he
 ·rename_i kk j len;split at he<;>try(simp at he;done)
  rename_i sz rs frz AB;split at he
  ·rename_i hb;obtain⟨Cx,BM,rfl⟩:=hb;simp only[zA]at he;subst he
   generalize hv:a.eval x=v at Ae
   cases(Ae:RepC w A N.nm μ s.heap v _)with
   | ms _ _ _ cap sz' rs' frz' ad Ah AK hc ha=>
     rw[AB]at Ah;cases Ah;have Cw:cap≠0:=by omega
     obtain⟨rfl,_⟩:=ha.resolve_left Cw;refine⟨.pointer (some ⟨μ kk,(j+m.toNat)*sz,none⟩),?_,?_,rfl,rfl,rfl,rfl⟩
     ·simp[Instr.indexAt,hk,asIntOf,zau ht,Cx,BM,zaO g1,g2,zcL,Nat.add_mul]
     ·have:=RepC.mp (w:=w) (A:=A) (nm:=N.nm) (μ:=μ) (H:=s.heap) kk (j+m.toNat) 0 sz rs frz AB (by omega)
      simpa using this.toV
   | dms _ _ _ Ah=>rw[AB]at Ah;cases Ah
  ·simp at he
 ·simp at he
theorem ziL {t el:TypeId} {i:Value} {k:IntKind} {m:Int} {len n r off:Nat} {ag:Bool} {v:Value} (ht:P.underlying t=some (.array len el)) (A6:typ P el=some (ag,n))
 (hi:i= .int k m) (hb:0<=m/\m<len) (hv:v= .pointer (some ⟨r,off,none⟩)):(Instr.indexAt t v i).run P w= .ok (.pointer (some ⟨r,off+m.toNat*n,none⟩)) w:=by
 obtain⟨inf,g1,g2,g3,g4⟩:=zbr A6;simp[Instr.indexAt,hi,asIntOf,zau ht,hb,zaO g1,g2,zcL,hv,Instr.sureAddr]
theorem zMp (hI:I.Ok N) (R:Rel N c ns A μ lam s a w) {x i:Operand} {x' i':Opd} {t el:TypeId} {len n:Nat} {ag:Bool} (hx:opd I x=some x') (hi:opd I i=some i')
 (ht:P.underlying t=some (.array len el)) (A6:typ P el=some (ag,n)) (he:zaj N.G p s (.iaddrAL len n x' i')=some e):
 ∃v,(Instr.indexAt t (a.eval x) (a.eval i)).run P w= .ok v w/\zbl w A N.nm μ s.heap v e.val/\e.loc=none/\e.wloc=none/\e.hp=[]/\
  ∀b o,e.adr=some (b,o)->(s.loc b).isSome=true/\v= .pointer (some ⟨lam b,o,none⟩):=by
 simp only[zaj,zC,zB,Prod.exists]at he;obtain⟨m,hm,b,o,hr,cs,hb,he⟩:=he;obtain⟨k,hk⟩:=zc4 hI R hi hm;split at he
 ·rename_i Kz;simp only[zA]at he;subst he;refine⟨_,ziL ht A6 hk Kz (zio R hx hr hb),trivial,rfl,rfl,rfl,?_⟩;intro b' o' h;simp only[zA,Prod.mk.injEq]at h;obtain⟨rfl,rfl⟩:=h;exact⟨by rw[hb];rfl,rfl⟩
 ·simp at he
theorem zt4 (hI:I.Ok N) (R:Rel N c ns A μ lam s a w) {x i:Operand} {x' i':Opd} {t el:TypeId} {len n:Nat} {ag:Bool} (hx:opd I x=some x') (hi:opd I i=some i')
 (ht:P.underlying t=some (.array len el)) (A6:typ P el=some (ag,n)) (he:zaj N.G p s (.iaddrA len n x' i')=some e):
 zdb N A μ s w ((Instr.indexAt t (a.eval x) (a.eval i)).run P w) e:=by
 simp only[zaj,zC,zB]at he;obtain⟨m,hm,he⟩:=he;obtain⟨k,hk⟩:=zc4 hI R hi hm;split at he
 ·rename_i Kz;simp only[zB]at he;obtain⟨u,hu,he⟩:=he;have Ae:=zat hI R hx hu;split at he
  ·rename_i kk i' off;split at he<;>simp only[zA,reduceCtorEq]at he
   rename_i sz rs frz AB;subst he;obtain⟨hv,hi⟩:=Ae.mp_inv AB;refine⟨_,ziL ht A6 hk Kz hv,?_,rfl,rfl,rfl,rfl⟩;rw[Nat.add_assoc];exact(RepC.mp kk i' _ sz rs frz AB hi).toV
  ·simp only[zA]at he;subst he;obtain⟨r,off,vf,hv,hA,h1,h2⟩:=zbl.ip_inv Ae;exact⟨_,ziL ht A6 hk Kz hv,zsr _ hA h1 h2,rfl,rfl,rfl,rfl⟩
  ·simp at he
 ·simp at he
theorem zjr: ∀{l:List Opd} {vs:List V},zgE N.G s l=some vs->l.length=vs.length/\ ∀(i:Nat) (v:V),vs[i]? =some v-> ∃x,l[i]? =some x/\evl N.G s x=some v
 | [],vs,h=>by simp[zgE]at h;subst h;simp
 | x::l,vs,h=>by
   simp only[zgE,zC,zB,zA]at h;obtain⟨v,hv,us,Kh,rfl⟩:=h;obtain⟨h1,h2⟩:=zjr Kh;refine⟨by simp[h1],fun i z hz=> ?_⟩
   cases i with
   | zero=>simp at hz;subst hz;exact⟨x,rfl,hv⟩
   | succ i=>simp at hz;simpa using h2 i z hz
theorem zdz (hI:I.Ok N) (R:Rel N c ns A μ lam s a w) {xs:Array Operand} {ys:List Opd} {vs:List V} (hx:opds I xs=some ys) (hv:zgE N.G s ys=some vs):
 (xs.map a.eval).size=vs.length/\ ∀(i:Nat) (v:V),vs[i]? =some v-> ∃u,(xs.map a.eval)[i]? =some u/\zbl w A N.nm μ s.heap u v:=by
 obtain⟨h1,h2⟩:=zbb hx;obtain⟨h3,h4⟩:=zjr hv;refine⟨by simp at h1⊢;omega,fun i v hi=> ?_⟩;obtain⟨y,hy,Ak⟩:=h4 i v hi;obtain⟨x,Dc,ho⟩:=h2 i y hy;refine⟨a.eval x,?_,zat hI R ho Ak⟩;simp only[Array.getElem?_toList]at Dc;simp[Dc]
theorem zju: ∀{ks:List Nat} {as bs:List V} {r:Bool},zbh ks as bs=some r->as.length=ks.length/\bs.length=ks.length
 | [],[],[],_,_=>⟨rfl,rfl⟩
 | [],_::_,_,_,h=>by simp[zbh]at h
 | [],[],_::_,_,h=>by simp[zbh]at h
 | _::_,[],_,_,h=>by simp[zbh]at h
 | _::_,_::_,[],_,h=>by simp[zbh]at h
 | k::ks,a::as,b::bs,r,h=>by
   simp only[zbh,zC,zB,zA]at h;obtain⟨q,_,q',Eu,_⟩:=h;have:=zju Eu;exact⟨by simp[this.1],by simp[this.2]⟩
theorem zjv: ∀{k1 ks:List Nat} {as bs:List V} {r:Bool},zbh (k1++ks) as bs=some r->
 ∃q q',zbh k1 (as.take k1.length) (bs.take k1.length)=some q/\zbh ks (as.drop k1.length) (bs.drop k1.length)=some q'/\r=(q&&q')
 | [],ks,as,bs,r,h=>⟨true,r,rfl,by simpa using h,by simp⟩
 | k::k1,ks,[],bs,r,h=>by simp[zbh]at h
 | k::k1,ks,a::as,[],r,h=>by simp[zbh]at h
 | k::k1,ks,a::as,b::bs,r,h=>by
   simp only[List.cons_append,zbh,zC,zB,zA]at h;obtain⟨x,hx,y,hy,rfl⟩:=h;obtain⟨q,q',h1,h2,rfl⟩:=zjv hy;exact⟨x&&q,q',by simp[zbh,hx,h1],by simpa using h2,by rw[Bool.and_assoc]⟩
theorem zqd {t:TypeId} {k:Nat} {xa ya:V} {v u:Value} {q:Bool} {μ:Nat->Nat} {H:Nat->Option O} {nm:Nat->Nat} (d:Nat)
 (hk:zdA P t=some k) (E5:zbl w A nm μ H v xa) (DU:zbl w A nm μ H u ya) (hq:zg6 k xa ya=some q):
 (Op.equalIn (d+1) t v u).run P w= .ok q w:=by
 unfold zg6 at hq;split at hq
 ·split at hq
  ·rename_i AB;obtain⟨rfl,rfl⟩:=AB;simp only[zA]at hq;subst hq;cases E5.int_inv;cases DU.int_inv;unfold zdA at hk;split at hk<;>simp at hk
   rename_i A6;simp[Op.equalIn,zau A6]
  ·simp at hq
 ·split at hq
  ·rename_i AB;subst AB;simp only[zA]at hq;subst hq;cases E5.bool_inv;cases DU.bool_inv;unfold zdA at hk;split at hk<;>simp at hk
   rename_i A6;simp[Op.equalIn,zau A6]
  ·simp at hq
 ·split at hq
  ·rename_i AB;subst AB;simp only[zA]at hq;subst hq;cases E5.str_inv;cases DU.str_inv;unfold zdA at hk;split at hk<;>simp at hk
   rename_i A6;simp[Op.equalIn,zau A6,beq_toListBytes]
  ·simp at hq
 ·simp at hq
theorem zlg {fs:List Field} {xs ys:Array Value} {as bs:List V} {i:Nat} {ks:List Nat} {r:Bool} {μ:Nat->Nat} {H:Nat->Option O} {nm:Nat->Nat} (d:Nat)
 (hf:zcR P i fs=some ks) (hx:zfk w A nm μ H xs.toList as) (hy:zfk w A nm μ H ys.toList bs)
 (he:zbh ks (as.drop i) (bs.drop i)=some r):(Op.eqFields (d+2) xs ys fs).run P w= .ok r w:=by
 induction fs generalizing i r ks with
 | nil=>
   simp only[zcR,zA]at hf;subst hf;unfold zbh at he
   split at he<;>simp_all [Op.eqFields]
 | cons f fs ih=>
   unfold zcR at hf;split at hf
   ·rename_i k hk;simp only[zC,zB]at hf;obtain⟨ks',Dn,hf⟩:=hf;split at hf
    ·rename_i hc;obtain⟨hn,ho,DV⟩:=hc;simp only[zA]at hf;subst hf;unfold zbh at he;split at he
     ·simp_all
     ·rename_i n ns xa xs' ya ys' e1 e2 e3;cases e1;simp only[zC,zB,zA]at he;obtain⟨q,hq,q',Eu,rfl⟩:=he;have ea:as[i]? =some xa:=by have:=congrArg (·[0]?) e2;simpa using this
      have eb:bs[i]? =some ya:=by have:=congrArg (·[0]?) e3;simpa using this
      have ea':as.drop (i+1)=xs':=by have:=congrArg List.tail e2;simpa using this
      have eb':bs.drop (i+1)=ys':=by have:=congrArg List.tail e3;simpa using this
      obtain⟨v,hv,E5⟩:=hx.2 i _ ea;obtain⟨u,hu,DU⟩:=hy.2 i _ eb;obtain⟨inf,g1,g2,g3,g4⟩:=zbr DV;have ih':=ih Dn (by rw[ea',eb'];exact Eu)
      have Jh:(part f.type xs f.offset).run P w= .ok v w:=by
       simp only[Array.getElem?_toList]at hv;simp[part,g4 w,ho,hv]
      have KO:(part f.type ys f.offset).run P w= .ok u w:=by
       simp only[Array.getElem?_toList]at hu;simp[part,g4 w,ho,hu]
      have Fq:=zqd (P:=P) (d+1) hk E5.toV DU.toV hq;simp only[Op.eqFields,ne_eq,hn,not_false_eq_true,if_true,Sem.run_bind,Jh,KO,Result.andThen_ok,Fq];cases q
      ·simp
      ·simpa using ih'
     ·simp at he
    ·simp at hf
   ·rename_i hk;simp only[zC,zB]at hf;obtain⟨k1,A3,ks',Dn,hf⟩:=hf;split at hf
    ·rename_i hc;obtain⟨hn,ho,DV,CB⟩:=hc;simp only[zA]at hf;subst hf;obtain⟨q,q',hq,Eu,rfl⟩:=zjv he;have hl:=zju hq;rw[List.drop_drop,List.drop_drop]at Eu;have ih':=ih Dn Eu
     have Cu:rd as i k1.length=some ((as.drop i).take k1.length):=by
      unfold Rg.rd;rw[if_pos];have:=hl.1;rw[List.length_take,List.length_drop]at this;omega
     have Eb:rd bs i k1.length=some ((bs.drop i).take k1.length):=by
      unfold Rg.rd;rw[if_pos];have:=hl.2;rw[List.length_take,List.length_drop]at this;omega
     obtain⟨a1,a2,a3⟩:=hx.rd Cu;obtain⟨b1,b2,b3⟩:=hy.rd Eb
     have Jh:(part f.type xs f.offset).run P w= .ok (.agg ((xs.toList.drop i).take k1.length).toArray) w:=by
      rw[ho];exact zin (P:=P) (w:=w) DV (by simpa using a2)
     have KO:(part f.type ys f.offset).run P w= .ok (.agg ((ys.toList.drop i).take k1.length).toArray) w:=by
      rw[ho];exact zin (P:=P) (w:=w) DV (by simpa using b2)
     have Fq:(Op.equalIn (d+2) f.type (.agg ((xs.toList.drop i).take k1.length).toArray) (.agg ((ys.toList.drop i).take k1.length).toArray)).run P w= .ok q w:=by
      unfold zdB at A3;split at A3
      ·rename_i fields CW;split at A3
       ·rename_i hc;have I9:P.fieldsOf f.type=fields:=by simp[Program.fieldsOf,CW]
        have h0:=zhM (P:=P) (w:=w) (A:=A) (nm:=nm) (μ:=μ) (H:=H) (i:=0) (xs:=((xs.toList.drop i).take k1.length).toArray) (ys:=((ys.toList.drop i).take k1.length).toArray) d A3 (by simpa using a1) (by simpa using b1) (by simpa using hq);have:=run_equalIn_struct (P:=P) w (d+1) f.type ((xs.toList.drop i).take k1.length).toArray ((ys.toList.drop i).take k1.length).toArray (by rw[I9];exact CW) hc.1;rw[this,I9];exact h0
       ·cases A3
      ·cases A3
     simp only[Op.eqFields,ne_eq,hn,not_false_eq_true,if_true,Sem.run_bind,Jh,KO,Result.andThen_ok,Fq];cases q
     ·simp
     ·simpa using ih'
    ·simp at hf
theorem zvG (hI:I.Ok N) (R:Rel N c ns A μ lam s a w) {x y:Operand} {x' y':Opd} {op:BinOp} {neg:Bool} {ks:List Nat} (hx:opd I x=some x') (hy:opd I y=some y')
 (he:zaj N.G p s (.eqa neg ks x' y')=some e) {t:TypeId} (ht:zlo P t=some ks) (Ao:op=if neg then .neq else .eql):
 zdb N A μ s w ((do eqGuard op t x y (a.eval x) (a.eval y);binOp op t (a.eval x) (a.eval y):Sem Value).run P w) e:=by
 simp only[zaj,zC,zB]at he;obtain⟨u,hu,v,hv,he⟩:=he;split at he
 ·rename_i as bs;simp only[zB,zA]at he;obtain⟨r,hr,rfl⟩:=he;obtain⟨xs,Ka,PD⟩:=(zat hI R hx hu).agg_inv;obtain⟨ys,FN,P4⟩:=(zat hI R hy hv).agg_inv;rw[Ka,FN];unfold zlo at ht;split at ht
  ·rename_i fields CW;split at ht
   ·rename_i hc;have I9:P.fieldsOf t=fields:=by simp[Program.fieldsOf,CW]
    have h0:=zlg (P:=P) (i:=0) 9997 ht PD P4 (by simpa using hr)
    have h1:(Op.equalIn 10000 t (.agg xs) (.agg ys)).run P w= .ok r w:=by
     have:=run_equalIn_struct (P:=P) w 9999 t xs ys (by rw[I9];exact CW) hc.1;rw[this,I9];exact h0
    have h2:=run_eqGuard_agg (P:=P) w op t x y xs ys hc.2;refine⟨.bool (r != neg),?_,(RepC.t (.bool _)).toV,rfl,rfl,rfl,rfl⟩;cases neg
    ·simp only[zG,if_false]at Ao;subst Ao;simp only[Sem.run_bind,h2,Result.andThen_ok];simp[run_eql_struct,h1]
    ·simp only[if_true]at Ao;subst Ao;simp only[Sem.run_bind,h2,Result.andThen_ok];simp[run_neq_struct,h1]
   ·simp at ht
  ·simp at ht
 ·simp at he
end
end Rg
end
section
namespace Rg
open Go
theorem zbl.cell {w:World} {A:Nat->Prop} {nm μ:Nat->Nat} {H:Nat->Option O} {v:Value} {x:V} (h:zbl w A nm μ H v x) (hc:x.isCell=true):RepC w A nm μ H v x:=by
 cases x<;>first | exact h | (simp[V.isCell]at hc)
theorem RepT.nils_inv {w:World} {A:Nat->Prop} {nm:Nat->Nat} {v:Value} (h:RepT w A nm v .nils): ∃ad,v= .slice ad 0 0:=by
 cases h;exact⟨_,rfl⟩
theorem RepT.sl_inv {w:World} {A:Nat->Prop} {nm:Nat->Nat} {v:Value} {es:List (List T)} (h:RepT w A nm v (.sl es)):
 (es=[]/\ ∃ad cap,v= .slice ad 0 cap)\/ ∃(r off cap sz:Nat) (vf:Nat->Nat->Value),v= .slice (some ⟨r,off,none⟩) es.length cap/\0<es.length/\es.length<=cap/\A r/\
   (∀(i:Nat) (e:List T),es[i]? =some e->e.length=sz)/\
   (∀(i:Nat) (e:List T) (j:Nat) (x:T),es[i]? =some e->e[j]? =some x->w.cell? ⟨r,off+i*sz+j,none⟩=some (vf i j))/\
   (∀(i:Nat) (e:List T) (j:Nat) (x:T),es[i]? =some e->e[j]? =some x->RepT w A nm (vf i j) x):=by
 cases h with
 | sl0 ad cap=>exact .inl ⟨rfl,ad,cap,rfl⟩
 | sl r off cap sz _ vf h0 hc hA hs hv hr=>exact .inr ⟨r,off,cap,sz,vf,rfl,h0,hc,hA,hs,hv,hr⟩
section
variable {P:Program} {N:Nam} {I:Inv} {c:Ctx} {ns p:Nat} {A:Nat->Prop} {μ lam:Nat->Nat} {s:St} {a:Act} {w:World} {e:Eff}
theorem zj8: ∀{cs:List V} {ts:List T},zeF cs=some ts->ts.length=cs.length/\ ∀(j:Nat) (x:T),ts[j]? =some x-> ∃y,cs[j]? =some (.t y)/\x=y.norm
 | [],ts,h=>by simp[zeF]at h;subst h;exact⟨rfl,fun j x h=>by simp at h⟩
 | .t y::r,ts,h=>by
   simp only[zeF,zE]at h;obtain⟨us,hu,rfl⟩:=h;obtain⟨h1,h2⟩:=zj8 hu;refine⟨by simp[h1],fun j x hj=> ?_⟩
   cases j with
   | zero=>simp at hj;exact⟨y,rfl,hj.symm⟩
   | succ j=>simp only[List.getElem?_cons_succ]at hj⊢;exact h2 j x hj
 | .ms _ _ _::_,_,h | .mp _ _ _::_,_,h | .mm _::_,_,h | .fn _ _ _::_,_,h | .agg _::_,_,h | .tup _::_,_,h | .undef::_,_,h | .lb::_,_,h=>by simp[zeF]at h
theorem zvF (hI:I.Ok N) (R:Rel N c ns A μ lam s a w) {f k:Nat} {xs ys:Array Operand} {xs' ys':List Opd} (hf:I.fi f=some k) (hx:opds I xs=some xs') (hy:opds I ys=some ys')
 (he:zaj N.G p s (.mkfn k xs' ys')=some e):zdb N A μ s w ((Instr.makeFunc (.func f) (xs.map a.eval) (ys.map a.eval)).run P w) e:=by
 simp only[zaj,zC,zB]at he;obtain⟨as,Dt,bs,Ay,he⟩:=he;simp only[zA]at he;obtain⟨fv,As,rfl⟩:=he;unfold zqq at As;split at As
 ·rename_i Aa;simp only[zA]at As;subst As;obtain⟨h1,h2⟩:=zdz hI R hx Dt;obtain⟨h3,h4⟩:=zdz hI R hy Ay;refine⟨_,rfl,?_,rfl,rfl,rfl,rfl⟩;have:=hI.f f k hf;subst this
  have AW: ∀(l:List V),l.all V.isCell=true-> ∀(i:Nat) (v:V),l[i]? =some v->v.isCell=true:=by
   intro l hl i v hi;exact zN.1 hl v (zL hi)
  refine RepC.fn k as bs (xs.map a.eval) (ys.map a.eval) (fun i=>((xs.map a.eval)[i]?).getD undef) (fun i=>((ys.map a.eval)[i]?).getD undef) h1 h3 ?_ ?_ ?_ ?_
  ·intro j x hj;obtain⟨u,hu,_⟩:=h2 j x hj;rw[hu];rfl
  ·intro j x hj;obtain⟨u,hu,hr⟩:=h2 j x hj;rw[hu];exact hr.cell (AW _ Aa.1 j x hj)
  ·intro j x hj;obtain⟨u,hu,_⟩:=h4 j x hj;rw[hu];rfl
  ·intro j x hj;obtain⟨u,hu,hr⟩:=h4 j x hj;rw[hu];exact hr.cell (AW _ Aa.2 j x hj)
 ·split at As
  ·rename_i cs _;simp only[zE]at As;obtain⟨ts,FR,rfl⟩:=As;obtain⟨h1,h2⟩:=zdz hI R hx Dt;obtain⟨h3,h4⟩:=zdz hI R hy Ay;refine⟨_,rfl,?_,rfl,rfl,rfl,rfl⟩;have:=hI.f f k hf;subst this;obtain⟨v0,Fz,Ec⟩:=h2 0 _ rfl;obtain⟨vc,rfl,Ac,AL⟩:=(Ec:zcl w A N.nm μ s.heap v0 (.agg cs))
   have Ka:xs.map a.eval= #[.agg vc]:=by
    apply Array.ext_getElem?;intro i
    cases i with
    | zero=>rw[Fz];rfl
    | succ i=>
      have:(xs.map a.eval).size=1:=h1;rw[Array.getElem?_eq_none (by omega)];simp
   have FN:ys.map a.eval= #[]:=by
    have:(ys.map a.eval).size=0:=h3;exact Array.eq_empty_of_size_eq_zero this
   rw[Ka,FN];obtain⟨t1,t2⟩:=zj8 FR;have Au:vc.size=ts.length:=by rw[t1,<- Ac];simp
   refine(RepC.t ?_).toV;refine .fa k ts vc (fun j=>(vc[j]?).getD undef) Au ?_ ?_
   ·intro j x hj;obtain⟨y,hy,rfl⟩:=t2 j x hj;obtain⟨v,hv,_⟩:=AL j _ hy;have:vc[j]? =some v:=by simpa using hv
    rw[this];rfl
   ·intro j x hj;obtain⟨y,hy,rfl⟩:=t2 j x hj;obtain⟨v,hv,hr⟩:=AL j _ hy;have:vc[j]? =some v:=by simpa using hv
    rw[this]
    cases hr with
    | t h=>exact h.norm
  ·simp at As
theorem zeI {v:Value} {k:IntKind} {m:Int} {y:Nat} {code:BoundsCode} (hv:v= .int k m) (h0:0<=m) (h1:m<=y):(Instr.sliceBound v y code).run P w= .ok m.toNat w:=by
 simp[Instr.sliceBound,hv,asIntOf,h0,h1]
theorem zit (hI:I.Ok N) (R:Rel N c ns A μ lam s a w) {x:Option Operand} {y:Option Opd} {d:Nat} {n:Int} (hx:znu I x=some y) (hv:zew N.G s d y=some n):
 (x=none/\n=d)\/ ∃o k,x=some o/\a.eval o= .int k n:=by
 cases x with
 | none=>
   simp only[znu,zA]at hx;subst hx;simp only[zew,zA]at hv
   exact .inl ⟨rfl,hv.symm⟩
 | some o=>
   simp only[znu,zE]at hx;obtain⟨z,hz,rfl⟩:=hx;obtain⟨k,hk⟩:=zc4 hI R hz hv;exact .inr ⟨o,k,rfl,hk⟩
theorem zhq {lo hi:Option Value} {len cap:Nat} {l h:Int} {b:Bool} (hh:(hi=none/\h=len)\/ ∃k,hi=some (.int k h))
 (hl:(lo=none/\l=0)\/ ∃k,lo=some (.int k l)) (h0:0<=l) (h1:l<=h) (h2:h<=cap):
 (Instr.sliceBounds b len cap lo hi none).run P w= .ok (l.toNat,h.toNat,cap) w:=by
 have e1: ∀k code,(Instr.sliceBound (.int k h) cap code).run P w= .ok h.toNat w:=fun k code=>zeI rfl (by omega) h2
 have e2: ∀k code,(Instr.sliceBound (.int k l) h.toNat code).run P w= .ok l.toNat w:=fun k code=>zeI rfl h0 (by omega)
 rcases hh with⟨rfl,rfl⟩ | ⟨k,rfl⟩<;>rcases hl with⟨rfl,rfl⟩ | ⟨k',rfl⟩
 ·simp[Instr.sliceBounds]
 ·have:=e2 k' .sliceB;simp only[Int.toNat_natCast]at this;simp[Instr.sliceBounds,this]
 ·simp[Instr.sliceBounds,e1]
 ·simp[Instr.sliceBounds,e1,e2]
theorem zwh (hI:I.Ok N) (R:Rel N c ns A μ lam s a w) {x:Operand} {lo hi mx:Option Operand} {x':Opd} {lo' AK mx':Option Opd} {t el:TypeId} {n:Nat} {ag:Bool}
 (hx:opd I x=some x') (Ef:znu I lo=some lo') (JG:znu I hi=some AK) (Km:znu I mx=some mx') (ht:P.underlying t=some (.slice el)) (A6:typ P el=some (ag,n))
 (he:zaj N.G p s (.slice n x' lo' AK mx')=some e):zdb N A μ s w ((Instr.sliceAt t (a.eval x) (lo.map a.eval) (hi.map a.eval) (mx.map a.eval)).run P w) e:=by
 simp only[zaj,zC,zB]at he;obtain⟨u,hu,len,Ac,h,hh,l,hl,he⟩:=he;have Ae:=zat hI R hx hu;obtain⟨ad,cap,hv⟩:=Ae.len_inv Ac;obtain⟨inf,g1,g2,g3,g4⟩:=zbr A6
 have Cw:len<=cap:=by
  rw[hv]at Ae;unfold lenOf at Ac;split at Ac
  ·simp only[zA]at Ac;omega
  ·simp only[zA]at Ac;rcases Ae.t_inv.sl_inv with⟨rfl,_⟩ | ⟨r,off,cap',sz,vf,he,h0,hc,_⟩
   ·simp at Ac;omega
   ·cases he;exact hc
  ·simp only[zA]at Ac;obtain⟨_,h2⟩:=RepT.slc_inv Ae.t_inv;omega
  ·split at Ac<;>simp only[zA,reduceCtorEq]at Ac
   rename_i hk;subst Ac
   cases(Ae:RepC w A N.nm μ s.heap _ _)with
   | ms _ _ _ _ _ _ _ _ _ hi hc=>omega
   | dms _ _ _ Ah=>rw[hk]at Ah;cases Ah
  ·simp at Ac
 have Kt:(hi.map a.eval=none/\h=len)\/ ∃k,hi.map a.eval=some (.int k h):=by
  rcases zit hI R JG hh with⟨rfl,h⟩ | ⟨o,k,rfl,h⟩
  ·exact .inl ⟨rfl,h⟩
  ·exact .inr ⟨k,by simp[h]⟩
 have CE:(lo.map a.eval=none/\l=0)\/ ∃k,lo.map a.eval=some (.int k l):=by
  rcases zit hI R Ef hl with⟨rfl,h⟩ | ⟨o,k,rfl,h⟩
  ·exact .inl ⟨rfl,by simpa using h⟩
  ·exact .inr ⟨k,by simp[h]⟩
 cases mx with
 | none=>
   simp only[znu,zA]at Km;subst Km;simp only at he;split at he
   ·rename_i hb;obtain⟨Co,Cx,BM⟩:=hb
    have Am:(Instr.sliceAt t (a.eval x) (lo.map a.eval) (hi.map a.eval) (Option.map a.eval none)).run P w=
     .ok (.slice (if cap=l.toNat then ad else ad.map (·.add (l.toNat*n))) (h.toNat-l.toNat) (cap-l.toNat)) w:=by
     have:=zhq (P:=P) (w:=w) (b:=true) (cap:=cap) Kt CE Co Cx (by omega);simp[Instr.sliceAt,zau ht,Instr.slice,hv,this,zaO g1,g2]
    refine⟨_,Am,?_⟩;split at he
    ·simp only[zA]at he;subst he;simp only[lenOf,zA]at Ac;subst Ac;have SF:l.toNat=0:=by omega
     have NR:h.toNat=0:=by omega
     rw[hv]at Ae;have CM:cap=0:=by obtain⟨_,he⟩:=Ae.t_inv.nils_inv;cases he;rfl
     subst CM;rw[SF,NR];exact⟨(RepC.t (.nils _)).toV,rfl,rfl,rfl,rfl⟩
    ·rename_i es;split at he
     ·rename_i Aa;simp only[zA]at he;subst he;simp only[lenOf,zA]at Ac;subst Ac;refine⟨?_,rfl,rfl,rfl,rfl⟩;have L6:(h-l).toNat=h.toNat-l.toNat:=by omega
      by_cases GV:h.toNat-l.toNat=0
      ·rw[L6,GV,List.take_zero];exact(RepC.t (.sl0 _ _)).toV
      ·rw[hv]at Ae;rcases Ae.t_inv.sl_inv with⟨rfl,_⟩ | ⟨r,off,cap',sz,vf,Fq,h0,hc,hA,hs,Bs,hr⟩
       ·simp at BM;omega
       ·cases Fq;have BS:((es.drop l.toNat).take (h-l).toNat).length=h.toNat-l.toNat:=by simp;omega
        have Az:cap≠l.toNat:=by omega
        have AS:sz=n:=by
         have Mi:0<es.length:=h0;have:=hs 0 es[0] (zI Mi);have h2:=zN.1 Aa es[0] (List.getElem_mem Mi);simp only[decide_eq_true_eq]at h2;omega
        subst AS
        have key:=RepT.sl (w:=w) (A:=A) (nm:=N.nm) r (off+l.toNat*sz) (cap-l.toNat) sz ((es.drop l.toNat).take (h-l).toNat) (fun i j=>vf (l.toNat+i) j)
         (by rw[BS];omega) (by rw[BS];omega) hA ?_ ?_ ?_
        ·rw[if_neg Az];simp only[Option.map_some,zcL];rw[BS]at key;exact(RepC.t key).toV
        ·intro i e0 hi;simp only[zO,List.getElem?_drop]at hi;split at hi
         ·exact hs _ e0 hi
         ·simp at hi
        ·intro i e0 j y hi hj;simp only[zO,List.getElem?_drop]at hi;split at hi
         ·have:=Bs _ e0 j y hi hj;rw[Nat.add_mul]at this;have e1:off+l.toNat*sz+i*sz+j=off+(l.toNat*sz+i*sz)+j:=by omega
          rw[e1];exact this
         ·simp at hi
        ·intro i e0 j y hi hj;simp only[zO,List.getElem?_drop]at hi;split at hi
         ·exact hr _ e0 j y hi hj
         ·simp at hi
     ·simp at he
    ·rename_i kk i ll;split at he<;>try(simp at he;done)
     rename_i sz rs frz hk;split at he<;>simp only[zA,reduceCtorEq]at he
     rename_i AS;subst AS;subst he;simp only[lenOf,hk,zA]at Ac;subst Ac;refine⟨?_,rfl,rfl,rfl,rfl⟩;rw[hv]at Ae
     cases(Ae:RepC w A N.nm μ s.heap _ _)with
     | ms _ _ _ _ sz' rs' frz' _ Ah AK hc ha=>
       rw[hk]at Ah;cases Ah;have L6:(h-l).toNat=h.toNat-l.toNat:=by omega
       rw[L6];refine(RepC.ms kk (i+l.toNat) (h.toNat-l.toNat) (cap-l.toNat) sz rs frz _ hk (by omega) (by omega) ?_).toV
       by_cases CM:cap-l.toNat=0
       ·exact .inl CM
       ·right;rcases ha with ha | ⟨rfl,e1,n1,Gv,Fj⟩
        ·omega
        ·rw[if_neg (by omega)];refine⟨by simp[zcL,Nat.add_mul],e1,n1,Gv,?_⟩;have:i+l.toNat+(cap-l.toNat)=i+cap:=by omega
         rw[this];exact Fj
     | dms _ _ _ Ah=>rw[hk]at Ah;cases Ah
    ·simp at he
   ·split at he<;>try(simp at he;done)
    rename_i kk i ll;split at he<;>try(simp at he;done)
    rename_i sz rs frz hk;split at he<;>simp only[zA,reduceCtorEq]at he
    rename_i JV;obtain⟨AS,Co,Cx,BM⟩:=JV;subst AS;subst he;rw[hv]at Ae
    cases(Ae:RepC w A N.nm μ s.heap _ _)with
    | ms _ _ _ _ sz' rs' frz' _ Ah AK hc ha=>
      rw[hk]at Ah;cases Ah
      have Am:(Instr.sliceAt t (a.eval x) (lo.map a.eval) (hi.map a.eval) (Option.map a.eval none)).run P w=
       .ok (.slice (if cap=l.toNat then ad else ad.map (·.add (l.toNat*sz))) (h.toNat-l.toNat) (cap-l.toNat)) w:=by
       have:=zhq (P:=P) (w:=w) (b:=true) (cap:=cap) Kt CE Co Cx (by omega);simp[Instr.sliceAt,zau ht,Instr.slice,hv,this,zaO g1,g2]
      refine⟨_,Am,?_,rfl,rfl,rfl,rfl⟩;have L6:(h-l).toNat=h.toNat-l.toNat:=by omega
      rw[L6];refine(RepC.ms kk (i+l.toNat) (h.toNat-l.toNat) (cap-l.toNat) sz rs frz _ hk (by omega) (by omega) ?_).toV
      by_cases CM:cap-l.toNat=0
      ·exact .inl CM
      ·right;rcases ha with ha | ⟨rfl,e1,n1,Gv,Fj⟩
       ·omega
       ·rw[if_neg (by omega)];refine⟨by simp[zcL,Nat.add_mul],e1,n1,Gv,?_⟩;have:i+l.toNat+(cap-l.toNat)=i+cap:=by omega
        rw[this];exact Fj
    | dms _ _ _ Ah=>rw[hk]at Ah;cases Ah
 | some mo=>
   simp only[znu,zE]at Km;obtain⟨m',Fm,rfl⟩:=Km;simp only[zB]at he;obtain⟨m,hm,he⟩:=he;obtain⟨km,It⟩:=zc4 hI R Fm hm;split at he
   ·rename_i hb;obtain⟨rfl,rfl,rfl,My⟩:=hb
    have BP:e= { val:=.t .nils }\/(e= { val:=.t (.slc []) }):=by
     split at he<;>simp only[zA,reduceCtorEq]at he<;>first | exact .inl he.symm | exact .inr he.symm
    obtain⟨kh,Cl⟩: ∃k,hi.map a.eval=some (.int k 0):=by
     cases hi with
     | none=>simp only[znu,zA]at JG;subst JG;simp at My
     | some o=>
       rcases Kt with⟨h,_⟩ | h
       ·simp at h
       ·exact h
    have KJ:zbl w A N.nm μ s.heap (.slice ad 0 0) e.val/\Plain e:=by
     rcases BP with rfl | rfl
     ·exact⟨(RepC.t (.nils _)).toV,rfl,rfl,rfl,rfl⟩
     ·exact⟨(RepC.t (.slc ad [] (.sl0 ad 0))).toV,rfl,rfl,rfl,rfl⟩
    refine⟨.slice ad 0 0,?_,KJ⟩
    have b1: ∀(kk:IntKind) (y:Nat) (code:BoundsCode),(Instr.sliceBound (.int kk 0) y code).run P w= .ok 0 w:=fun kk y code=>by
     have:=zeI (P:=P) (w:=w) (code:=code) (v:=.int kk 0) (y:=y) rfl (Int.le_refl 0) (by omega);simpa using this
    rcases CE with⟨h1,_⟩ | ⟨kl,h1⟩
    ·simp[Instr.sliceAt,zau ht,Instr.slice,hv,Instr.sliceBounds,Cl,h1,It,b1,zaO g1]
    ·simp[Instr.sliceAt,zau ht,Instr.slice,hv,Instr.sliceBounds,Cl,h1,It,b1,zaO g1]
   ·rename_i N0;split at he
    case isFalse=>simp at he
    rename_i JV;obtain⟨c0,c1,c2,c3,My⟩:=JV
    obtain⟨kh,Cl⟩: ∃k,hi.map a.eval=some (.int k h):=by
     cases hi with
     | none=>simp only[znu,zA]at JG;subst JG;simp at My
     | some o=>
       rcases Kt with⟨h,_⟩ | h
       ·simp at h
       ·exact h
    have b1: ∀code,(Instr.sliceBound (.int km m) cap code).run P w= .ok m.toNat w:=fun code=>zeI rfl (by omega) (by omega)
    have b2: ∀code,(Instr.sliceBound (.int kh h) m.toNat code).run P w= .ok h.toNat w:=fun code=>zeI rfl (by omega) (by omega)
    have b3: ∀kk code,(Instr.sliceBound (.int kk l) h.toNat code).run P w= .ok l.toNat w:=fun kk code=>zeI rfl (by omega) (by omega)
    have Am:(Instr.sliceAt t (a.eval x) (lo.map a.eval) (hi.map a.eval) (Option.map a.eval (some mo))).run P w= .ok (.slice (if m.toNat=l.toNat then ad else ad.map (·.add (l.toNat*n))) (h.toNat-l.toNat) (m.toNat-l.toNat)) w:=by
     rcases CE with⟨h1,h2⟩ | ⟨kl,h1⟩
     ·subst h2;simp[Instr.sliceAt,zau ht,Instr.slice,hv,Instr.sliceBounds,Cl,h1,It,b1,b2,zaO g1,g2]
     ·simp[Instr.sliceAt,zau ht,Instr.slice,hv,Instr.sliceBounds,Cl,h1,It,b1,b2,b3,zaO g1,g2]
    simp only[zA]at he;subst he;refine⟨_,Am,?_,rfl,rfl,rfl,rfl⟩;show zbl _ _ _ _ _ _ (zmn n u l h m len)
    generalize hV:Value.slice (if m.toNat=l.toNat then ad else ad.map (·.add (l.toNat*n))) (h.toNat-l.toNat) (m.toNat-l.toNat)=val
    unfold zmn;split
    ·rename_i es;split
     ·rename_i CG;subst hV;obtain⟨d0,d1,d2,Aa⟩:=CG;simp only[lenOf,zA]at Ac;have k0:l.toNat=0:=by omega
      have k1:h.toNat=es.length:=by omega
      have k2:m.toNat=es.length:=by omega
      have k3: ¬es.length=0:=fun h0=>N0 ⟨d0,by omega,by omega,My⟩
      rw[k0,k1,k2,if_neg k3];rw[hv]at Ae;rcases Ae.t_inv.sl_inv with⟨rfl,_⟩ | ⟨r,off,cap',sz,vf,Fq,h0,hc,hA,hs,Bs,hr⟩
      ·simp at k3
      ·cases Fq;have key:=RepT.sl (w:=w) (A:=A) (nm:=N.nm) r off es.length sz es vf h0 (Nat.le_refl _) hA hs Bs hr
       have h1:(Option.map (fun x:Addr=>x.add (0*n)) (some ⟨r,off,none⟩))=some ⟨r,off,none⟩:=by
        simp only[Option.map_some,Nat.zero_mul,zcL,Nat.add_zero]
       rw[h1];exact(RepC.t (RepT.slc _ es key)).toV
     ·split
      ·rename_i CG;subst hV;obtain⟨d0,d1⟩:=CG;simp only[lenOf,zA]at Ac;have k0:l.toNat=0:=by omega
       have k1:m.toNat=h.toNat:=by omega
       have k3: ¬h.toNat=0:=fun h0=>N0 ⟨d0,by omega,by omega,My⟩
       rw[k0,k1,if_neg k3];rw[hv]at Ae;rcases Ae.t_inv.sl_inv with⟨rfl,_⟩ | ⟨r,off,cap',sz,vf,Fq,h0,hc,hA,hs,Bs,hr⟩
       ·simp at Ac;omega
       ·cases Fq;have C7:(es.take h.toNat).length=h.toNat:=by rw[List.length_take];omega
        have Dv: ∀(i:Nat) (e:List T),(es.take h.toNat)[i]? =some e->es[i]? =some e:=fun i e hi=>by
         rw[zO]at hi;split at hi
         ·exact hi
         ·cases hi
        have key:=RepT.sl (w:=w) (A:=A) (nm:=N.nm) r off h.toNat sz (es.take h.toNat) vf (by omega) (by omega) hA (fun i e hi=>hs i e (Dv i e hi)) (fun i e j x hi=>Bs i e j x (Dv i e hi)) (fun i e j x hi=>hr i e j x (Dv i e hi));rw[C7]at key
        have h1:(Option.map (fun x:Addr=>x.add (0*n)) (some ⟨r,off,none⟩))=some ⟨r,off,none⟩:=by
         simp only[Option.map_some,Nat.zero_mul,zcL,Nat.add_zero]
        rw[h1];exact(RepC.t key).toV
      ·exact trivial
    ·exact trivial
theorem zwg (hI:I.Ok N) (R:Rel N c ns A μ lam s a w) {x:Operand} {lo hi:Option Operand} {x':Opd} {lo' AK:Option Opd} {t:TypeId}
 (hx:opd I x=some x') (Ef:znu I lo=some lo') (JG:znu I hi=some AK) (ht:P.underlying t=some .string)
 (he:zaj N.G p s (.slstr x' lo' AK)=some e):zdb N A μ s w ((Instr.sliceAt t (a.eval x) (lo.map a.eval) (hi.map a.eval) none).run P w) e:=by
 simp only[zaj,zC,zB]at he;obtain⟨u,hu,he⟩:=he;split at he
 ·rename_i b;simp only[zB]at he;obtain⟨h,hh,l,hl,he⟩:=he;split at he
  ·rename_i hb;simp only[zA]at he;subst he;have hv:=(zat hI R hx hu).str_inv
   have Kt:(hi.map a.eval=none/\h=b.size)\/ ∃k,hi.map a.eval=some (.int k h):=by
    rcases zit hI R JG hh with⟨rfl,h⟩ | ⟨o,k,rfl,h⟩
    ·exact .inl ⟨rfl,h⟩
    ·exact .inr ⟨k,by simp[h]⟩
   have CE:(lo.map a.eval=none/\l=0)\/ ∃k,lo.map a.eval=some (.int k l):=by
    rcases zit hI R Ef hl with⟨rfl,h⟩ | ⟨o,k,rfl,h⟩
    ·exact .inl ⟨rfl,by simpa using h⟩
    ·exact .inr ⟨k,by simp[h]⟩
   have:=zhq (P:=P) (w:=w) (b:=false) Kt CE hb.1 hb.2.1 hb.2.2;refine⟨_,?_,(RepC.t (.str _)).toV,rfl,rfl,rfl,rfl⟩;simp[Instr.sliceAt,zau ht,Instr.slice,hv,this]
  ·simp at he
 ·simp at he
theorem zOB (hI:I.Ok N) (R:Rel N c ns A μ lam s a w) {x:Operand} {lo hi:Option Operand} {x':Opd} {lo' AK:Option Opd} {t el:TypeId} {n:Nat} {ag:Bool}
 (hx:opd I x=some x') (Ef:znu I lo=some lo') (JG:znu I hi=some AK) (ht:P.underlying t=some (.array n el)) (A6:typ P el=some (ag,1))
 (he:zaj N.G p s (.slicA n x' lo' AK)=some e):zdb N A μ s w ((Instr.sliceAt t (a.eval x) (lo.map a.eval) (hi.map a.eval) none).run P w) e:=by
 simp only[zaj,zC,zB]at he;obtain⟨u,hu,he⟩:=he;split at he
 ·rename_i k;split at he
  ·rename_i rs frz hk;simp only[zB]at he;obtain⟨h,hh,l,hl,he⟩:=he;split at he
   ·rename_i hb;obtain⟨Co,Cx,BM,H9⟩:=hb;simp only[zA]at he;subst he;obtain⟨hv,_⟩:=(zat hI R hx hu).mp_inv hk;obtain⟨inf,g1,g2,g3,g4⟩:=zbr A6
    have Kt:(hi.map a.eval=none/\h=n)\/ ∃k,hi.map a.eval=some (.int k h):=by
     rcases zit hI R JG hh with⟨rfl,h⟩ | ⟨o,k,rfl,h⟩
     ·exact .inl ⟨rfl,h⟩
     ·exact .inr ⟨k,by simp[h]⟩
    have CE:(lo.map a.eval=none/\l=0)\/ ∃k,lo.map a.eval=some (.int k l):=by
     rcases zit hI R Ef hl with⟨rfl,h⟩ | ⟨o,k,rfl,h⟩
     ·exact .inl ⟨rfl,by simpa using h⟩
     ·exact .inr ⟨k,by simp[h]⟩
    have Kz:=zhq (P:=P) (w:=w) (b:=false) (cap:=n) Kt CE Co Cx BM;obtain⟨cc,e0,z,q1,q2,q3,_⟩:=R.heap k _ hk;refine⟨.slice (some (if n=l.toNat then⟨μ k,0,none⟩else(⟨μ k,0,none⟩:Addr).add (l.toNat*1))) (h.toNat-l.toNat) (n-l.toNat),?_,RepC.toV ?_,rfl,rfl,rfl,rfl⟩
    ·simp[Instr.sliceAt,zau ht,hv,Instr.sureAddr,Kz,zaO g1,g2]
    ·have e1:(h-l).toNat=h.toNat-l.toNat:=by omega
     rw[e1];refine .ms k l.toNat (h.toNat-l.toNat) (n-l.toNat) 1 rs frz _ hk (by omega) (by omega) ?_
     by_cases hc:n=l.toNat
     ·exact .inl (by omega)
     ·refine .inr ⟨by rw[if_neg hc];simp[Addr.add];intros;omega,e0,cc.size,by simp[World.shape?,q1],by omega⟩
   ·cases he
  ·cases he
 ·cases he
end
end Rg
end
section
namespace Rg
open Go
theorem zfn {α:Type} {cs new r:List α} {off:Nat} (h:wr cs off new=some r):
 off+new.length<=cs.length/\r.length=cs.length/\ ∀k,r[k]? =if off<=k/\k<off+new.length then new[k-off]? else cs[k]? :=by
 unfold wr at h;split at h
 ·rename_i A5;simp only[zA]at h;subst h;refine⟨A5,by simp;omega,fun k=> ?_⟩;simp only[List.getElem?_append,zM,List.length_take,zO,List.getElem?_drop];have hm:min off cs.length=off:=by omega
  rw[hm]
  by_cases h1:k<off
  ·rw[if_pos (by omega),if_pos h1,if_pos h1,if_neg (by omega)]
  ·by_cases h2:k<off+new.length
   ·rw[if_pos h2,if_neg h1,if_pos (by omega)]
   ·rw[if_neg h2,if_neg (by omega)]
    congr 1;omega
 ·simp at h
theorem zlA (off:Nat): ∀(vs:List Value) (j0:Nat) (cs:Array Value),
 ((vs.zipIdx j0).foldl (fun cs (x:Value×Nat)=>match x with | (c,j)=>cs.setIfInBounds (off+j) c) cs).size=cs.size/\
 ∀k,((vs.zipIdx j0).foldl (fun cs (x:Value×Nat)=>match x with | (c,j)=>cs.setIfInBounds (off+j) c) cs)[k]? =
  if off+j0<=k/\k<off+j0+vs.length/\k<cs.size then vs[k-(off+j0)]? else cs[k]?
 | [],j0,cs=>by simp;intro k h1 h2;omega
 | v::vs,j0,cs=>by
   obtain⟨h1,h2⟩:=zlA off vs (j0+1) (cs.setIfInBounds (off+j0) v);simp only[List.zipIdx_cons,List.foldl_cons];refine⟨by rw[h1];simp,fun k=> ?_⟩;rw[h2 k];simp only[Array.size_setIfInBounds,Array.getElem?_setIfInBounds,List.length_cons]
   by_cases e:k=off+j0
   ·subst e;rw[if_neg (by omega)]
    by_cases Ad:off+j0<cs.size
    ·rw[if_pos rfl,if_pos Ad,if_pos ⟨by omega,by omega,Ad⟩];simp
    ·rw[if_pos rfl,if_neg Ad,if_neg (by omega)];simp[Array.getElem?_eq_none (Nat.le_of_not_lt Ad)]
   ·rw[if_neg (Ne.symm e)]
    by_cases h3:off+(j0+1)<=k/\k<off+(j0+1)+vs.length/\k<cs.size
    ·rw[if_pos h3,if_pos ⟨by omega,by omega,h3.2.2⟩];have:k-(off+j0)=(k-(off+(j0+1)))+1:=by omega
     rw[this];simp
    ·rw[if_neg h3,if_neg (by omega)]
section
variable {w:World} {A:Nat->Prop} {nm μ:Nat->Nat} {H:Nat->Option O}
theorem zfk.splice {vs us:List Value} {cs new r:List V} {off:Nat} (h:zfk w A nm μ H vs cs) (hn:zfk w A nm μ H us new) (hw:wr cs off new=some r) (vs':List Value) (hl:vs'.length=vs.length)
 (hg: ∀k,k<vs.length->vs'[k]? =if off<=k/\k<off+us.length then us[k-off]? else vs[k]?):zfk w A nm μ H vs' r:=by
 obtain⟨h1,h2,h3⟩:=zfn hw;refine⟨by rw[hl,h.1,h2],fun i x hi=> ?_⟩;have Ad:i<vs.length:=by rw[h.1,<- h2];exact(zH.1 hi).1
 rw[h3 i]at hi;rw[hg i Ad]
 by_cases hc:off<=i/\i<off+new.length
 ·rw[if_pos hc]at hi;rw[if_pos (by rw[hn.1];exact hc)];exact hn.2 _ x hi
 ·rw[if_neg hc]at hi;rw[if_neg (by rw[hn.1];exact hc)];exact h.2 i x hi
end
section
variable {P:Program} {N:Nam} {I:Inv} {c:Ctx} {ns p:Nat} {A:Nat->Prop} {μ lam:Nat->Nat} {s:St} {a:Act} {w:World} {e:Eff}
theorem zpC (hI:I.Ok N) (R:Rel N c ns A μ lam s a w) (place:Nat->Option (Nat×Nat)): ∀(parts:List (Nat×Operand)) (ps:List (Nat×Nat×Opd)) (cells:Array Value) (cs cs':List V),
 (parts.length=ps.length/\ ∀(i:Nat) (q:Nat×Nat×Opd),ps[i]? =some q-> ∃x,parts[i]? =some x/\place x.1=some (q.1,q.2.1)/\opd I x.2=some q.2.2)->
 zfk w A N.nm μ s.heap cells.toList cs->zbY N.G cs s ps=some cs'->
 ∃cells',Instr.fill place cells (parts.map fun x=>(x.1,a.eval x.2))=some cells'/\zfk w A N.nm μ s.heap cells'.toList cs'
 | [],ps,cells,cs,cs',Cd,Ae,hf=>by
   obtain⟨hl,_⟩:=Cd;have:ps=[]:=List.length_eq_zero_iff.1 (by simpa using hl.symm);subst this;simp only[zbY,zA]at hf;subst hf
   exact⟨cells,rfl,Ae⟩
 | (i,x)::parts,[],cells,cs,cs',Cd,Ae,hf=>by simp at Cd
 | (i,x)::parts,(off,n,y)::ps,cells,cs,cs',Cd,Ae,hf=>by
   obtain⟨hl,hq⟩:=Cd;obtain⟨q0,KN,BL,Ao⟩:=hq 0 _ rfl;simp only[List.getElem?_cons_zero,zA]at KN;subst KN;simp only at BL Ao;simp only[zbY,zC,zB]at hf;obtain⟨v,hv,new,G3,hf⟩:=hf;split at hf
   ·rename_i Ac;simp only[zB]at hf;obtain⟨cs1,Cj,hf⟩:=hf;have hr:=(zat hI R Ao hv).cells G3;obtain⟨g1,g2,g3⟩:=zfn Cj;have AS:(a.eval x).cells.size=n:=by have:=hr.1;simp at this;omega
    obtain⟨f1,f2⟩:=zlA off (a.eval x).cells.toList 0 cells
    have Gx:zfk w A N.nm μ s.heap (((a.eval x).cells.toList.zipIdx 0).foldl (fun cs (x:Value×Nat)=>match x with | (c,j)=>cs.setIfInBounds (off+j) c) cells).toList cs1:=by
     refine Ae.splice hr Cj _ (by simpa using f1) (fun k hk=> ?_);simp only[Array.getElem?_toList];rw[f2 k];simp only[Nat.add_zero,Array.length_toList]at hk⊢
     by_cases hc:off<=k/\k<off+(a.eval x).cells.size
     ·rw[if_pos ⟨hc.1,hc.2,hk⟩,if_pos hc];simp
     ·rw[if_neg (by omega),if_neg hc]
    obtain⟨cells',h1,h2⟩:=zpC hI R place parts ps _ cs1 cs' ⟨by simpa using hl,fun i q hi=>by
     obtain⟨z,hz,Tv⟩:=hq (i+1) q (by simpa using hi)
     exact⟨z,by simpa using hz,Tv⟩⟩ Gx hf
    refine⟨cells',?_,h2⟩;have By:cells.size=cs.length:=by have:=Ae.1;simpa using this
    have GD: ¬(off+(a.eval x).cells.size>cells.size):=by omega
    simp only[List.map_cons,Instr.fill,BL,AS];rw[<- h1];have:(decide (n≠n)||decide (off+n>cells.size))=false:=by simp;omega
    simp only[this,zG,if_false]
    congr 1
    rw[<- Array.foldl_toList];simp
   ·simp at hf
theorem ziK {fields:Array Field} (h:fields.toList.all (fun f=>(typ P f.type).isSome)=true):
 (fields.mapM (m:=Sem) fun f=>do pure (f.offset,<- Go.sizeOf f.type)).run P w= .ok (fields.map fun f=>(f.offset,(P.info? f.type).elim 0 (·.size))) w:=by
 have key: ∀(l:List Field),l.all (fun f=>(typ P f.type).isSome)=true->
  (l.mapM (m:=Sem) fun f=>do pure (f.offset,<- Go.sizeOf f.type)).run P w= .ok (l.map fun f=>(f.offset,(P.info? f.type).elim 0 (·.size))) w:=by
  intro l hl
  induction l with
  | nil=>simp
  | cons f l ih=>
    simp only[List.all_cons,zF]at hl;obtain⟨⟨ag,n⟩,A6⟩:=Option.isSome_iff_exists.1 hl.1;obtain⟨inf,g1,g2,g3,g4⟩:=zbr A6;simp only[List.mapM_cons,Sem.run_bind,zaO g1,Result.andThen_ok,Sem.run_pure,ih hl.2];simp[g1]
 rw[Array.mapM_eq_mapM_toList];simp only[Sem.run_map,key _ h,Result.andThen_ok]
 congr 1
 apply Array.ext';simp
theorem zb4 {t:TypeId} {z:List V} (h:zdc P t=some z): ∃i v,P.info? t=some i/\i.zero=some v/\cellsOf v=some z/\ ∀w,(zeroValue t).run P w= .ok v w:=by
 unfold zdc at h;split at h
 ·rename_i i hi;split at h
  ·rename_i v hv;exact⟨i,v,hi,hv,h,fun w=>by simp[zeroValue,zgP hi,hv]⟩
  ·simp at h
 ·simp at h
theorem zrF (hI:I.Ok N) (R:Rel N c ns A μ lam s a w) {t:TypeId} {z:List V} {parts:Array (Nat×Operand)} {ps:List (Nat×Nat×Opd)} {place:Nat->Option (Nat×Nat)}
 (hz:zdc P t=some z)
 (hu:(∃fields,P.underlying t=some (.struct fields)/\fields.toList.all (fun f=>(typ P f.type).isSome)=true/\place=((fields.map fun f=>(f.offset,(P.info? f.type).elim 0 (·.size)))[·]?))\/
   (∃len el ag n,P.underlying t=some (.array len el)/\typ P el=some (ag,n)/\place=fun i=>some (i*n,n)))
 (Cd:parts.toList.length=ps.length/\ ∀(i:Nat) (q:Nat×Nat×Opd),ps[i]? =some q-> ∃x,parts.toList[i]? =some x/\place x.1=some (q.1,q.2.1)/\opd I x.2=some q.2.2)
 (he:zaj N.G p s (.build z ps)=some e):zdb N A μ s w ((Instr.build t (parts.map fun(i,x)=>(i,a.eval x))).run P w) e:=by
 simp only[zaj,zC,zB,zA]at he;obtain⟨cs,AL,rfl⟩:=he;obtain⟨i,v,hi,hv,hc,Am⟩:=zb4 hz;obtain⟨cells',h1,h2⟩:=zpC hI R place parts.toList ps v.cells z cs Cd (zbT hc) AL;have Bk:(parts.map fun(i,x)=>(i,a.eval x)).toList=parts.toList.map fun x=>(x.1,a.eval x.2):=by simp
 refine⟨.agg cells',?_,⟨cells',rfl,h2⟩,rfl,rfl,rfl,rfl⟩;rcases hu with⟨fields,hf,Aa,rfl⟩ | ⟨len,el,ag,n,hf,A6,rfl⟩
 ·simp only[Instr.build,Sem.run_bind,Am w,Result.andThen_ok,zau hf,ziK Aa,Bk,h1,Sem.run_pure]
 ·obtain⟨inf,g1,g2,g3,g4⟩:=zbr A6;simp only[Instr.build,Sem.run_bind,Am w,Result.andThen_ok,zau hf,zaO g1,g2,Bk,h1,Sem.run_pure]
end
end Rg
end
