/- Part of the proof of laws of relyguardlaw36. No condition. -/
import Derived.Test.YtaiokglcgiemnaaGreatDoorGartAA
import Derived.Laws.StructEq
set_option linter.unusedVariables false
set_option linter.defProp false
set_option linter.unusedSimpArgs false
section
namespace Rg
open Go
structure Inv where
 fi:Nat->Option Nat
 gi:Nat->Option Nat
 tB:Option Nat
structure Inv.Ok (I:Inv) (N:Nam):Prop where
 f: ∀f k,I.fi f=some k->N.nm k=f
 g: ∀g k,I.gi g=some k->N.gm k=g/\N.G k≠[]
 b: ∀t,I.tB=some t->N.tB=t
def rM:Value->Option V
 | .int k n=>some (.t (.int k n))
 | .bool b=>some (.t (.bool b))
 | .string s=>some (.t (.str s))
 | .pointer none=>some (.t .nilp)
 | .slice none 0 0=>some (.t .nils)
 | .map none=>some (.t .nilm)
 | .nilFunc=>some (.t .nilf)
 | .nilIface=>some (.t .nili)
 | _=>none
def cellsOf (v:Value):Option (List V):=v.cells.toList.mapM rM
def sy:Value->Option V
 | .agg cs=>(cs.toList.mapM rM).map V.agg
 | v=>rM v
section
variable (P:Program) (I:Inv)
def opd:Operand->Option Opd
 | .tmp t=>some (.s t)
 | .const v=>(sy v).map .c
 | .global g=>(I.gi g).map .g
 | .func f=>(I.fi f).map fun k=> .c (.t (.fn k [] []))
def hX:Option Operand->Option (Option Opd)
 | none=>some none
 | some x=>(opd I x).map some
def opds (xs:Array Operand):Option (List Opd):=xs.toList.mapM (opd I)
def typ (t:TypeId):Option (Bool×Nat):=
 match P.info? t,P.underlying t with
 | some i,some (.struct _)=>some (true,i.size)
 | some i,some (.array _ _)=>some (true,i.size)
 | some i,some _=>if i.size=1 then some (false,1)else none
 | _,_=>none
def gg (t:TypeId):Option (List V):=
 match P.info? t with
 | some i=>match i.zero with
   | some z=>cellsOf z
   | none=>none
 | none=>none
def uT (t:TypeId):Option V:=do
 let i<- P.info? t
 let v<- i.zero
 sy v
def u7 (b:Nat->Bool):Operand->Bool
 | .tmp t=>b t
 | _=>false
def r0 (b:Nat->Bool):Option Nat->Bool
 | some d=>b d
 | none=>false
def gH (t:TypeId):Option Nat:=
 match P.underlying t with
 | some (.int _)=>some 0
 | some .bool=>some 1
 | some .string=>some 2
 | _=>none
def jv (i:Nat):List Field->Option (List Nat)
 | []=>some []
 | f::fs=>do
   let k<- gH P f.type
   let ks<- jv (i+1) fs
   if f.name ≠ "_" /\ f.offset = i /\ typ P f.type = some (false, 1) then some (k :: ks) else none
def jG (t:TypeId):Option (List Nat):=
 match P.underlying t with
 | some (.struct fields)=>if P.stoodInHeld t=false/\P.eqGuardType P.depth t=false then jv P 0 fields.toList else none
 | _=>none
def qd (i:Nat):List Field->Option (List Nat)
 | []=>some []
 | f::fs=>match gH P f.type with
   | some k=>do
     let ks<- qd (i+1) fs
     if f.name ≠ "_" /\ f.offset = i /\ typ P f.type = some (false, 1) then some (k :: ks) else none
   | none=>do
     let k1<- jG P f.type
     let ks<- qd (i+k1.length) fs
     if f.name ≠ "_" /\ f.offset = i /\ typ P f.type = some (true, k1.length) /\ 0 < k1.length then some (k1 ++ ks) else none
def yL (t:TypeId):Option (List Nat):=
 match P.underlying t with
 | some (.struct fields)=>if P.stoodInHeld t=false/\P.eqGuardType P.depth t=false then qd P 0 fields.toList else none
 | _=>none
def sc (t:TypeId):Option Nat:=
 match gH P t with
 | some k=>some k
 | none=>(jG P t).map fun b=>3+j5 b
def kbJ (k:Nat):Bool:=k==197
def yJ (t:TypeId):Bool:=
 match(P.info? t).bind (·.zero)with
 | some (.agg cs)=>match cs.toList with
   | [.pointer none,.slice none 0 0]=>true
   | _=>false
 | _=>false
def cE (g:Nat->Bool) (d:Option Nat):Op->Option AOp
 | .move x | .assign x=>(opd I x).map .mv
 | .pick c a b=>do
   let c<- opd I c
   let a<- opd I a
   let b<- opd I b
   some (.pick c a b)
 | .alloc t=>do
   let z<- gg P t
   if I.tB=some t then if r0 g d=false/\yJ P t=true then some .allocB else none
   else if r0 g d then some (.allocL z)else some (.allocH z)
 | .box t x=>do
   let(_,n)<- typ P t
   let x<- opd I x
   if r0 g d then some (.boxL n x)else some (.boxH n x)
 | .build t parts=>do
   let z<- gg P t
   match P.underlying t with
   | some (.struct fields)=>do
     let ps<- parts.toList.mapM fun(i,x)=>do
      let f<- fields[i]?
      let(_,n)<- typ P f.type
      let x<- opd I x
      some (f.offset,n,x)
     if fields.toList.all (fun f=>(typ P f.type).isSome)then some (.build z ps)else none
   | some (.array _ e)=>do
     let(_,n)<- typ P e
     let ps<- parts.toList.mapM fun(i,x)=>do
      let x<- opd I x
      some (i*n,n,x)
     some (.build z ps)
   | _=>none
 | .buildSlice t len parts=>do
   match P.underlying t with
   | some (.slice e)=>do
     let(_,n)<- typ P e
     let z<- gg P e
     let ps<- parts.toList.mapM fun(i,x)=>do
      let x<- opd I x
      some (i,x)
     if len*n<=2^24/\0<n/\z.length=n then some (.bslice n len z ps)else none
   | _=>none
 | .load t a=>do
   let(ag,n)<- typ P t
   let x<- opd I a
   if u7 g a then some (.loadL ag n x)else some (.load ag n x)
 | .store t a v=>do
   let(_,n)<- typ P t
   let x<- opd I a
   let v<- opd I v
   if d.isSome then none else if u7 g a then some (.storeL n x v)else some (.store n x v)
 | .nilCheck x=>(opd I x).map .nilchk
 | .binOp op t x y _=>do
   let a<- opd I x
   let b<- opd I y
   match P.underlying t with
   | some (.int _)=>some (.bin op a b)
   | some .string=>some (.bin op a b)
   | some .bool=>match op with
     | .eql=>some (.eqb false a b)
     | .neq=>some (.eqb true a b)
     | _=>none
   | some (.struct _)=>do
     let n<- yL P t
     match op with
     | .eql=>some (.eqa false n a b)
     | .neq=>some (.eqa true n a b)
     | _=>none
   | _=>none
 | .unOp op _ x=>(opd I x).map (.un op)
 | .convert o d x=>do
   let a<- opd I x
   match P.underlying o,P.underlying d with
   | some (.int _),some (.int k)=>some (.conv k a)
   | some (.slice e),some .string=>match P.underlying e with
     | some (.int .u8)=>some (.bstr a)
     | _=>none
   | _,_=>none
 | .makeFunc (.func f) first cap=>do
   let k<- I.fi f
   let a<- opds I first
   let b<- opds I cap
   match kbJ k,a,b with
   | true,[],[x]=>some (.mkfnT k x)
   | _,_,_=>some (.mkfn k a b)
 | .makeSlice t l c=>do
   match P.underlying t with
   | some (.slice e)=>do
     let(_,n)<- typ P e
     let z<- gg P e
     let i<- P.info? e
     let l<- opd I l
     let c<- opd I c
     if 0<n/\z.length=n then some (.mkslice n i.bytes z l c)else none
   | _=>none
 | .slice t x lo hi mx=>do
   let a<- opd I x
   let l<- hX I lo
   let h<- hX I hi
   let m<- hX I mx
   match P.underlying t with
   | some (.slice e)=>do
     let(_,n)<- typ P e
     some (.slice n a l h m)
   | some .string=>if m.isNone then some (.slstr a l h)else none
   | _=>none
 | .fieldAddr t x f=>do
   let a<- opd I x
   match P.underlying t with
   | some (.struct fields)=>do
     let f<- fields[f]?
     let(_,n)<- typ P f.type
     if 0<n then if u7 g x then some (.faddrL f.offset a)else some (.faddr f.offset a)
     else none
   | _=>none
 | .field t x f=>do
   let a<- opd I x
   match P.underlying t with
   | some (.struct fields)=>do
     let f<- fields[f]?
     let(ag,n)<- typ P f.type
     some (.field ag f.offset n a)
   | _=>none
 | .indexAddr t x i=>do
   let a<- opd I x
   let j<- opd I i
   match P.underlying t with
   | some (.slice e)=>do
     let(_,n)<- typ P e
     some (.iaddrS n a j)
   | some (.array len e)=>do
     let(_,n)<- typ P e
     if u7 g x then some (.iaddrAL len n a j)else some (.iaddrA len n a j)
   | _=>none
 | .index t x i=>do
   let a<- opd I x
   let j<- opd I i
   match P.underlying t with
   | some (.array len e)=>do
     let(ag,n)<- typ P e
     some (.idxA ag len n a j)
   | some .string=>some (.idxS a j)
   | _=>none
 | .extract x i=>do
   let a<- opd I x
   some (.extr a i)
 | .makeMap t r=>do
   match P.underlying t,r with
   | some (.map _ _),none=>some .mkmap
   | some (.map _ _),some (.const (.int _ _))=>some .mkmap
   | _,_=>none
 | .lookup t x y q=>do
   let a<- opd I x
   let b<- opd I y
   match P.underlying t with
   | some (.map kt et)=>do
     let kd<- sc P kt
     let z<- uT P et
     some (.lookup kd z q a b)
   | _=>none
 | .mapUpdate t x y v=>do
   let a<- opd I x
   let b<- opd I y
   let u<- opd I v
   match P.underlying t with
   | some (.map kt _)=>do
     let kd<- sc P kt
     if d.isSome then none else some (.mapupd kd a b u)
   | _=>none
 | .insert t x y v=>do
   let a<- opd I x
   let b<- opd I y
   let u<- opd I v
   match P.underlying t with
   | some (.map kt _)=>do
     let kd<- sc P kt
     if d.isSome then none else some (.mapupd kd a b u)
   | _=>none
 | .call c=>do
   match c.callee with
   | .value _=>none
   | .builtin .len=>do
     match c.argTypes.toList,c.args.toList with
     | [t],[x]=>match P.underlying t with
       | some (.slice _)=>(opd I x).map .len
       | some .string=>(opd I x).map .slen
       | some (.array n _)=>some (.lenA n)
       | _=>none
     | _,_=>none
   | .builtin .append=>do
     match c.argTypes.toList,c.args.toList with
     | [t,u],[x,y]=>do
       let a<- opd I x
       let b<- opd I y
       match P.underlying t,P.underlying u with
       | some (.slice e),some (.slice _)=>do
         let(_,n)<- typ P e
         let i<- P.info? e
         let z<- gg P e
         if 0<n/\z.length=n then some (.append n i.bytes a b)else none
       | some (.slice e),some (.int _)=>do
         let(_,n)<- typ P e
         let i<- P.info? e
         let z<- gg P e
         if 0<n/\z.length=n then some (.appz n i.bytes z a b)else none
       | _,_=>none
     | _,_=>none
   | .builtin .copy=>do
     match c.argTypes.toList,c.args.toList with
     | [t,_],[x,y]=>do
       let a<- opd I x
       let b<- opd I y
       match P.underlying t with
       | some (.slice e)=>do
         let(_,n)<- typ P e
         if 0<n then some (.copy n a b)else none
       | _=>none
     | _,_=>none
   | .builtin .max=>do
     match c.argTypes.toList,c.args.toList with
     | [_,_],[x,y]=>do
       let a<- opd I x
       let b<- opd I y
       some (.mx false a b)
     | _,_=>none
   | .builtin .min=>do
     match c.argTypes.toList,c.args.toList with
     | [_,_],[x,y]=>do
       let a<- opd I x
       let b<- opd I y
       some (.mx true a b)
     | _,_=>none
   | .builtin .clear=>do
     match c.argTypes.toList,c.args.toList with
     | [t],[x]=>do
       let a<- opd I x
       match P.underlying t with
       | some (.slice e)=>do
         let(_,n)<- typ P e
         let z<- gg P e
         if 0<n/\z.length=n then some (.clear n z a)else none
       | _=>none
     | _,_=>none
   | .builtin .cap=>do
     match c.argTypes.toList,c.args.toList with
     | [t],[x]=>match P.underlying t with
       | some (.slice _)=>(opd I x).map .capN
       | _=>none
     | _,_=>none
   | _=>none
 | .panic _=>some .stop
 | .makeInterface _ _=>some .stop
 | _=>none
end
theorem jB (r o n:Nat):(⟨r,o,none⟩:Addr).add n=⟨r,o+n,none⟩:=by
 unfold Addr.add;split<;>simp_all
theorem aO.t_inv {w:World} {A:Nat->Prop} {nm μ:Nat->Nat} {H:ae} {v:Value} {x:T} (h:aO w A nm μ H v (.t x)):RepT w A nm v x:=by
 cases(h:RepC w A nm μ H v (.t x));assumption
theorem aO.int_inv {w:World} {A:Nat->Prop} {nm μ:Nat->Nat} {H:ae} {v:Value} {k:IntKind} {n:Int} (h:aO w A nm μ H v (.t (.int k n))):v= .int k n:=by
 cases h.t_inv;rfl
theorem aO.bool_inv {w:World} {A:Nat->Prop} {nm μ:Nat->Nat} {H:ae} {v:Value} {b:Bool} (h:aO w A nm μ H v (.t (.bool b))):v= .bool b:=by
 cases h.t_inv;rfl
theorem aO.str_inv {w:World} {A:Nat->Prop} {nm μ:Nat->Nat} {H:ae} {v:Value} {b:ByteArray} (h:aO w A nm μ H v (.t (.str b))):v= .string b:=by
 cases h.t_inv;rfl
theorem ry {w:World} {A:Nat->Prop} {nm μ:Nat->Nat} {H:ae} {v:Value} {x:V} (h:rM v=some x):RepC w A nm μ H v x:=by
 unfold rM at h
 split at h<;>first
  | (simp at h;done)
  | (simp only[zA]at h;subst h;exact .t (by constructor))
theorem fU {α β:Type} {f:α->Option β}: ∀{l:List α} {r:List β},l.mapM f=some r->l.length=r.length/\ ∀(i:Nat) (y:β),r[i]? =some y-> ∃x,l[i]? =some x/\f x=some y
 | [],r,h=>by simp at h;subst h;simp
 | x::l,r,h=>by
   simp only[cQ,zC,zB,Option.pure_def,zA]at h;obtain⟨y,k,ys,d,rfl⟩:=h;obtain⟨g,j⟩:=fU d;refine⟨by simp[g],fun i z b=> ?_⟩
   cases i with
   | zero=>simp at b;subst b;exact⟨x,rfl,k⟩
   | succ i=>simp at b;simpa using j i z b
theorem lF {w:World} {A:Nat->Prop} {nm μ:Nat->Nat} {H:ae} {v:Value} {cs:List V} (h:cellsOf v=some cs):
 co w A nm μ H v.cells.toList cs:=by
 obtain⟨b,d⟩:=fU h;exact⟨b,fun i c hi=>let⟨x,hx,hf⟩:=d i c hi;⟨x,hx,ry hf⟩⟩
theorem X_ {w:World} {A:Nat->Prop} {nm μ:Nat->Nat} {H:ae} {v:Value} {x:V} (h:sy v=some x):aO w A nm μ H v x:=by
 unfold sy at h;split at h
 ·simp only[zE]at h;obtain⟨cs,b,rfl⟩:=h;obtain⟨d,f⟩:=fU b;exact⟨_,rfl,d,fun i c hi=>let⟨x,hx,hf⟩:=f i c hi;⟨x,hx,ry hf⟩⟩
 ·exact(ry h).toV
section
variable {P:Program} {N:Nam} {I:Inv} {c:Ctx} {ns:Nat} {A:Nat->Prop} {μ lam:Nat->Nat} {s:St} {a:Act} {w:World}
theorem bx (n:I.Ok N) (R:Rel N c ns A μ lam s a w) {x:Operand} {y:Opd} {v:V} (d:opd I x=some y) (b:evl N.G s y=some v):
 aO w A N.nm μ s.heap (a.eval x) v:=by
 cases x with
 | tmp t=>
   simp only[opd,zA]at d;subst d;have r:=R.env t;simp only[evl]at b;split at b<;>first | (simp at b;done) | skip
   simp only[zA]at b;subst b
   exact r
 | const v0=>
   simp only[opd,zE]at d;obtain⟨z,h,rfl⟩:=d;simp only[evl,zA]at b;subst b
   exact X_ h
 | global g=>
   simp only[opd,zE]at d;obtain⟨k,h,rfl⟩:=d;simp only[evl,zA]at b;subst b;obtain⟨rfl,o⟩:=n.g g k h
   have q:A (N.gm k):=by
    cases m:N.G k with
    | nil=>exact absurd m o
    | cons x l=>exact(R.glob k 0 x (by simp[m])).1
   show RepC w A N.nm μ s.heap _ _;refine .t (.ip (N.gm k) 0 (N.G k) (fun j=>(w.cell? ⟨N.gm k,0+j,none⟩).getD undef) q ?_ ?_)
   ·intro j x i;obtain⟨_,_,v,b,_⟩:=R.glob k j x i;simp[b]
   ·intro j x i;obtain⟨_,_,v,b,u⟩:=R.glob k j x i
    simpa[b]using u
 | func f=>
   simp only[opd,zE]at d;obtain⟨k,h,rfl⟩:=d;simp only[evl,zA]at b;subst b;have:=n.f f k h;subst this;show RepC w A N.nm μ s.heap _ _;exact .t (.fn k [] [] #[] #[] (fun _=>undef) (fun _=>undef) rfl rfl af af af af)
theorem tN (R:Rel N c ns A μ lam s a w) {x:Operand} {y:Opd} {b o:Nat} {cs:List V} (h:opd I x=some y) (d:bF s y=some (b,o)) (j:s.loc b=some cs):
 a.eval x= .pointer (some ⟨lam b,o,none⟩):=by
 cases x with
 | tmp t=>
   simp only[opd,zA]at h;subst h;simp only[bF]at d;split at d
   ·rename_i r i;simp only[zA]at d;subst d;exact(R.adr t b o i).2.2
   ·split at d<;>first | (simp at d;done) | skip
    simp only[zA,dx]at d;obtain⟨rfl,rfl⟩:=d
    exact(R.loc t cs j).1
 | const v0=>
   simp only[opd,zE]at h;obtain⟨_,_,rfl⟩:=h
   simp[bF]at d
 | global g=>
   simp only[opd,zE]at h;obtain⟨_,_,rfl⟩:=h
   simp[bF]at d
 | func f=>
   simp only[opd,zE]at h;obtain⟨_,_,rfl⟩:=h;simp[bF]at d
theorem kH (d:I.Ok N) (R:Rel N c ns A μ lam s a w) {x:Operand} {y:Opd} {n:Int} (g:opd I x=some y) (b:eZ N.G s y=some n):
 ∃k,a.eval x= .int k n:=by
 unfold eZ at b;split at b<;>first | (simp at b;done) | skip
 rename_i k m f;simp only[zA]at b;subst b;exact⟨_,(bx d R g f).int_inv⟩
theorem ut (f:I.Ok N) (R:Rel N c ns A μ lam s a w) {x:Operand} {y:Opd} {b:Bool} (h:opd I x=some y) (d:ib N.G s y=some b):
 a.eval x= .bool b:=by
 unfold ib at d;split at d<;>first | (simp at d;done) | skip
 rename_i m g;simp only[zA]at d;subst d;exact(bx f R h g).bool_inv
end
theorem se {P:Program} {w:World} {t:TypeId} {i:TypeInfo} (h:P.info? t=some i):(typeInfo t).run P w= .ok i w:=by
 simp[typeInfo,h]
theorem dw {P:Program} {w:World} {t:TypeId} {i:TypeInfo} (h:P.info? t=some i):(Go.sizeOf t).run P w= .ok i.size w:=by
 simp[Go.sizeOf,se h]
theorem bi {P:Program} {w:World} {t:TypeId} {d:TypeDesc} (h:P.underlying t=some d):(underlying t).run P w= .ok d w:=by
 simp[underlying,h]
theorem fE {P:Program} {t:TypeId} {ag:Bool} {n:Nat} (h:typ P t=some (ag,n)):
 ∃i,P.info? t=some i/\i.size=n/\(ag=false->n=1)/\ ∀w,(isAgg t).run P w= .ok ag w:=by
 unfold typ at h;split at h
 ·rename_i i k b f;simp only[zA,dx]at h;obtain⟨rfl,rfl⟩:=h;exact⟨i,b,rfl,af,fun w=>by simp[isAgg,bi f]⟩
 ·rename_i i l e b f;simp only[zA,dx]at h;obtain⟨rfl,rfl⟩:=h;exact⟨i,b,rfl,af,fun w=>by simp[isAgg,bi f]⟩
 ·rename_i i d f m b g;split at h
  ·rename_i j;simp only[zA,dx]at h;obtain⟨rfl,rfl⟩:=h;refine⟨i,b,j,af,fun w=> ?_⟩;simp only[isAgg,Sem.run_bind,bi g,Result.andThen_ok];cases d<;>simp_all
  ·simp at h
 ·simp at h
def iT (ag:Bool) (vs:List Value):Value:=if ag then .agg vs.toArray else vs.headD undef
theorem rr {P:Program} {w:World} {t:TypeId} {ag:Bool} {n:Nat} (h:typ P t=some (ag,n)) (r b:Nat) (vs:List Value) (g:vs.length=n)
 (k: ∀(j:Nat) (v:Value),vs[j]? =some v->w.cell? ⟨r,b+j,none⟩=some v):(loadVar t ⟨r,b,none⟩).run P w= .ok (iT ag vs) w:=by
 obtain⟨i,l,rfl,m,f⟩:=fE h
 cases ag with
 | true=>
   have d:=run_loadCells_list (P:=P) (w:=w) ⟨r,b,none⟩ vs (fun j v o=>by rw[jB];exact k j v o);rw[g]at d
   simp[loadVar,f w,dw l,d,iT]
 | false=>
   have q:vs.length=1:=by rw[g,m rfl]
   match vs,q with
   | [v],_=>
     have:=k 0 v rfl;simp only[gV]at this;simp[loadVar,f w,this,iT]
section
variable {w:World} {A:Nat->Prop} {nm μ:Nat->Nat} {H:Nat->Option O}
theorem co.rd {vs:List Value} {cs r:List V} {b n:Nat} (h:co w A nm μ H vs cs) (d:rd cs b n=some r):
 co w A nm μ H ((vs.drop b).take n) r/\b+n<=vs.length/\r.length=n:=by
 unfold Rg.rd at d;split at d
 ·rename_i f;simp only[zA]at d;subst d;refine⟨⟨by simp[h.1],fun i c hi=> ?_⟩,by rw[h.1];exact f,by simp;omega⟩;simp only[zO,fx]at hi⊢;split at hi
  ·rename_i j;obtain⟨v,k,g⟩:=h.2 _ c hi;exact⟨v,by simp[j,k],g⟩
  ·simp at hi
 ·simp at d
theorem co.wrap1 {vs:List Value} {r:List V} {ag:Bool} {v:V} (h:co w A nm μ H vs r) (b:dW ag r=some v):cu w A nm μ H (iT ag vs) v:=by
 cases ag with
 | true=>
   simp only[dW,aU,zA]at b;subst b
   exact⟨_,rfl,al h⟩
 | false=>
   simp only[dW,zG,aX]at b;split at b
   ·simp only[zA]at b;subst b;rename_i x;obtain⟨u,d,f⟩:=h.2 0 x rfl
    match vs,h.1,d with
    | [u'],_,d=>simp at d;subst d;simpa[iT]using f.toV1
   ·simp at b
theorem co.wrap {vs:List Value} {r:List V} {ag:Bool} {v:V} (h:co w A nm μ H vs r) (b:dW ag r=some v):aO w A nm μ H (iT ag vs) v:=(h.wrap1 b).toV
end
def Plain (e:Eff):Prop:=e.adr=none/\e.loc=none/\e.wloc=none/\e.hp=[]
def dq (N:Nam) (A:Nat->Prop) (μ:Nat->Nat) (s:St) (w:World) (r:Result Value) (e:Eff):Prop:=
 ∃v,r= .ok v w/\aO w A N.nm μ s.heap v e.val/\Plain e
section
variable {P:Program} {N:Nam} {I:Inv} {c:Ctx} {ns p:Nat} {A:Nat->Prop} {μ lam:Nat->Nat} {s:St} {a:Act} {w:World} {e:Eff}
theorem aO.ip_inv {w:World} {A:Nat->Prop} {nm μ:Nat->Nat} {H:ae} {v:Value} {cs:List T} (h:aO w A nm μ H v (.t (.ip cs))):
 ∃(r b:Nat) (d:Nat->Value),v= .pointer (some ⟨r,b,none⟩)/\A r/\(∀(j:Nat) (x:T),cs[j]? =some x->w.cell? ⟨r,b+j,none⟩=some (d j))/\(∀(j:Nat) (x:T),cs[j]? =some x->RepT w A nm (d j) x):=by
 cases h.t_inv with
 | ip r b _ d f i g=>exact⟨r,b,d,rfl,f,i,g⟩
theorem aO.mp_inv {w:World} {A:Nat->Prop} {nm μ:Nat->Nat} {H:ae} {v:Value} {k i d j:Nat} {rs:List (List V)} {f:Bool}
 (h:aO w A nm μ H v (.mp k i d)) (g:H k=some (.rows j rs f)):v= .pointer (some ⟨μ k,i*j+d,none⟩)/\i<rs.length:=by
 cases(h:RepC w A nm μ H v (.mp k i d))with
 | mp _ _ _ m l frz' b hi=>rw[g]at b;cases b;exact⟨rfl,hi⟩
 | mb _ _ b=>rw[g]at b;cases b
 | dmp _ _ _ b=>rw[g]at b;cases b
theorem aO.agg_inv {w:World} {A:Nat->Prop} {nm μ:Nat->Nat} {H:ae} {v:Value} {cs:List V} (h:aO w A nm μ H v (.agg cs)):
 ∃vs,v= .agg vs/\co w A nm μ H vs.toList cs:=h
theorem OI (R:Rel N c ns A μ lam s a w) {k b i:Nat} {rs:List (List V)} {g:Bool} {row:List V} (o:s.heap k=some (.rows b rs g)) (f:rs[i]? =some row):
 ∃vs:List Value,co w A N.nm μ s.heap vs row/\ ∀(j:Nat) (v:Value),vs[j]? =some v->w.cell? ⟨μ k,i*b+j,none⟩=some v:=by
 obtain⟨h,B,z,l,C,D,m,n⟩:=R.heap k _ o;have hi:i<rs.length:=(zH.1 f).1;have y:=m i row f
 have t:i*b+b<=h.size:=by
  have:(i+1)*b<=rs.length*b:=dT _ hi;rw[lD]at this;omega
 refine⟨(h.toList.drop (i*b)).take b,⟨by simp;omega,fun j x d=> ?_⟩,fun j v d=> ?_⟩
 ·have u:j<row.length:=(zH.1 d).1;obtain⟨v,r,q⟩:=n i row j x f d;refine⟨v,?_,q⟩;simp only[zO,fx,eu];rw[ah aa];exact r
 ·simp only[zO,fx,eu]at d;split at d
  ·simp[World.cell?,l,d]
  ·simp at d
theorem HS (d:I.Ok N) (R:Rel N c ns A μ lam s a w) {x:Operand} {y:Opd} (g:opd I x=some y) (b:ao N.G p s (.mv y)=some e):
 aO w A N.nm μ s.heap (a.eval x) e.val/\Plain e:=by
 simp only[ao,zC,zB,zA]at b;obtain⟨v,f,rfl⟩:=b;exact⟨bx d R g f,rfl,rfl,rfl,rfl⟩
theorem kbO (b:I.Ok N) (R:Rel N c ns A μ lam s a w) {i g h:Operand} {l j k:Opd} (o:opd I i=some l) (m:opd I g=some j) (n:opd I h=some k)
 (d:ao N.G p s (.pick l j k)=some e): ∃t,a.eval i= .bool t/\aO w A N.nm μ s.heap (if t then a.eval g else a.eval h) e.val/\Plain e:=by
 simp only[ao,zC,zB,zA]at d;obtain⟨t,q,v,f,rfl⟩:=d;refine⟨t,ut b R o q,?_,rfl,rfl,rfl,rfl⟩;cases t
 ·exact bx b R n f
 ·exact bx b R m f
theorem kb7 (R:Rel N c ns A μ lam s a w) {x:Operand} {y:Opd} {t:TypeId} {ag:Bool} {n:Nat} (D:opd I x=some y) (B:typ P t=some (ag,n))
 (h:ao N.G p s (.loadL ag n y)=some e):dq N A μ s w ((Instr.loadAt t (a.eval x)).run P w) e:=by
 simp only[ao,zC,zB,zA,cw]at h;obtain⟨b,o,z,cs,g,r,i,v,C,rfl⟩:=h;obtain⟨_,f,E,k,l⟩:=R.loc b cs g;obtain⟨m,q,F⟩:=l.rd i;refine⟨iT ag ((f.toList.drop o).take n),?_,m.wrap C,rfl,rfl,rfl,rfl⟩
 have u:=rr (w:=w) B (lam b) o ((f.toList.drop o).take n) (by simp at q⊢;omega) (fun j v d=>by
  simp only[zO,fx,eu]at d;split at d
  ·simp[World.cell?,k,d]
  ·simp at d)
 simp[Instr.loadAt,tN R D z g,Instr.sureAddr,u]
theorem kbP (U:I.Ok N) (R:Rel N c ns A μ lam s a w) {x:Operand} {y:Opd} {t:TypeId} {ag:Bool} {n:Nat} (X:opd I x=some y) (J:typ P t=some (ag,n))
 (d:ao N.G p s (.load ag n y)=some e):dq N A μ s w ((Instr.loadAt t (a.eval x)).run P w) e:=by
 simp only[ao,zC,zB]at d;obtain⟨u,W,d⟩:=d;have D:=bx U R X W;split at d
 ·rename_i k i f;split at d
  ·rename_i Z rs T G;simp only[zB,zA]at d;obtain⟨row,Q,r,g,v,C,rfl⟩:=d;obtain⟨B,_⟩:=aO.mp_inv D G;obtain⟨vs,m,o⟩:=OI R G Q;obtain⟨q,E,F⟩:=m.rd g;refine⟨iT ag ((vs.drop f).take n),?_,q.wrap C,rfl,rfl,rfl,rfl⟩
   have z:=rr (w:=w) J (μ k) (i*Z+f) ((vs.drop f).take n) (by simp;omega) (fun j v b=>by
    simp only[zO,fx]at b;split at b
    ·rw[nr];exact o _ v b
    ·simp at b)
   simp[Instr.loadAt,B,Instr.sureAddr,z]
  ·simp at d
 ·rename_i cs;simp only[zB,zA]at d;obtain⟨r,g,v,C,rfl⟩:=d;obtain⟨Y,f,h,B,hA,m,o⟩:=aO.ip_inv D
  have q:co w A N.nm μ s.heap ((List.range cs.length).map h) (cs.map V.t):=by
   refine⟨af,fun j x b=> ?_⟩;simp only[zJ,zE]at b;obtain⟨y,K,rfl⟩:=b;have M:j<cs.length:=(zH.1 K).1;exact⟨h j,by simp[M],.t (o j y K)⟩
  have S:rd (cs.map V.t) 0 n=some (r.map V.t):=by
   unfold rd at g⊢;split at g
   ·rename_i L;simp only[zA]at g;subst g;rw[ah (al L)];simp
   ·simp at g
  obtain⟨E,F,h6⟩:=q.rd S;refine⟨iT ag ((((List.range cs.length).map h).drop 0).take n),?_,E.wrap C,rfl,rfl,rfl,rfl⟩
  have z:=rr (w:=w) J Y f ((((List.range cs.length).map h).drop 0).take n) (by simp at F⊢;omega) (fun j v b=>by
   simp only[ij,zO]at b;split at b
   ·rename_i Kq;simp only[zJ,zE]at b;obtain⟨j',l,rfl⟩:=b
    have:j<cs.length:=by
     have:=(zH.1 l).1;simpa using this
    simp only[jt this,zA]at l;subst l;exact m j _ (zI this)
   ·simp at b)
  simp only[Instr.loadAt,B,Instr.sureAddr,Sem.run_bind,Sem.run_pure,Result.andThen_ok,z]
 ·simp at d
end
theorem kcb {P:Program} {w:World} {A:Nat->Prop} {nm:Nat->Nat} {op:BinOp} {x y r:T} {v u:Value} (h:mQ op x y=some r) (g:RepT w A nm v x) (i:RepT w A nm u y)
 (t:TypeId) (j l:Operand): ∃z,(do eqGuard op t j l v u;binOp op t v u:Sem Value).run P w= .ok z w/\RepT w A nm z r:=by
 cases g<;>(try(simp[mQ]at h;done))<;>cases i<;>(try(simp[mQ]at h;done))
 ·rename_i k m q n;simp only[mQ]at h;cases op<;>simp only at h
  case shl=>
   split at h
   ·simp at h
   ·rename_i f;simp only[zA]at h;subst h;exact⟨_,by simp[eqGuard,binOp,Op.shift,f],.int _ _⟩
  case shr=>
   split at h
   ·simp at h
   ·rename_i f;simp only[zA]at h;subst h;exact⟨_,by simp[eqGuard,binOp,Op.shift,f],.int _ _⟩
  case quo=>
   split at h
   ·rename_i d;subst d;split at h
    ·simp at h
    ·rename_i f;simp only[zA]at h;subst h;exact⟨_,by simp[eqGuard,binOp,Op.intDiv,f],.int _ _⟩
   ·simp at h
  case rem=>
   split at h
   ·rename_i d;subst d;split at h
    ·simp at h
    ·rename_i f;simp only[zA]at h;subst h;exact⟨_,by simp[eqGuard,binOp,Op.intDiv,f],.int _ _⟩
   ·simp at h
  case add | sub | mul=>
   split at h
   ·rename_i d;subst d;simp only[zA]at h;subst h;exact⟨_,by simp[eqGuard,binOp,Op.intArith],.int _ _⟩
   ·simp at h
  case and | or | xor | andNot=>
   split at h
   ·rename_i d;subst d;simp only[zA]at h;subst h;refine⟨_,?_,.int _ _⟩;simp only[eqGuard,binOp,Op.intBits];simp
   ·simp at h
  all_goals
   split at h
   ·rename_i d;subst d;simp only[zA]at h;subst h;exact⟨_,by simp[eqGuard,binOp,Op.intCmp],.bool _⟩
   ·simp at h
 ·rename_i b c;simp only[mQ]at h;cases op<;>simp only at h<;>(try(simp at h;done))
  case add=>
   split at h
   ·rename_i o;simp only[zA]at h;subst h;refine⟨_,?_,.str _⟩
    have : ¬((b.size+c.size:Nat):Int)>IntKind.i64.max:=by
     have:IntKind.i64.max=9223372036854775807:=aG
     omega
    simp only[eqGuard,binOp,Op.stringOp];simp;omega
   ·simp at h
  all_goals
   simp only[zA]at h;subst h;exact⟨_,by simp[eqGuard,binOp,Op.stringOp],.bool _⟩
section
variable {P:Program} {N:Nam} {I:Inv} {c:Ctx} {ns p:Nat} {A:Nat->Prop} {μ lam:Nat->Nat} {s:St} {a:Act} {w:World} {e:Eff}
theorem Tq (g:I.Ok N) (R:Rel N c ns A μ lam s a w) {x y:Operand} {h i:Opd} {op:BinOp} (n:opd I x=some h) (o:opd I y=some i)
 (f:ao N.G p s (.bin op h i)=some e) (t:TypeId):
 dq N A μ s w ((do eqGuard op t x y (a.eval x) (a.eval y);binOp op t (a.eval x) (a.eval y):Sem Value).run P w) e:=by
 simp only[ao,zC,zB]at f;obtain⟨u,l,v,m,f⟩:=f;split at f
 ·rename_i b d;simp only[zB,zA]at f;obtain⟨r,k,rfl⟩:=f;obtain⟨z,q,j⟩:=kcb (P:=P) k (bx g R n l).t_inv (bx g R o m).t_inv t x y;exact⟨z,q,(RepC.t j).toV,rfl,rfl,rfl,rfl⟩
 ·simp at f
theorem HL (j:I.Ok N) (R:Rel N c ns A μ lam s a w) {x y:Operand} {n o:Opd} {mn:Bool} (C:opd I x=some n) (D:opd I y=some o)
 (f:ao N.G p s (.mx mn n o)=some e) (l:Array TypeId) (t:TypeId):
 dq N A μ s w ((if mn then Builtin.min_ l t #[a.eval x,a.eval y]else Builtin.max_ l t #[a.eval x,a.eval y]:Sem Value).run P w) e:=by
 simp only[ao,zC,zB]at f;obtain⟨u,z,v,B,f⟩:=f;split at f
 ·rename_i b d;simp only[zB,zA]at f;obtain⟨r,g,rfl⟩:=f;have h:=(bx j R C z).t_inv;have i:=(bx j R D B).t_inv;unfold mxT at g;split at g
  ·rename_i k m E F;split at g
   ·rename_i q;subst q;simp only[zA]at g;subst g
    generalize a.eval x=G at h
    generalize a.eval y=J at i
    cases h;cases i;cases mn
    ·exact⟨_,by simp[Builtin.max_,Builtin.max2],(RepC.t (.int _ _)).toV,rfl,rfl,rfl,rfl⟩
    ·exact⟨_,by simp[Builtin.min_,Builtin.min2],(RepC.t (.int _ _)).toV,rfl,rfl,rfl,rfl⟩
   ·simp at g
  ·simp at g
 ·simp at f
theorem Tl (g:I.Ok N) (R:Rel N c ns A μ lam s a w) {x y:Operand} {i j:Opd} {op:BinOp} {f:Bool} (u:opd I x=some i) (v:opd I y=some j)
 (h:ao N.G p s (.eqb f i j)=some e) {t:TypeId} (r:P.underlying t=some .bool) (k:op=if f then .neq else .eql):
 dq N A μ s w ((do eqGuard op t x y (a.eval x) (a.eval y);binOp op t (a.eval x) (a.eval y):Sem Value).run P w) e:=by
 simp only[ao,zC,zB,zA]at h;obtain⟨b,o,d,q,rfl⟩:=h;rw[ut g R u o,ut g R v q];subst k;refine⟨.bool ((b==d) != f),?_,(RepC.t (.bool _)).toV,rfl,rfl,rfl,rfl⟩;have l: ∀n,(Op.equalIn (n+1) t (.bool b) (.bool d)).run P w= .ok (b==d) w:=fun n=>by simp[Op.equalIn,bi r]
 have m:(Op.equal t (.bool b) (.bool d)).run P w= .ok (b==d) w:=l 9999;cases f<;>simp[eqGuard,binOp,m]
theorem J7 {o:List Field} {xs ys:Array Value} {as bs:List V} {i:Nat} {C:List Nat} {r:Bool} {μ:Nat->Nat} {H:ae} {nm:Nat->Nat} (d:Nat)
 (g:jv P i o=some C) (hx:co w A nm μ H xs.toList as) (hy:co w A nm μ H ys.toList bs)
 (j:dB C (as.drop i) (bs.drop i)=some r):(Op.eqFields (d+1) xs ys o).run P w= .ok r w:=by
 induction o generalizing i r C with
 | nil=>
   simp only[jv,zA]at g;subst g;unfold dB at j
   split at j<;>simp_all [Op.eqFields]
 | cons f o ih=>
   simp only[jv,zC,zB]at g;obtain⟨k,h,ks',R,g⟩:=g;split at g
   ·rename_i hc;obtain⟨hn,K,Q⟩:=hc;simp only[zA]at g;subst g;unfold dB at j;split at j
    ·simp_all
    ·rename_i n ns xa D ya E X F G;cases X;simp only[zC,zB,zA]at j;obtain⟨q,b,q',S,rfl⟩:=j;have Y:as[i]? =some xa:=by have:=bz (·[0]?) F;simpa using this
     have Z:bs[i]? =some ya:=by have:=bz (·[0]?) G;simpa using this
     have y:as.drop (i+1)=D:=by have:=bz List.tail F;simpa using this
     have z:bs.drop (i+1)=E:=by have:=bz List.tail G;simpa using this
     obtain⟨v,M,x⟩:=hx.2 i _ Y;obtain⟨u,L,t⟩:=hy.2 i _ Z;obtain⟨inf,g1,g2,g3,J⟩:=fE Q;have B:=ih R (by rw[y,z];exact S)
     have U:(part f.type xs f.offset).run P w= .ok v w:=by
      simp only[eu]at M;simp[part,J w,K,M]
     have W:(part f.type ys f.offset).run P w= .ok u w:=by
      simp only[eu]at L;simp[part,J w,K,L]
     have T:(Op.equalIn (d+1) f.type v u).run P w= .ok q w:=by
      unfold mH at b;split at b
      ·split at b
       ·rename_i m;obtain⟨rfl,rfl⟩:=m;simp only[zA]at b;subst b;cases x.toV.int_inv;cases t.toV.int_inv;unfold gH at h;split at h<;>simp at h
        rename_i l;simp[Op.equalIn,bi l]
       ·simp at b
      ·split at b
       ·rename_i m;subst m;simp only[zA]at b;subst b;cases x.toV.bool_inv;cases t.toV.bool_inv;unfold gH at h;split at h<;>simp at h
        rename_i l;simp[Op.equalIn,bi l]
       ·simp at b
      ·split at b
       ·rename_i m;subst m;simp only[zA]at b;subst b;cases x.toV.str_inv;cases t.toV.str_inv;unfold gH at h;split at h<;>simp at h
        rename_i l;simp[Op.equalIn,bi l,beq_toListBytes]
       ·simp at b
      ·simp at b
     simp only[Op.eqFields,ne_eq,hn,sN,aU,Sem.run_bind,U,W,Result.andThen_ok,T];cases q
     ·simp
     ·simpa using B
    ·simp at j
   ·simp at g
end
section
variable {P:Program} {N:Nam} {I:Inv} {c:Ctx} {ns p:Nat} {A:Nat->Prop} {μ lam:Nat->Nat} {s:St} {a:Act} {w:World} {e:Eff}
theorem U7 (i:I.Ok N) (R:Rel N c ns A μ lam s a w) {x:Operand} {h:Opd} {op:UnOp} (k:opd I x=some h) (d:ao N.G p s (.un op h)=some e):
 dq N A μ s w ((Op.unary op (a.eval x)).run P w) e:=by
 simp only[ao,zC,zB]at d;obtain⟨u,j,d⟩:=d;split at d
 ·rename_i b;simp only[zB,zA]at d;obtain⟨r,f,rfl⟩:=d;have g:=(bx i R k j).t_inv
  generalize a.eval x=v at g
  unfold unT at f;split at f<;>simp only[zA,reduceCtorEq]at f<;>subst f<;>cases g
  ·exact⟨_,by simp[Op.unary,Op.intArith],(RepC.t (.int _ _)).toV,rfl,rfl,rfl,rfl⟩
  ·refine⟨_,?_,(RepC.t (.int _ _)).toV,rfl,rfl,rfl,rfl⟩;simp only[Op.unary,Op.intBits];simp
  ·exact⟨_,by simp[Op.unary],(RepC.t (.bool _)).toV,rfl,rfl,rfl,rfl⟩
 ·simp at d
theorem kbA (l:I.Ok N) (R:Rel N c ns A μ lam s a w) {x:Operand} {g:Opd} {k r:IntKind} {d b:TypeId} (q:opd I x=some g)
 (f:ao N.G p s (.conv k g)=some e) (h:P.underlying d=some (.int r)) (i:P.underlying b=some (.int k)):
 dq N A μ s w ((convert d b (a.eval x)).run P w) e:=by
 simp only[ao,zC,zB,zA]at f;obtain⟨n,o,rfl⟩:=f;obtain⟨j,m⟩:=kH l R q o;exact⟨_,by simp[convert,bi h,bi i,m,Conv.intToInt],(RepC.t (.int _ _)).toV,rfl,rfl,rfl,rfl⟩
theorem Z4 (B:I.Ok N) (R:Rel N c ns A μ lam s a w) {x:Operand} {z:Opd} (E:opd I x=some z) (g:ao N.G p s (.nilchk z)=some e) (o:Oper) (t:o.op= .nilCheck x):
 ∃v,(execOp a.eval o).run P w= .ok (.value v) w/\aO w A N.nm μ s.heap v e.val/\Plain e:=by
 simp only[ao,zC,zB]at g;obtain⟨u,D,g⟩:=g;have j:=bx B R E D
 have y: ∀q,a.eval x= .pointer (some q)->(execOp a.eval o).run P w= .ok (.value (a.eval x)) w:=by
  intro q h;simp[execOp,t,h]
 have m: ∀f b d,a.eval x= .func (.func f) b d->(execOp a.eval o).run P w= .ok (.value (a.eval x)) w:=by
  intro f b d h;simp[execOp,t,h]
 split at g
 ·rename_i k i n;split at g<;>simp only[zA,reduceCtorEq]at g
  rename_i C;subst g;obtain⟨l,_⟩:=j.mp_inv C;exact⟨_,y _ l,j,rfl,rfl,rfl,rfl⟩
 ·simp only[zA]at g;subst g;obtain⟨r,n,J,l,_⟩:=aO.ip_inv j;exact⟨_,y _ l,j,rfl,rfl,rfl,rfl⟩
 ·simp only[zA]at g;subst g;refine⟨_,?_,j,rfl,rfl,rfl,rfl⟩
  generalize l:a.eval x=v at j
  cases(j:RepC w A N.nm μ s.heap v _)with
  | fn f _ _ F vb=>rw[<- l];exact m _ _ _ l
 ·simp only[zA]at g;subst g;refine⟨_,?_,j,rfl,rfl,rfl,rfl⟩
  generalize l:a.eval x=v at j
  cases j.t_inv with
  | fn f _ _ F vb=>rw[<- l];exact m _ _ _ l
 ·simp only[zA]at g;subst g;refine⟨_,?_,j,rfl,rfl,rfl,rfl⟩
  generalize l:a.eval x=v at j
  cases j.t_inv with
  | fa f c G=>rw[<- l];exact m _ _ _ l
 ·simp at g
theorem wy {t:TypeId} {fields:Array Field} {f:Field} {i n r b:Nat} {ag:Bool} {v:Value}
 (k:P.underlying t=some (.struct fields)) (j:fields[i]? =some f) (g:typ P f.type=some (ag,n)) (u:0<n) (l:v= .pointer (some ⟨r,b,none⟩)):
 (Instr.fieldAt t v i).run P w= .ok (.pointer (some ⟨r,b+f.offset,none⟩)) w:=by
 obtain⟨d,h,m,o,q⟩:=fE g;have:d.size≠0:=aa
 simp[Instr.fieldAt,bi k,j,l,Instr.sureAddr,fieldPlace,dw h,this,jB]
theorem Z8 (R:Rel N c ns A μ lam s a w) {x:Operand} {j:Opd} {t:TypeId} {fields:Array Field} {f:Field} {i n:Nat} {ag:Bool} (y:opd I x=some j)
 (r:P.underlying t=some (.struct fields)) (l:fields[i]? =some f) (k:typ P f.type=some (ag,n)) (m:0<n)
 (g:ao N.G p s (.faddrL f.offset j)=some e):
 ∃v,(Instr.fieldAt t (a.eval x) i).run P w= .ok v w/\aO w A N.nm μ s.heap v e.val/\e.loc=none/\e.wloc=none/\e.hp=[]/\
  ∀b o,e.adr=some (b,o)->(s.loc b).isSome=true/\v= .pointer (some ⟨lam b,o,none⟩):=by
 simp only[ao,zC,zB,zA,cw]at g;obtain⟨b,o,q,cs,d,rfl⟩:=g;have u:=tN R y q d;refine⟨_,wy r l k m u,trivial,rfl,rfl,rfl,?_⟩;intro b' o' h;simp only[zA,dx]at h;obtain⟨rfl,rfl⟩:=h;exact⟨by rw[d];rfl,rfl⟩
theorem SF {r b:Nat} {cs:List T} {f:Nat->Value} {nm:Nat->Nat} {H:ae} (n:Nat) (g:A r) (i: ∀(j:Nat) (x:T),cs[j]? =some x->w.cell? ⟨r,b+j,none⟩=some (f j))
 (h: ∀(j:Nat) (x:T),cs[j]? =some x->RepT w A nm (f j) x):aO w A nm μ H (.pointer (some ⟨r,b+n,none⟩)) (.t (.ip (cs.drop n))):=
 (RepC.t (.ip r (b+n) (cs.drop n) (fun j=>f (n+j)) g (fun j x d=>by rw[nr];exact i _ x (al d)) (fun j x d=>h _ x (al d)))).toV
theorem kb9 (D:I.Ok N) (R:Rel N c ns A μ lam s a w) {x:Operand} {y:Opd} {t:TypeId} {fields:Array Field} {f:Field} {i n:Nat} {ag:Bool} (F:opd I x=some y)
 (v:P.underlying t=some (.struct fields)) (m:fields[i]? =some f) (j:typ P f.type=some (ag,n)) (q:0<n)
 (b:ao N.G p s (.faddr f.offset y)=some e):dq N A μ s w ((Instr.fieldAt t (a.eval x) i).run P w) e:=by
 simp only[ao,zC,zB]at b;obtain⟨u,E,b⟩:=b;have l:=bx D R F E;split at b
 ·rename_i k G h;split at b<;>simp only[zA,reduceCtorEq]at b
  rename_i J rs d o;subst b;obtain⟨g,hi⟩:=l.mp_inv o;refine⟨_,wy v m j q g,?_,rfl,rfl,rfl,rfl⟩;rw[nr];exact(RepC.mp k G _ J rs d o hi).toV
 ·simp only[zA]at b;subst b;obtain⟨r,h,K,g,C,z,B⟩:=aO.ip_inv l;exact⟨_,wy v m j q g,SF _ C z B,rfl,rfl,rfl,rfl⟩
 ·simp at b
theorem ux {t:TypeId} {ag:Bool} {n b:Nat} {cs:Array Value} (h:typ P t=some (ag,n)) (m:b+n<=cs.size):
 (part t cs b).run P w= .ok (iT ag ((cs.toList.drop b).take n)) w:=by
 obtain⟨l,g,i,j,f⟩:=fE h
 cases ag with
 | true=>
   simp only[part,Sem.run_bind,f w,Result.andThen_ok,aU,dw g,Sem.run_pure,iT,i]
   congr 2
   apply qa
   simp[Array.toList_extract,List.extract_eq_take_drop]
 | false=>
   have k:=j rfl;subst k;have d:b<cs.size:=aa
   simp only[part,Sem.run_bind,f w,Result.andThen_ok,zG,aX,iA d,Sem.run_pure,iT]
   congr 1
   rw[vT (al d)];simp
theorem kb8 (l:I.Ok N) (R:Rel N c ns A μ lam s a w) {x:Operand} {d:Opd} {t:TypeId} {fields:Array Field} {f:Field} {i n:Nat} {ag:Bool} (C:opd I x=some d)
 (y:P.underlying t=some (.struct fields)) (m:fields[i]? =some f) (g:typ P f.type=some (ag,n))
 (b:ao N.G p s (.field ag f.offset n d)=some e):dq N A μ s w ((Instr.field t (a.eval x) i).run P w) e:=by
 simp only[ao,zC,zB]at b;obtain⟨u,z,b⟩:=b;split at b
 ·rename_i cs;simp only[zB,zA]at b;obtain⟨r,q,v,B,rfl⟩:=b;obtain⟨vs,h,o⟩:=(bx l R C z).agg_inv;obtain⟨j,k,D⟩:=o.rd q;refine⟨_,?_,j.wrap B,rfl,rfl,rfl,rfl⟩;simp[Instr.field,bi y,m,h,asAgg,ux (P:=P) (w:=w) g (al k)]
 ·simp at b
theorem kbx (g:I.Ok N) (R:Rel N c ns A μ lam s a w) {x i:Operand} {j h:Opd} {t f:TypeId} {len n:Nat} {ag:Bool} (L:opd I x=some j) (hi:opd I i=some h)
 (G:P.underlying t=some (.array len f)) (d:typ P f=some (ag,n))
 (b:ao N.G p s (.idxA ag len n j h)=some e):dq N A μ s w ((Instr.index t (a.eval x) (a.eval i)).run P w) e:=by
 simp only[ao,zC,zB]at b;obtain⟨m,E,u,J,b⟩:=b;obtain⟨k,C⟩:=kH g R hi E;split at b
 ·rename_i cs;split at b
  ·rename_i B;simp only[zB,zA]at b;obtain⟨r,F,v,K,rfl⟩:=b;obtain⟨vs,l,D⟩:=(bx g R L J).agg_inv;obtain⟨y,z,T⟩:=D.rd F;obtain⟨M,o,q,Q,S⟩:=fE d;refine⟨_,?_,y.wrap K,rfl,rfl,rfl,rfl⟩;simp[Instr.index,C,asIntOf,bi G,l,B,dw o,q,ux (P:=P) (w:=w) d (al z)]
  ·simp at b
 ·simp at b
theorem kbR (f:I.Ok N) (R:Rel N c ns A μ lam s a w) {x i:Operand} {h g:Opd} {t:TypeId} (z:opd I x=some h) (hi:opd I i=some g)
 (q:P.underlying t=some .string)
 (d:ao N.G p s (.idxS h g)=some e):dq N A μ s w ((Instr.index t (a.eval x) (a.eval i)).run P w) e:=by
 simp only[ao,zC,zB]at d;obtain⟨m,n,u,v,d⟩:=d;obtain⟨k,l⟩:=kH f R hi n;split at d
 ·rename_i b;split at d
  ·rename_i j;simp only[zB,zA]at d;obtain⟨r,o,rfl⟩:=d;have y:=(bx f R z v).str_inv;refine⟨_,?_,(RepC.t (.int _ _)).toV,rfl,rfl,rfl,rfl⟩;simp[Instr.index,l,asIntOf,bi q,y,j,o]
  ·simp at d
 ·simp at d
theorem kby (h:I.Ok N) (R:Rel N c ns A μ lam s a w) {x:Operand} {d:Opd} {i:Nat} (m:opd I x=some d)
 (b:ao N.G p s (.extr d i)=some e):dq N A μ s w ((Instr.extract (a.eval x) i).run P w) e:=by
 simp only[ao,zC,zB]at b;obtain⟨u,k,b⟩:=b;split at b
 ·rename_i cs;simp only[zB,zA]at b;obtain⟨v,l,rfl⟩:=b;obtain⟨vs,f,o,g⟩:=bx h R m k;obtain⟨z,n,j⟩:=g i v l;refine⟨z,?_,j.toV,rfl,rfl,rfl,rfl⟩;simp[Instr.extract,f,n]
 ·simp at b
theorem aO.len_inv {w:World} {A:Nat->Prop} {nm μ:Nat->Nat} {s:St} {v:Value} {x:V} {n:Nat} (h:aO w A nm μ s.heap v x) (b:lenOf s x=some n):
 ∃f cap,v= .slice f n cap:=by
 unfold lenOf at b;split at b
 ·simp only[zA]at b;subst b;cases h.t_inv;exact⟨_,_,rfl⟩
 ·simp only[zA]at b;subst b;cases h.t_inv<;>exact⟨_,_,rfl⟩
 ·simp only[zA]at b;subst b;cases h.t_inv;exact⟨_,_,rfl⟩
 ·split at b<;>simp only[zA,reduceCtorEq]at b
  rename_i g;subst b
  cases(h:RepC w A nm μ s.heap v _)with
  | ms=>exact⟨_,_,rfl⟩
  | dms _ _ _ d=>rw[g]at d;cases d
 ·simp at b
theorem Vd (g:I.Ok N) (R:Rel N c ns A μ lam s a w) {x:Operand} {d:Opd} {t f ty:TypeId} (l:opd I x=some d) (i:P.underlying t=some (.slice f))
 (b:ao N.G p s (.len d)=some e):dq N A μ s w ((Builtin.len_ #[t] ty #[a.eval x]).run P w) e:=by
 simp only[ao,zC,zB,zA]at b;obtain⟨u,j,n,h,rfl⟩:=b;obtain⟨m,cap,k⟩:=(bx g R l j).len_inv h;refine⟨_,?_,(RepC.t (.int _ _)).toV,rfl,rfl,rfl,rfl⟩;simp[Builtin.len_,bi i,k,goInt]
theorem kbN (f:I.Ok N) (R:Rel N c ns A μ lam s a w) {x:Operand} {d:Opd} {t ty:TypeId} (j:opd I x=some d) (g:P.underlying t=some .string)
 (b:ao N.G p s (.slen d)=some e):dq N A μ s w ((Builtin.len_ #[t] ty #[a.eval x]).run P w) e:=by
 simp only[ao,zC,zB]at b;obtain⟨u,h,b⟩:=b;split at b
 ·simp only[zA]at b;subst b;have i:=(bx f R j h).str_inv;refine⟨_,?_,(RepC.t (.int _ _)).toV,rfl,rfl,rfl,rfl⟩;simp[Builtin.len_,bi g,i,goInt]
 ·simp at b
theorem kbB (i:I.Ok N) (R:Rel N c ns A μ lam s a w) {x:Operand} {g:Opd} {t h ty:TypeId} (l:opd I x=some g) (j:P.underlying t=some (.slice h))
 (b:ao N.G p s (.capN g)=some e):dq N A μ s w ((Builtin.cap_ #[t] ty #[a.eval x]).run P w) e:=by
 simp only[ao,zC,zB]at b;obtain⟨u,k,b⟩:=b;split at b
 ·simp only[zA]at b;subst b;have d:=(bx i R l k).t_inv
  obtain⟨f,d⟩: ∃f,a.eval x= .slice f 0 0:=by
   generalize a.eval x=y at d
   cases d;exact⟨_,rfl⟩
  refine⟨_,?_,(RepC.t (.int _ _)).toV,rfl,rfl,rfl,rfl⟩;simp[Builtin.cap_,bi j,d,goInt]
 ·simp at b
theorem kbQ {x:Value} {n:Nat} {t d ty:TypeId} (f:P.underlying t=some (.array n d))
 (b:ao N.G p s (.lenA n)=some e):dq N A μ s w ((Builtin.len_ #[t] ty #[x]).run P w) e:=by
 simp only[ao,zA]at b;subst b;refine⟨_,?_,(RepC.t (.int _ _)).toV,rfl,rfl,rfl,rfl⟩;simp[Builtin.len_,bi f,goInt]
theorem Z6 (E:I.Ok N) (R:Rel N c ns A μ lam s a w) {x i:Operand} {L J:Opd} {t B:TypeId} {n:Nat} {ag:Bool} (hx:opd I x=some L) (hi:opd I i=some J)
 (G:P.underlying t=some (.slice B)) (M:typ P B=some (ag,n))
 (b:ao N.G p s (.iaddrS n L J)=some e):dq N A μ s w ((Instr.indexAt t (a.eval x) (a.eval i)).run P w) e:=by
 simp only[ao,zC,zB]at b;obtain⟨m,hm,u,hu,b⟩:=b;obtain⟨k,F⟩:=kH E R hi hm;obtain⟨inf,C,D,g3,g4⟩:=fE M;have l:=bx E R hx hu;split at b
 ·rename_i es;split at b
  ·rename_i y;simp only[zB]at b;obtain⟨row,g,b⟩:=b;split at b
   ·rename_i Q;simp only[zA]at b;subst b;have Ad:m.toNat<es.length:=(zH.1 g).1
    generalize hv:a.eval x=v at l
    cases l.t_inv with
    | sl0 Y cap=>simp at g
    | sl r h cap d _ vf h0 hc Z hs T hr=>
      have W:d=n:=by rw[<- hs _ row g,Q]
      subst W;have X:m<(es.length:Int):=aa
      refine⟨.pointer (some ⟨r,h+m.toNat*d,none⟩),?_,(RepC.t (.ip r (h+m.toNat*d) row (fun j=>vf m.toNat j) Z (fun j x z=>T _ row j x g z) (fun j x z=>hr _ row j x g z))).toV,rfl,rfl,rfl,rfl⟩;simp[Instr.indexAt,F,asIntOf,bi G,y,X,dw C,D,jB]
   ·simp at b
  ·simp at b
 ·rename_i K j len;split at b<;>try(simp at b;done)
  rename_i d rs q o;split at b
  ·rename_i y;obtain⟨V,S,rfl⟩:=y;simp only[zA]at b;subst b
   generalize hv:a.eval x=v at l
   cases(l:RepC w A N.nm μ s.heap v _)with
   | ms _ _ _ cap sz' rs' frz' Y f AK hc ha=>
     rw[o]at f;cases f;have U:cap≠0:=aa
     obtain⟨rfl,_⟩:=ha.resolve_left U;refine⟨.pointer (some ⟨μ K,(j+m.toNat)*d,none⟩),?_,?_,rfl,rfl,rfl,rfl⟩
     ·simp[Instr.indexAt,F,asIntOf,bi G,V,S,dw C,D,jB,fA]
     ·have:=RepC.mp (w:=w) (A:=A) (nm:=N.nm) (μ:=μ) (H:=s.heap) K (j+m.toNat) 0 d rs q o aa
      simpa using this.toV
   | dms _ _ _ f=>rw[o]at f;cases f
  ·simp at b
 ·simp at b
theorem xW {t d:TypeId} {i:Value} {k:IntKind} {m:Int} {len n r b:Nat} {ag:Bool} {v:Value} (l:P.underlying t=some (.array len d)) (f:typ P d=some (ag,n))
 (hi:i= .int k m) (j:0<=m/\m<len) (o:v= .pointer (some ⟨r,b,none⟩)):(Instr.indexAt t v i).run P w= .ok (.pointer (some ⟨r,b+m.toNat*n,none⟩)) w:=by
 obtain⟨q,g,h,u,x⟩:=fE f;simp[Instr.indexAt,hi,asIntOf,bi l,j,dw g,h,jB,o,Instr.sureAddr]
theorem Zg (u:I.Ok N) (R:Rel N c ns A μ lam s a w) {x i:Operand} {l j:Opd} {t f:TypeId} {len n:Nat} {ag:Bool} (D:opd I x=some l) (hi:opd I i=some j)
 (C:P.underlying t=some (.array len f)) (q:typ P f=some (ag,n)) (d:ao N.G p s (.iaddrAL len n l j)=some e):
 ∃v,(Instr.indexAt t (a.eval x) (a.eval i)).run P w= .ok v w/\aO w A N.nm μ s.heap v e.val/\e.loc=none/\e.wloc=none/\e.hp=[]/\
  ∀b o,e.adr=some (b,o)->(s.loc b).isSome=true/\v= .pointer (some ⟨lam b,o,none⟩):=by
 simp only[ao,zC,zB,cw]at d;obtain⟨m,z,b,o,B,cs,g,d⟩:=d;obtain⟨k,y⟩:=kH u R hi z;split at d
 ·rename_i r;simp only[zA]at d;subst d;refine⟨_,xW C q y r (tN R D B g),trivial,rfl,rfl,rfl,?_⟩;intro b' o' h;simp only[zA,dx]at h;obtain⟨rfl,rfl⟩:=h;exact⟨by rw[g];rfl,rfl⟩
 ·simp at d
theorem Z7 (y:I.Ok N) (R:Rel N c ns A μ lam s a w) {x i:Operand} {C d:Opd} {t v:TypeId} {len n:Nat} {ag:Bool} (K:opd I x=some C) (hi:opd I i=some d)
 (B:P.underlying t=some (.array len v)) (j:typ P v=some (ag,n)) (b:ao N.G p s (.iaddrA len n C d)=some e):
 dq N A μ s w ((Instr.indexAt t (a.eval x) (a.eval i)).run P w) e:=by
 simp only[ao,zC,zB]at b;obtain⟨m,G,b⟩:=b;obtain⟨k,z⟩:=kH y R hi G;split at b
 ·rename_i q;simp only[zB]at b;obtain⟨u,J,b⟩:=b;have o:=bx y R K J;split at b
  ·rename_i L d h;split at b<;>simp only[zA,reduceCtorEq]at b
   rename_i M rs f l;subst b;obtain⟨g,hi⟩:=o.mp_inv l;refine⟨_,xW B j z q g,?_,rfl,rfl,rfl,rfl⟩;rw[nr];exact(RepC.mp L d _ M rs f l hi).toV
  ·simp only[zA]at b;subst b;obtain⟨r,h,Q,g,F,D,E⟩:=aO.ip_inv o;exact⟨_,xW B j z q g,SF _ F D E,rfl,rfl,rfl,rfl⟩
  ·simp at b
 ·simp at b
theorem xq: ∀{l:List Opd} {vs:List V},cY N.G s l=some vs->l.length=vs.length/\ ∀(i:Nat) (v:V),vs[i]? =some v-> ∃x,l[i]? =some x/\evl N.G s x=some v
 | [],vs,h=>by simp[cY]at h;subst h;simp
 | x::l,vs,h=>by
   simp only[cY,zC,zB,zA]at h;obtain⟨v,j,k,d,rfl⟩:=h;obtain⟨f,g⟩:=xq d;refine⟨by simp[f],fun i z b=> ?_⟩
   cases i with
   | zero=>simp at b;subst b;exact⟨x,rfl,j⟩
   | succ i=>simp at b;simpa using g i z b
theorem nv (j:I.Ok N) (R:Rel N c ns A μ lam s a w) {xs:Array Operand} {ys:List Opd} {vs:List V} (m:opds I xs=some ys) (l:cY N.G s ys=some vs):
 (xs.map a.eval).size=vs.length/\ ∀(i:Nat) (v:V),vs[i]? =some v-> ∃u,(xs.map a.eval)[i]? =some u/\aO w A N.nm μ s.heap u v:=by
 obtain⟨f,g⟩:=fU m;obtain⟨o,h⟩:=xq l;refine⟨by simp at f⊢;omega,fun i v hi=> ?_⟩;obtain⟨y,n,d⟩:=h i v hi;obtain⟨x,b,k⟩:=g i y n;refine⟨a.eval x,?_,bx j R k d⟩;simp only[eu]at b;simp[b]
theorem Kb: ∀{d:List Nat} {as bs:List V} {r:Bool},dB d as bs=some r->as.length=d.length/\bs.length=d.length
 | [],[],[],_,_=>⟨rfl,rfl⟩
 | [],_::_,_,_,h=>by simp[dB]at h
 | [],[],_::_,_,h=>by simp[dB]at h
 | _::_,[],_,_,h=>by simp[dB]at h
 | _::_,_::_,[],_,h=>by simp[dB]at h
 | k::d,a::as,b::bs,r,h=>by
   simp only[dB,zC,zB,zA]at h;obtain⟨q,_,g,f,_⟩:=h;have:=Kb f;exact⟨by simp[this.1],by simp[this.2]⟩
theorem Kc: ∀{d f:List Nat} {as bs:List V} {r:Bool},dB (d++f) as bs=some r->
 ∃q g,dB d (as.take d.length) (bs.take d.length)=some q/\dB f (as.drop d.length) (bs.drop d.length)=some g/\r=(q&&g)
 | [],f,as,bs,r,h=>⟨true,r,rfl,al h,af⟩
 | k::d,f,[],bs,r,h=>by simp[dB]at h
 | k::d,f,a::as,[],r,h=>by simp[dB]at h
 | k::d,f,a::as,b::bs,r,h=>by
   simp only[jd,dB,zC,zB,zA]at h;obtain⟨x,l,y,m,rfl⟩:=h;obtain⟨q,g,i,j,rfl⟩:=Kc m;exact⟨x&&q,g,by simp[dB,l,i],al j,by rw[AU]⟩
theorem X3 {t:TypeId} {k:Nat} {l m:V} {v u:Value} {q:Bool} {μ:Nat->Nat} {H:ae} {nm:Nat->Nat} (d:Nat)
 (f:gH P t=some k) (j:aO w A nm μ H v l) (i:aO w A nm μ H u m) (b:mH k l m=some q):
 (Op.equalIn (d+1) t v u).run P w= .ok q w:=by
 unfold mH at b;split at b
 ·split at b
  ·rename_i h;obtain⟨rfl,rfl⟩:=h;simp only[zA]at b;subst b;cases j.int_inv;cases i.int_inv;unfold gH at f;split at f<;>simp at f
   rename_i g;simp[Op.equalIn,bi g]
  ·simp at b
 ·split at b
  ·rename_i h;subst h;simp only[zA]at b;subst b;cases j.bool_inv;cases i.bool_inv;unfold gH at f;split at f<;>simp at f
   rename_i g;simp[Op.equalIn,bi g]
  ·simp at b
 ·split at b
  ·rename_i h;subst h;simp only[zA]at b;subst b;cases j.str_inv;cases i.str_inv;unfold gH at f;split at f<;>simp at f
   rename_i g;simp[Op.equalIn,bi g,beq_toListBytes]
  ·simp at b
 ·simp at b
theorem XC {y:List Field} {xs ys:Array Value} {as bs:List V} {i:Nat} {K:List Nat} {r:Bool} {μ:Nat->Nat} {H:ae} {nm:Nat->Nat} (d:Nat)
 (b:qd P i y=some K) (hx:co w A nm μ H xs.toList as) (hy:co w A nm μ H ys.toList bs)
 (h:dB K (as.drop i) (bs.drop i)=some r):(Op.eqFields (d+2) xs ys y).run P w= .ok r w:=by
 induction y generalizing i r K with
 | nil=>
   simp only[qd,zA]at b;subst b;unfold dB at h
   split at h<;>simp_all [Op.eqFields]
 | cons f y ih=>
   unfold qd at b;split at b
   ·rename_i k X;simp only[zC,zB]at b;obtain⟨L,B,b⟩:=b;split at b
    ·rename_i m;obtain⟨J,o,t⟩:=m;simp only[zA]at b;subst b;unfold dB at h;split at h
     ·simp_all
     ·rename_i n ns xa M ya Q e1 T U;cases e1;simp only[zC,zB,zA]at h;obtain⟨q,z,q',x,rfl⟩:=h;have ea:as[i]? =some xa:=by have:=bz (·[0]?) T;simpa using this
      have eb:bs[i]? =some ya:=by have:=bz (·[0]?) U;simpa using this
      have F:as.drop (i+1)=M:=by have:=bz List.tail T;simpa using this
      have G:bs.drop (i+1)=Q:=by have:=bz List.tail U;simpa using this
      obtain⟨v,hv,E5⟩:=hx.2 i _ ea;obtain⟨u,Z,DU⟩:=hy.2 i _ eb;obtain⟨inf,g1,g2,g3,W⟩:=fE t;have j:=ih B (by rw[F,G];exact x)
      have D:(part f.type xs f.offset).run P w= .ok v w:=by
       simp only[eu]at hv;simp[part,W w,o,hv]
      have E:(part f.type ys f.offset).run P w= .ok u w:=by
       simp only[eu]at Z;simp[part,W w,o,Z]
      have C:=X3 (P:=P) (d+1) X E5.toV DU.toV z;simp only[Op.eqFields,ne_eq,J,sN,aU,Sem.run_bind,D,E,Result.andThen_ok,C];cases q
      ·simp
      ·simpa using j
     ·simp at h
    ·simp at b
   ·rename_i X;simp only[zC,zB]at b;obtain⟨g,l,L,B,b⟩:=b;split at b
    ·rename_i m;obtain⟨J,o,t,CB⟩:=m;simp only[zA]at b;subst b;obtain⟨q,q',z,x,rfl⟩:=Kc h;have Y:=Kb z;rw[A7,A7]at x;have j:=ih B x
     have Cu:rd as i g.length=some ((as.drop i).take g.length):=by
      unfold Rg.rd;rw[ah];have:=Y.1;rw[bJ,pn]at this;omega
     have Eb:rd bs i g.length=some ((bs.drop i).take g.length):=by
      unfold Rg.rd;rw[ah];have:=Y.2;rw[bJ,pn]at this;omega
     obtain⟨a1,a2,a3⟩:=hx.rd Cu;obtain⟨b1,b2,b3⟩:=hy.rd Eb
     have D:(part f.type xs f.offset).run P w= .ok (.agg ((xs.toList.drop i).take g.length).toArray) w:=by
      rw[o];exact ux (P:=P) (w:=w) t (al a2)
     have E:(part f.type ys f.offset).run P w= .ok (.agg ((ys.toList.drop i).take g.length).toArray) w:=by
      rw[o];exact ux (P:=P) (w:=w) t (al b2)
     have C:(Op.equalIn (d+2) f.type (.agg ((xs.toList.drop i).take g.length).toArray) (.agg ((ys.toList.drop i).take g.length).toArray)).run P w= .ok q w:=by
      unfold jG at l;split at l
      ·rename_i fields R;split at l
       ·rename_i m;have S:P.fieldsOf f.type=fields:=by simp[Program.fieldsOf,R]
        have h0:=J7 (P:=P) (w:=w) (A:=A) (nm:=nm) (μ:=μ) (H:=H) (i:=0) (xs:=((xs.toList.drop i).take g.length).toArray) (ys:=((ys.toList.drop i).take g.length).toArray) d l (al a1) (al b1) (al z);have:=run_equalIn_struct (P:=P) w (d+1) f.type ((xs.toList.drop i).take g.length).toArray ((ys.toList.drop i).take g.length).toArray (by rw[S];exact R) m.1;rw[this,S];exact h0
       ·cases l
      ·cases l
     simp only[Op.eqFields,ne_eq,J,sN,aU,Sem.run_bind,D,E,Result.andThen_ok,C];cases q
     ·simp
     ·simpa using j
    ·simp at b
theorem Ti (m:I.Ok N) (R:Rel N c ns A μ lam s a w) {x y:Operand} {q z:Opd} {op:BinOp} {b:Bool} {o:List Nat} (L:opd I x=some q) (M:opd I y=some z)
 (d:ao N.G p s (.eqa b o q z)=some e) {t:TypeId} (f:yL P t=some o) (g:op=if b then .neq else .eql):
 dq N A μ s w ((do eqGuard op t x y (a.eval x) (a.eval y);binOp op t (a.eval x) (a.eval y):Sem Value).run P w) e:=by
 simp only[ao,zC,zB]at d;obtain⟨u,J,v,K,d⟩:=d;split at d
 ·rename_i as bs;simp only[zB,zA]at d;obtain⟨r,G,rfl⟩:=d;obtain⟨xs,C,E⟩:=(bx m R L J).agg_inv;obtain⟨ys,B,D⟩:=(bx m R M K).agg_inv;rw[C,B];unfold yL at f;split at f
  ·rename_i fields h;split at f
   ·rename_i n;have j:P.fieldsOf t=fields:=by simp[Program.fieldsOf,h]
    have F:=XC (P:=P) (i:=0) 9997 f E D (al G)
    have k:(Op.equalIn 10000 t (.agg xs) (.agg ys)).run P w= .ok r w:=by
     have:=run_equalIn_struct (P:=P) w 9999 t xs ys (by rw[j];exact h) n.1;rw[this,j];exact F
    have l:=run_eqGuard_agg (P:=P) w op t x y xs ys n.2;refine⟨.bool (r != b),?_,(RepC.t (.bool _)).toV,rfl,rfl,rfl,rfl⟩;cases b
    ·simp only[zG,aX]at g;subst g;simp only[Sem.run_bind,l,Result.andThen_ok];simp[run_eql_struct,k]
    ·simp only[aU]at g;subst g;simp only[Sem.run_bind,l,Result.andThen_ok];simp[run_neq_struct,k]
   ·simp at f
  ·simp at f
 ·simp at d
end
theorem aO.cell {w:World} {A:Nat->Prop} {nm μ:Nat->Nat} {H:ae} {v:Value} {x:V} (h:aO w A nm μ H v x) (b:x.isCell=true):RepC w A nm μ H v x:=by
 cases x<;>first | exact h | (simp[V.isCell]at b)
theorem RepT.nils_inv {w:World} {A:Nat->Prop} {nm:Nat->Nat} {v:Value} (h:RepT w A nm v .nils): ∃b,v= .slice b 0 0:=by
 cases h;exact⟨_,rfl⟩
theorem RepT.sl_inv {w:World} {A:Nat->Prop} {nm:Nat->Nat} {v:Value} {es:List (List T)} (h:RepT w A nm v (.sl es)):
 (es=[]/\ ∃g cap,v= .slice g 0 cap)\/ ∃(r b cap d:Nat) (f:Nat->Nat->Value),v= .slice (some ⟨r,b,none⟩) es.length cap/\0<es.length/\es.length<=cap/\A r/\
   (∀(i:Nat) (e:List T),es[i]? =some e->e.length=d)/\
   (∀(i:Nat) (e:List T) (j:Nat) (x:T),es[i]? =some e->e[j]? =some x->w.cell? ⟨r,b+i*d+j,none⟩=some (f i j))/\
   (∀(i:Nat) (e:List T) (j:Nat) (x:T),es[i]? =some e->e[j]? =some x->RepT w A nm (f i j) x):=by
 cases h with
 | sl0 g cap=>exact .inl ⟨rfl,g,cap,rfl⟩
 | sl r b cap d _ f k m l o q n=>exact .inr ⟨r,b,cap,d,f,rfl,k,m,l,o,q,n⟩
section
variable {P:Program} {N:Nam} {I:Inv} {c:Ctx} {ns p:Nat} {A:Nat->Prop} {μ lam:Nat->Nat} {s:St} {a:Act} {w:World} {e:Eff}
theorem KC: ∀{cs:List V} {b:List T},fJ cs=some b->b.length=cs.length/\ ∀(j:Nat) (x:T),b[j]? =some x-> ∃y,cs[j]? =some (.t y)/\x=y.norm
 | [],b,h=>by simp[fJ]at h;subst h;exact⟨rfl,fun j x h=>by simp at h⟩
 | .t y::r,b,h=>by
   simp only[fJ,zE]at h;obtain⟨k,i,rfl⟩:=h;obtain⟨f,g⟩:=KC i;refine⟨by simp[f],fun j x d=> ?_⟩
   cases j with
   | zero=>simp at d;exact⟨y,rfl,d.symm⟩
   | succ j=>simp only[lz]at d⊢;exact g j x d
 | .ms _ _ _::_,_,h | .mp _ _ _::_,_,h | .mm _::_,_,h | .fn _ _ _::_,_,h | .agg _::_,_,h | .tup _::_,_,h | .undef::_,_,h | .lb::_,_,h=>by simp[fJ]at h
theorem S_ (m:I.Ok N) (R:Rel N c ns A μ lam s a w) {f k:Nat} {xs ys:Array Operand} {z B:List Opd} (S:I.fi f=some k) (T:opds I xs=some z) (n:opds I ys=some B)
 (q:ao N.G p s (.mkfn k z B)=some e):dq N A μ s w ((Instr.makeFunc (.func f) (xs.map a.eval) (ys.map a.eval)).run P w) e:=by
 simp only[ao,zC,zB]at q;obtain⟨as,Q,bs,M,q⟩:=q;simp only[zA]at q;obtain⟨fv,d,rfl⟩:=q;unfold qE at d;split at d
 ·rename_i L;simp only[zA]at d;subst d;obtain⟨D,C⟩:=nv m R T Q;obtain⟨E,F⟩:=nv m R n M;refine⟨_,rfl,?_,rfl,rfl,rfl,rfl⟩;have:=m.f f k S;subst this
  have K: ∀(l:List V),l.all V.isCell=true-> ∀(i:Nat) (v:V),l[i]? =some v->v.isCell=true:=by
   intro l hl i v hi;exact zN.1 hl v (zL hi)
  refine RepC.fn k as bs (xs.map a.eval) (ys.map a.eval) (fun i=>((xs.map a.eval)[i]?).getD undef) (fun i=>((ys.map a.eval)[i]?).getD undef) D E ?_ ?_ ?_ ?_
  ·intro j x b;obtain⟨u,g,_⟩:=C j x b;rw[g];rfl
  ·intro j x b;obtain⟨u,g,r⟩:=C j x b;rw[g];exact r.cell (K _ L.1 j x b)
  ·intro j x b;obtain⟨u,g,_⟩:=F j x b;rw[g];rfl
  ·intro j x b;obtain⟨u,g,r⟩:=F j x b;rw[g];exact r.cell (K _ L.2 j x b)
 ·split at d
  ·rename_i cs _;simp only[zE]at d;obtain⟨W,FR,rfl⟩:=d;obtain⟨D,C⟩:=nv m R T Q;obtain⟨E,F⟩:=nv m R n M;refine⟨_,rfl,?_,rfl,rfl,rfl,rfl⟩;have:=m.f f k S;subst this;obtain⟨v0,Fz,Z⟩:=C 0 _ rfl;obtain⟨o,rfl,X,J⟩:=(Z:cu w A N.nm μ s.heap v0 (.agg cs))
   have Ka:xs.map a.eval= #[.agg o]:=by
    apply tq;intro i
    cases i with
    | zero=>rw[Fz];rfl
    | succ i=>
      have:(xs.map a.eval).size=1:=D;rw[jR aa];simp
   have FN:ys.map a.eval= #[]:=by
    have:(ys.map a.eval).size=0:=E;exact Array.eq_empty_of_size_eq_zero this
   rw[Ka,FN];obtain⟨t1,U⟩:=KC FR;have Y:o.size=W.length:=by rw[t1,<- X];simp
   refine(RepC.t ?_).toV;refine .fa k W o (fun j=>(o[j]?).getD undef) Y ?_ ?_
   ·intro j x b;obtain⟨y,n,rfl⟩:=U j x b;obtain⟨v,G,_⟩:=J j _ n;have:o[j]? =some v:=al G
    rw[this];rfl
   ·intro j x b;obtain⟨y,n,rfl⟩:=U j x b;obtain⟨v,G,r⟩:=J j _ n;have:o[j]? =some v:=al G
    rw[this]
    cases r with
    | t h=>exact h.norm
  ·simp at d
theorem pD {v:Value} {k:IntKind} {m:Int} {y:Nat} {code:BoundsCode} (f:v= .int k m) (b:0<=m) (d:m<=y):(Instr.sliceBound v y code).run P w= .ok m.toNat w:=by
 simp[Instr.sliceBound,f,asIntOf,b,d]
theorem tQ (g:I.Ok N) (R:Rel N c ns A μ lam s a w) {x:Option Operand} {y:Option Opd} {d:Nat} {n:Int} (b:hX I x=some y) (f:eY N.G s d y=some n):
 (x=none/\n=d)\/ ∃o k,x=some o/\a.eval o= .int k n:=by
 cases x with
 | none=>
   simp only[hX,zA]at b;subst b;simp only[eY,zA]at f
   exact .inl ⟨rfl,f.symm⟩
 | some o=>
   simp only[hX,zE]at b;obtain⟨z,i,rfl⟩:=b;obtain⟨k,h⟩:=kH g R i f;exact .inr ⟨o,k,rfl,h⟩
theorem yn {lo hi:Option Value} {len cap:Nat} {l h:Int} {b:Bool} (j:(hi=none/\h=len)\/ ∃k,hi=some (.int k h))
 (m:(lo=none/\l=0)\/ ∃k,lo=some (.int k l)) (g:0<=l) (o:l<=h) (i:h<=cap):
 (Instr.sliceBounds b len cap lo hi none).run P w= .ok (l.toNat,h.toNat,cap) w:=by
 have d: ∀k code,(Instr.sliceBound (.int k h) cap code).run P w= .ok h.toNat w:=fun k code=>pD rfl aa i
 have f: ∀k code,(Instr.sliceBound (.int k l) h.toNat code).run P w= .ok l.toNat w:=fun k code=>pD rfl g aa
 rcases j with⟨rfl,rfl⟩ | ⟨k,rfl⟩<;>rcases m with⟨rfl,rfl⟩ | ⟨n,rfl⟩
 ·simp[Instr.sliceBounds]
 ·have:=f n .sliceB;simp only[kW]at this;simp[Instr.sliceBounds,this]
 ·simp[Instr.sliceBounds,d]
 ·simp[Instr.sliceBounds,d,f]
theorem kb5 (hI:I.Ok N) (R:Rel N c ns A μ lam s a w) {x:Operand} {lo hi mx:Option Operand} {x':Opd} {lo' AK mx':Option Opd} {t el:TypeId} {n:Nat} {ag:Bool}
 (hx:opd I x=some x') (Ef:hX I lo=some lo') (W:hX I hi=some AK) (Km:hX I mx=some mx') (Q:P.underlying t=some (.slice el)) (A6:typ P el=some (ag,n))
 (d:ao N.G p s (.slice n x' lo' AK mx')=some e):dq N A μ s w ((Instr.sliceAt t (a.eval x) (lo.map a.eval) (hi.map a.eval) (mx.map a.eval)).run P w) e:=by
 simp only[ao,zC,zB]at d;obtain⟨u,hu,len,f,h,hh,l,hl,d⟩:=d;have q:=bx hI R hx hu;obtain⟨C,cap,D⟩:=q.len_inv f;obtain⟨inf,L,g2,g3,g4⟩:=fE A6
 have Cw:len<=cap:=by
  rw[D]at q;unfold lenOf at f;split at f
  ·simp only[zA]at f;omega
  ·simp only[zA]at f;rcases q.t_inv.sl_inv with⟨rfl,_⟩ | ⟨r,g,cap',z,vf,d,h0,M,_⟩
   ·simp at f;omega
   ·cases d;exact M
  ·simp only[zA]at f;obtain⟨_,h2⟩:=RepT.slc_inv q.t_inv;omega
  ·split at f<;>simp only[zA,reduceCtorEq]at f
   rename_i E;subst f
   cases(q:RepC w A N.nm μ s.heap _ _)with
   | ms _ _ _ _ _ _ _ _ _ hi M=>omega
   | dms _ _ _ B=>rw[E]at B;cases B
  ·simp at f
 have Kt:(hi.map a.eval=none/\h=len)\/ ∃k,hi.map a.eval=some (.int k h):=by
  rcases tQ hI R W hh with⟨rfl,h⟩ | ⟨o,k,rfl,h⟩
  ·exact .inl ⟨rfl,h⟩
  ·exact .inr ⟨k,by simp[h]⟩
 have CE:(lo.map a.eval=none/\l=0)\/ ∃k,lo.map a.eval=some (.int k l):=by
  rcases tQ hI R Ef hl with⟨rfl,h⟩ | ⟨o,k,rfl,h⟩
  ·exact .inl ⟨rfl,al h⟩
  ·exact .inr ⟨k,by simp[h]⟩
 cases mx with
 | none=>
   simp only[hX,zA]at Km;subst Km;simp only at d;split at d
   ·rename_i hb;obtain⟨Co,Cx,BM⟩:=hb
    have T:(Instr.sliceAt t (a.eval x) (lo.map a.eval) (hi.map a.eval) (Option.map a.eval none)).run P w=
     .ok (.slice (if cap=l.toNat then C else C.map (·.add (l.toNat*n))) (h.toNat-l.toNat) (cap-l.toNat)) w:=by
     have:=yn (P:=P) (w:=w) (b:=true) (cap:=cap) Kt CE Co Cx aa;simp[Instr.sliceAt,bi Q,Instr.slice,D,this,dw L,g2]
    refine⟨_,T,?_⟩;split at d
    ·simp only[zA]at d;subst d;simp only[lenOf,zA]at f;subst f;have Fn:l.toNat=0:=aa
     have NR:h.toNat=0:=aa
     rw[D]at q;have U:cap=0:=by obtain⟨_,d⟩:=q.t_inv.nils_inv;cases d;rfl
     subst U;rw[Fn,NR];exact⟨(RepC.t (.nils _)).toV,rfl,rfl,rfl,rfl⟩
    ·rename_i es;split at d
     ·rename_i Aa;simp only[zA]at d;subst d;simp only[lenOf,zA]at f;subst f;refine⟨?_,rfl,rfl,rfl,rfl⟩;have X:(h-l).toNat=h.toNat-l.toNat:=aa
      by_cases GV:h.toNat-l.toNat=0
      ·rw[X,GV,fy];exact(RepC.t (.sl0 _ _)).toV
      ·rw[D]at q;rcases q.t_inv.sl_inv with⟨rfl,_⟩ | ⟨r,g,cap',z,vf,Fq,h0,M,hA,hs,Bs,hr⟩
       ·simp at BM;omega
       ·cases Fq;have BS:((es.drop l.toNat).take (h-l).toNat).length=h.toNat-l.toNat:=by simp;omega
        have Az:cap≠l.toNat:=aa
        have S:z=n:=by
         have Mi:0<es.length:=h0;have:=hs 0 es[0] (zI Mi);have h2:=zN.1 Aa es[0] (mg Mi);simp only[aQ]at h2;omega
        subst S
        have J:=RepT.sl (w:=w) (A:=A) (nm:=N.nm) r (g+l.toNat*z) (cap-l.toNat) z ((es.drop l.toNat).take (h-l).toNat) (fun i j=>vf (l.toNat+i) j)
         (by rw[BS];omega) (by rw[BS];omega) hA ?_ ?_ ?_
        ·rw[ac Az];simp only[cZ,jB];rw[BS]at J;exact(RepC.t J).toV
        ·intro i Z hi;simp only[zO,fx]at hi;split at hi
         ·exact hs _ Z hi
         ·simp at hi
        ·intro i Z j y hi hj;simp only[zO,fx]at hi;split at hi
         ·have:=Bs _ Z j y hi hj;rw[fA]at this;have e1:g+l.toNat*z+i*z+j=g+(l.toNat*z+i*z)+j:=aa
          rw[e1];exact this
         ·simp at hi
        ·intro i Z j y hi hj;simp only[zO,fx]at hi;split at hi
         ·exact hr _ Z j y hi hj
         ·simp at hi
     ·simp at d
    ·rename_i F i ll;split at d<;>try(simp at d;done)
     rename_i z rs K E;split at d<;>simp only[zA,reduceCtorEq]at d
     rename_i S;subst S;subst d;simp only[lenOf,E,zA]at f;subst f;refine⟨?_,rfl,rfl,rfl,rfl⟩;rw[D]at q
     cases(q:RepC w A N.nm μ s.heap _ _)with
     | ms _ _ _ _ sz' rs' frz' _ B AK M ha=>
       rw[E]at B;cases B;have X:(h-l).toNat=h.toNat-l.toNat:=aa
       rw[X];refine(RepC.ms F (i+l.toNat) (h.toNat-l.toNat) (cap-l.toNat) z rs K _ E aa aa ?_).toV
       by_cases U:cap-l.toNat=0
       ·exact .inl U
       ·right;rcases ha with ha | ⟨rfl,e1,n1,Gv,Fj⟩
        ·omega
        ·rw[ac aa];refine⟨by simp[jB,fA],e1,n1,Gv,?_⟩;have:i+l.toNat+(cap-l.toNat)=i+cap:=aa
         rw[this];exact Fj
     | dms _ _ _ B=>rw[E]at B;cases B
    ·simp at d
   ·split at d<;>try(simp at d;done)
    rename_i F i ll;split at d<;>try(simp at d;done)
    rename_i z rs K E;split at d<;>simp only[zA,reduceCtorEq]at d
    rename_i JV;obtain⟨S,Co,Cx,BM⟩:=JV;subst S;subst d;rw[D]at q
    cases(q:RepC w A N.nm μ s.heap _ _)with
    | ms _ _ _ _ sz' rs' frz' _ B AK M ha=>
      rw[E]at B;cases B
      have T:(Instr.sliceAt t (a.eval x) (lo.map a.eval) (hi.map a.eval) (Option.map a.eval none)).run P w=
       .ok (.slice (if cap=l.toNat then C else C.map (·.add (l.toNat*z))) (h.toNat-l.toNat) (cap-l.toNat)) w:=by
       have:=yn (P:=P) (w:=w) (b:=true) (cap:=cap) Kt CE Co Cx aa;simp[Instr.sliceAt,bi Q,Instr.slice,D,this,dw L,g2]
      refine⟨_,T,?_,rfl,rfl,rfl,rfl⟩;have X:(h-l).toNat=h.toNat-l.toNat:=aa
      rw[X];refine(RepC.ms F (i+l.toNat) (h.toNat-l.toNat) (cap-l.toNat) z rs K _ E aa aa ?_).toV
      by_cases U:cap-l.toNat=0
      ·exact .inl U
      ·right;rcases ha with ha | ⟨rfl,e1,n1,Gv,Fj⟩
       ·omega
       ·rw[ac aa];refine⟨by simp[jB,fA],e1,n1,Gv,?_⟩;have:i+l.toNat+(cap-l.toNat)=i+cap:=aa
        rw[this];exact Fj
    | dms _ _ _ B=>rw[E]at B;cases B
 | some mo=>
   simp only[hX,zE]at Km;obtain⟨m',Fm,rfl⟩:=Km;simp only[zB]at d;obtain⟨m,hm,d⟩:=d;obtain⟨km,GL⟩:=kH hI R Fm hm;split at d
   ·rename_i hb;obtain⟨rfl,rfl,rfl,My⟩:=hb
    have BP:e= { val:=.t .nils }\/(e= { val:=.t (.slc []) }):=by
     split at d<;>simp only[zA,reduceCtorEq]at d<;>first | exact .inl d.symm | exact .inr d.symm
    obtain⟨kh,V⟩: ∃k,hi.map a.eval=some (.int k 0):=by
     cases hi with
     | none=>simp only[hX,zA]at W;subst W;simp at My
     | some o=>
       rcases Kt with⟨h,_⟩ | h
       ·simp at h
       ·exact h
    have KJ:aO w A N.nm μ s.heap (.slice C 0 0) e.val/\Plain e:=by
     rcases BP with rfl | rfl
     ·exact⟨(RepC.t (.nils _)).toV,rfl,rfl,rfl,rfl⟩
     ·exact⟨(RepC.t (.slc C [] (.sl0 C 0))).toV,rfl,rfl,rfl,rfl⟩
    refine⟨.slice C 0 0,?_,KJ⟩
    have Y: ∀(F:IntKind) (y:Nat) (code:BoundsCode),(Instr.sliceBound (.int F 0) y code).run P w= .ok 0 w:=fun F y code=>by
     have:=pD (P:=P) (w:=w) (code:=code) (v:=.int F 0) (y:=y) rfl (iN 0) aa;simpa using this
    rcases CE with⟨G,_⟩ | ⟨kl,G⟩
    ·simp[Instr.sliceAt,bi Q,Instr.slice,D,Instr.sliceBounds,V,G,GL,Y,dw L]
    ·simp[Instr.sliceAt,bi Q,Instr.slice,D,Instr.sliceBounds,V,G,GL,Y,dw L]
   ·rename_i N0;split at d
    case isFalse=>simp at d
    rename_i JV;obtain⟨c0,c1,c2,c3,My⟩:=JV
    obtain⟨kh,V⟩: ∃k,hi.map a.eval=some (.int k h):=by
     cases hi with
     | none=>simp only[hX,zA]at W;subst W;simp at My
     | some o=>
       rcases Kt with⟨h,_⟩ | h
       ·simp at h
       ·exact h
    have Y: ∀code,(Instr.sliceBound (.int km m) cap code).run P w= .ok m.toNat w:=fun code=>pD rfl aa aa
    have b2: ∀code,(Instr.sliceBound (.int kh h) m.toNat code).run P w= .ok h.toNat w:=fun code=>pD rfl aa aa
    have b3: ∀F code,(Instr.sliceBound (.int F l) h.toNat code).run P w= .ok l.toNat w:=fun F code=>pD rfl aa aa
    have T:(Instr.sliceAt t (a.eval x) (lo.map a.eval) (hi.map a.eval) (Option.map a.eval (some mo))).run P w= .ok (.slice (if m.toNat=l.toNat then C else C.map (·.add (l.toNat*n))) (h.toNat-l.toNat) (m.toNat-l.toNat)) w:=by
     rcases CE with⟨G,h2⟩ | ⟨kl,G⟩
     ·subst h2;simp[Instr.sliceAt,bi Q,Instr.slice,D,Instr.sliceBounds,V,G,GL,Y,b2,dw L,g2]
     ·simp[Instr.sliceAt,bi Q,Instr.slice,D,Instr.sliceBounds,V,G,GL,Y,b2,b3,dw L,g2]
    simp only[zA]at d;subst d;refine⟨_,T,?_,rfl,rfl,rfl,rfl⟩;show aO _ _ _ _ _ _ (sD n u l h m len)
    generalize hV:Value.slice (if m.toNat=l.toNat then C else C.map (·.add (l.toNat*n))) (h.toNat-l.toNat) (m.toNat-l.toNat)=val
    unfold sD;split
    ·rename_i es;split
     ·rename_i CG;subst hV;obtain⟨d0,d1,d2,Aa⟩:=CG;simp only[lenOf,zA]at f;have k0:l.toNat=0:=aa
      have k1:h.toNat=es.length:=aa
      have k2:m.toNat=es.length:=aa
      have k3: ¬es.length=0:=fun h0=>N0 ⟨d0,aa,aa,My⟩
      rw[k0,k1,k2,ac k3];rw[D]at q;rcases q.t_inv.sl_inv with⟨rfl,_⟩ | ⟨r,g,cap',z,vf,Fq,h0,M,hA,hs,Bs,hr⟩
      ·simp at k3
      ·cases Fq;have J:=RepT.sl (w:=w) (A:=A) (nm:=N.nm) r g es.length z es vf h0 (ay _) hA hs Bs hr
       have G:(Option.map (fun x:Addr=>x.add (0*n)) (some ⟨r,g,none⟩))=some ⟨r,g,none⟩:=by
        simp only[cZ,Nat.zero_mul,jB,gV]
       rw[G];exact(RepC.t (RepT.slc _ es J)).toV
     ·exact trivial
    ·exact trivial
theorem kb4 (g:I.Ok N) (R:Rel N c ns A μ lam s a w) {x:Operand} {lo hi:Option Operand} {m:Opd} {f j:Option Opd} {t:TypeId}
 (E:opd I x=some m) (q:hX I lo=some f) (r:hX I hi=some j) (B:P.underlying t=some .string)
 (d:ao N.G p s (.slstr m f j)=some e):dq N A μ s w ((Instr.sliceAt t (a.eval x) (lo.map a.eval) (hi.map a.eval) none).run P w) e:=by
 simp only[ao,zC,zB]at d;obtain⟨u,C,d⟩:=d;split at d
 ·rename_i b;simp only[zB]at d;obtain⟨h,y,l,z,d⟩:=d;split at d
  ·rename_i i;simp only[zA]at d;subst d;have D:=(bx g R E C).str_inv
   have v:(hi.map a.eval=none/\h=b.size)\/ ∃k,hi.map a.eval=some (.int k h):=by
    rcases tQ g R r y with⟨rfl,h⟩ | ⟨o,k,rfl,h⟩
    ·exact .inl ⟨rfl,h⟩
    ·exact .inr ⟨k,by simp[h]⟩
   have n:(lo.map a.eval=none/\l=0)\/ ∃k,lo.map a.eval=some (.int k l):=by
    rcases tQ g R q z with⟨rfl,h⟩ | ⟨o,k,rfl,h⟩
    ·exact .inl ⟨rfl,al h⟩
    ·exact .inr ⟨k,by simp[h]⟩
   have:=yn (P:=P) (w:=w) (b:=false) v n i.1 i.2.1 i.2.2;refine⟨_,?_,(RepC.t (.str _)).toV,rfl,rfl,rfl,rfl⟩;simp[Instr.sliceAt,bi B,Instr.slice,D,this]
  ·simp at d
 ·simp at d
end
theorem jW {α:Type} {cs d r:List α} {b:Nat} (h:wr cs b d=some r):
 b+d.length<=cs.length/\r.length=cs.length/\ ∀k,r[k]? =if b<=k/\k<b+d.length then d[k-b]? else cs[k]? :=by
 unfold wr at h;split at h
 ·rename_i i;simp only[zA]at h;subst h;refine⟨i,by simp;omega,fun k=> ?_⟩;simp only[mK,zM,bJ,zO,fx];have j:min b cs.length=b:=aa
  rw[j]
  by_cases f:k<b
  ·rw[ah aa,ah f,ah f,ac aa]
  ·by_cases g:k<b+d.length
   ·rw[ah g,ac f,ah aa]
   ·rw[ac g,ac aa]
    congr 1;omega
 ·simp at h
theorem xz (b:Nat): ∀(vs:List Value) (d:Nat) (cs:Array Value),
 ((vs.zipIdx d).foldl (fun cs (x:Value×Nat)=>match x with | (c,j)=>cs.setIfInBounds (b+j) c) cs).size=cs.size/\
 ∀k,((vs.zipIdx d).foldl (fun cs (x:Value×Nat)=>match x with | (c,j)=>cs.setIfInBounds (b+j) c) cs)[k]? =
  if b+d<=k/\k<b+d+vs.length/\k<cs.size then vs[k-(b+d)]? else cs[k]?
 | [],d,cs=>by simp;intro k h i;omega
 | v::vs,d,cs=>by
   obtain⟨h,i⟩:=xz b vs (d+1) (cs.setIfInBounds (b+d) v);simp only[List.zipIdx_cons,iy];refine⟨by rw[h];simp,fun k=> ?_⟩;rw[i k];simp only[Array.size_setIfInBounds,AW,d_]
   by_cases e:k=b+d
   ·subst e;rw[ac aa]
    by_cases f:b+d<cs.size
    ·rw[ah rfl,ah f,ah ⟨aa,aa,f⟩];simp
    ·rw[ah rfl,ac f,ac aa];simp[jR (Nat.le_of_not_lt f)]
   ·rw[ac (bX e)]
    by_cases g:b+(d+1)<=k/\k<b+(d+1)+vs.length/\k<cs.size
    ·rw[ah g,ah ⟨aa,aa,g.2.2⟩];have:k-(b+d)=(k-(b+(d+1)))+1:=aa
     rw[this];simp
    ·rw[ac g,ac aa]
section
variable {w:World} {A:Nat->Prop} {nm μ:Nat->Nat} {H:Nat->Option O}
theorem co.splice {vs l:List Value} {cs d r:List V} {b:Nat} (h:co w A nm μ H vs cs) (j:co w A nm μ H l d) (u:wr cs b d=some r) (f:List Value) (t:f.length=vs.length)
 (q: ∀k,k<vs.length->f[k]? =if b<=k/\k<b+l.length then l[k-b]? else vs[k]?):co w A nm μ H f r:=by
 obtain⟨v,m,o⟩:=jW u;refine⟨by rw[t,h.1,m],fun i x hi=> ?_⟩;have n:i<vs.length:=by rw[h.1,<- m];exact(zH.1 hi).1
 rw[o i]at hi;rw[q i n]
 by_cases g:b<=i/\i<b+d.length
 ·rw[ah g]at hi;rw[ah (by rw[j.1];exact g)];exact j.2 _ x hi
 ·rw[ac g]at hi;rw[ac (by rw[j.1];exact g)];exact h.2 i x hi
end
section
variable {P:Program} {N:Nam} {I:Inv} {c:Ctx} {ns p:Nat} {A:Nat->Prop} {μ lam:Nat->Nat} {s:St} {a:Act} {w:World} {e:Eff}
theorem P4 (t:I.Ok N) (R:Rel N c ns A μ lam s a w) (place:Nat->Option (Nat×Nat)): ∀(parts:List (Nat×Operand)) (d:List (Nat×Nat×Opd)) (cells:Array Value) (cs cs':List V),
 (parts.length=d.length/\ ∀(i:Nat) (q:Nat×Nat×Opd),d[i]? =some q-> ∃x,parts[i]? =some x/\place x.1=some (q.1,q.2.1)/\opd I x.2=some q.2.2)->
 co w A N.nm μ s.heap cells.toList cs->jf N.G cs s d=some cs'->
 ∃cells',Instr.fill place cells (parts.map fun x=>(x.1,a.eval x.2))=some cells'/\co w A N.nm μ s.heap cells'.toList cs'
 | [],d,cells,cs,cs',Cd,Ae,b=>by
   obtain⟨h,_⟩:=Cd;have:d=[]:=lx.1 (al h.symm);subst this;simp only[jf,zA]at b;subst b
   exact⟨cells,rfl,Ae⟩
 | (i,x)::parts,[],cells,cs,cs',Cd,Ae,b=>by simp at Cd
 | (i,x)::parts,(off,n,y)::d,cells,cs,cs',Cd,Ae,b=>by
   obtain⟨h,B⟩:=Cd;obtain⟨q0,r,m,l⟩:=B 0 _ rfl;simp only[dv,zA]at r;subst r;simp only at m l;simp only[jf,zC,zB]at b;obtain⟨v,Q,T,E,b⟩:=b;split at b
   ·rename_i U;simp only[zB]at b;obtain⟨f,o,b⟩:=b;have C:=(bx t R l Q).cells E;obtain⟨Y,Z,g3⟩:=jW o;have D:(a.eval x).cells.size=n:=by have:=C.1;simp at this;omega
    obtain⟨J,K⟩:=xz off (a.eval x).cells.toList 0 cells
    have G:co w A N.nm μ s.heap (((a.eval x).cells.toList.zipIdx 0).foldl (fun cs (x:Value×Nat)=>match x with | (c,j)=>cs.setIfInBounds (off+j) c) cells).toList f:=by
     refine Ae.splice C o _ (al J) (fun k u=> ?_);simp only[eu];rw[K k];simp only[gV,qX]at u⊢
     by_cases g:off<=k/\k<off+(a.eval x).cells.size
     ·rw[ah ⟨g.1,g.2,u⟩,ah g];simp
     ·rw[ac aa,ac g]
    obtain⟨cells',L,M⟩:=P4 t R place parts d _ f cs' ⟨al h,fun i q hi=>by
     obtain⟨z,S,F⟩:=B (i+1) q (al hi)
     exact⟨z,al S,F⟩⟩ G b
    refine⟨cells',?_,M⟩;have W:cells.size=cs.length:=by have:=Ae.1;simpa using this
    have X: ¬(off+(a.eval x).cells.size>cells.size):=aa
    simp only[aT,Instr.fill,m,D];rw[<- L];have:(decide (n≠n)||decide (off+n>cells.size))=false:=by simp;omega
    simp only[this,zG,aX]
    congr 1
    rw[<- we];simp
   ·simp at b
theorem VT {fields:Array Field} (h:fields.toList.all (fun f=>(typ P f.type).isSome)=true):
 (fields.mapM (m:=Sem) fun f=>do pure (f.offset,<- Go.sizeOf f.type)).run P w= .ok (fields.map fun f=>(f.offset,(P.info? f.type).elim 0 (·.size))) w:=by
 have d: ∀(l:List Field),l.all (fun f=>(typ P f.type).isSome)=true->
  (l.mapM (m:=Sem) fun f=>do pure (f.offset,<- Go.sizeOf f.type)).run P w= .ok (l.map fun f=>(f.offset,(P.info? f.type).elim 0 (·.size))) w:=by
  intro l b
  induction l with
  | nil=>simp
  | cons f l j=>
    simp only[ey,zF]at b;obtain⟨⟨ag,n⟩,i⟩:=rL.1 b.1;obtain⟨k,g,o,q,r⟩:=fE i;simp only[cQ,Sem.run_bind,dw g,Result.andThen_ok,Sem.run_pure,j b.2];simp[g]
 rw[GX];simp only[Sem.run_map,d _ h,Result.andThen_ok]
 congr 1
 apply qa;simp
theorem mq {t:TypeId} {z:List V} (h:gg P t=some z): ∃i v,P.info? t=some i/\i.zero=some v/\cellsOf v=some z/\ ∀w,(zeroValue t).run P w= .ok v w:=by
 unfold gg at h;split at h
 ·rename_i i hi;split at h
  ·rename_i v b;exact⟨i,v,hi,b,h,fun w=>by simp[zeroValue,se hi,b]⟩
  ·simp at h
 ·simp at h
theorem Ss (D:I.Ok N) (R:Rel N c ns A μ lam s a w) {t:TypeId} {z:List V} {parts:Array (Nat×Operand)} {b:List (Nat×Nat×Opd)} {place:Nat->Option (Nat×Nat)}
 (G:gg P t=some z)
 (F:(∃fields,P.underlying t=some (.struct fields)/\fields.toList.all (fun f=>(typ P f.type).isSome)=true/\place=((fields.map fun f=>(f.offset,(P.info? f.type).elim 0 (·.size)))[·]?))\/
   (∃len d ag n,P.underlying t=some (.array len d)/\typ P d=some (ag,n)/\place=fun i=>some (i*n,n)))
 (u:parts.toList.length=b.length/\ ∀(i:Nat) (q:Nat×Nat×Opd),b[i]? =some q-> ∃x,parts.toList[i]? =some x/\place x.1=some (q.1,q.2.1)/\opd I x.2=some q.2.2)
 (l:ao N.G p s (.build z b)=some e):dq N A μ s w ((Instr.build t (parts.map fun(i,x)=>(i,a.eval x))).run P w) e:=by
 simp only[ao,zC,zB,zA]at l;obtain⟨cs,o,rfl⟩:=l;obtain⟨i,v,hi,M,E,h⟩:=mq G;obtain⟨cells',k,C⟩:=P4 D R place parts.toList b v.cells z cs u (lF E) o;have j:(parts.map fun(i,x)=>(i,a.eval x)).toList=parts.toList.map fun x=>(x.1,a.eval x.2):=af
 refine⟨.agg cells',?_,⟨cells',rfl,C⟩,rfl,rfl,rfl,rfl⟩;rcases F with⟨fields,g,r,rfl⟩ | ⟨len,d,ag,n,g,m,rfl⟩
 ·simp only[Instr.build,Sem.run_bind,h w,Result.andThen_ok,bi g,VT r,j,k,Sem.run_pure]
 ·obtain⟨J,y,B,K,L⟩:=fE m;simp only[Instr.build,Sem.run_bind,h w,Result.andThen_ok,bi g,dw y,B,j,k,Sem.run_pure]
end
end Rg
end
