/- Part of the proof of laws of relyguardlaw04. No condition. -/
import Derived.Calls
import Derived.Laws.Sem
import Derived.Laws.World
import Derived.Lib.SlicesCompact
import Derived.Lib.ItoaNum
import Derived.Lib.Join
import Derived.Lib.IndexMore
set_option linter.unusedVariables false
set_option linter.unusedSimpArgs false
section
namespace Rg
open Go
inductive T where
 | int (k:IntKind) (n:Int)
 | bool (b:Bool)
 | str (s:ByteArray)
 | nilp | nils | nilm | nilf | nili
 | sl (es:List (List T))
 | ip (cs:List T)
 | fn (f:Nat) (first cap:List T)
 | fa (f:Nat) (cs:List T)
 | opq
 | slc (es:List (List T))
 deriving Inhabited
inductive V where
 | t (x:T)
 | ms (k i len:Nat)
 | mp (k i off:Nat)
 | mm (k:Nat)
 | yl (k:Nat)
 | ifc (t:Nat) (x:V)
 | fn (f:Nat) (first cap:List V)
 | agg (cs:List V)
 | tup (cs:List V)
 | undef
 | lb
 deriving Inhabited
inductive Opd where
 | s (t:Nat)
 | c (v:V)
 | g (k:Nat)
 | m (mt:List (Nat×Nat)) (t:Nat)
 deriving Inhabited
inductive AOp where
 | mv (x:Opd)
 | pick (c a b:Opd)
 | allocL (cells:List V)
 | allocH (cells:List V)
 | allocB
 | boxL (n:Nat) (x:Opd)
 | boxH (n:Nat) (x:Opd)
 | build (zero:List V) (parts:List (Nat×Nat×Opd))
 | bslice (sz len:Nat) (zero:List V) (parts:List (Nat×Opd))
 | lit (sz len:Nat) (zero:List V) (parts:List (Nat×Opd))
 | loadL (ag:Bool) (n:Nat) (a:Opd)
 | load (ag:Bool) (n:Nat) (a:Opd)
 | storeL (n:Nat) (a v:Opd)
 | store (n:Nat) (a v:Opd)
 | nilchk (x:Opd)
 | bin (op:BinOp) (x y:Opd)
 | eqb (neg:Bool) (x y:Opd)
 | eqa (neg:Bool) (ks:List Nat) (x y:Opd)
 | mx (mn:Bool) (x y:Opd)
 | un (op:UnOp) (x:Opd)
 | conv (k:IntKind) (x:Opd)
 | mkfn (f:Nat) (first cap:List Opd)
 | mkfnT (f:Nat) (x:Opd)
 | mkslice (sz bytes:Nat) (zero:List V) (l c:Opd)
 | slice (sz:Nat) (x:Opd) (lo hi mx:Option Opd)
 | slstr (x:Opd) (lo hi:Option Opd)
 | faddrL (off:Nat) (x:Opd)
 | faddr (off:Nat) (x:Opd)
 | field (ag:Bool) (off n:Nat) (x:Opd)
 | iaddrS (sz:Nat) (x i:Opd)
 | iaddrAL (len sz:Nat) (x i:Opd)
 | iaddrA (len sz:Nat) (x i:Opd)
 | idxA (ag:Bool) (len sz:Nat) (x i:Opd)
 | idxS (x i:Opd)
 | bstr (x:Opd)
 | extr (x:Opd) (i:Nat)
 | len (x:Opd)
 | slen (x:Opd)
 | lenA (n:Nat)
 | capN (x:Opd)
 | appz (sz bytes:Nat) (zero:List V) (x l:Opd)
 | stop
 | boxA (n:Nat) (x:Opd)
 | allocA (cells:List V)
 | storeA (n:Nat) (a v:Opd)
 | slicA (len:Nat) (x:Opd) (lo hi:Option Opd)
 | mkif (k:Nat) (x:Opd)
 | tassert (k:Nat) (zero:V) (ok:Bool) (x:Opd)
 | append (sz bytes:Nat) (x y:Opd)
 | copy (sz:Nat) (x y:Opd)
 | clear(sz:Nat) (zero:List V) (x:Opd)
 | mkmap
 | lookup (kd:Nat) (zero:V) (ok:Bool) (m k:Opd)
 | mapupd (kd:Nat) (m k v:Opd)
 | call (raw:Bool) (f:Opd) (args:List Opd)
 | fcall (f:Opd) (args:List Opd)
 deriving Inhabited
structure ROp where
 guard:Option (Nat×Bool)
 dst:Option Nat
 op:AOp
 deriving Inhabited
inductive Ext where
 | sortI
 | compactI
 | cloneI
 | cloneT (sz:Nat)
 | itoa
 | joinS
 | bldS
 | bldB
 | bldG
 | cutS
 deriving Inhabited
inductive C where
 | skip
 | region (draw:Bool) (ops:List ROp)
 | regionD (ck:List (Nat×Nat)) (ops:List ROp)
 | seq (a b:C)
 | cond (c:Opd) (a b:C)
 | block (id:Nat) (b:C)
 | loop (b:C)
 | exit (id:Nat)
 | ret
 | ext (e:Ext)
 | rangeF (g:Opd) (ps:List Nat) (b:C)
 | round (a b:C)
 deriving Inhabited
inductive Ex where
 | normal
 | exit (id:Nat)
 | ret
 deriving DecidableEq
inductive LSt where
 | ready
 | enter
 | busy
 | done (e:Ex)
def LSt.ends:LSt->Option Ex
 | .ready=>some .normal
 | .enter=>none
 | .busy=>none
 | .done e=>some e
def Ex.toL:Ex->LSt
 | .normal=> .ready
 | e=> .done e
inductive Bx where
 | bld (g:Option Nat)
 | mid
 | buf (l:List UInt8)
inductive O where
 | rows (sz:Nat) (rs:List (List V)) (frz:Bool)
 | map (es:List (T×V))
 | loop (env:Nat->V) (ps:List Nat) (b:C) (st:LSt)
 | raw (b:Bx)
 | dead
 deriving Inhabited
structure St where
 env:Nat->V
 loc:Nat->Option (List V)
 adr:Nat->Option (Nat×Nat)
 used:Nat->Bool
 heap:Nat->Option O
 nxt:Nat
 bas:Nat
inductive Res where
 | s (t:Nat)
 | l (t:Nat) (ag:Bool) (n:Nat)
 | h (t:Nat) (ag:Bool) (n:Nat)
 deriving Inhabited
structure F where
 nslots:Nat
 raw:Bool
 results:List Res
 body:C
 deriving Inhabited
def upd {α:Type} (f:Nat->α) (i:Nat) (v:α):Nat->α:=fun j=>if j=i then v else f j
@[simp]theorem zaz {α:Type} (f:Nat->α) (i:Nat) (v:α):upd f i v i=v:=by simp[upd]
theorem zad {α:Type} (f:Nat->α) {i j:Nat} (v:α) (h:j≠i):upd f i v j=f j:=by simp[upd,h]
def V.cells:V->Option (List V)
 | .agg cs=>some cs
 | .tup _ | .undef | .lb=>none
 | v=>some [v]
def V.isCell:V->Bool
 | .agg _ | .tup _ | .undef | .lb=>false
 | _=>true
def V.one:V->Bool
 | .tup _ | .undef | .lb=>false
 | _=>true
def zLb (g:Nat):Nat:=g % 1000000
def zLT (g:Nat) (x:V):List V:=if g<1000000 then [x]else [.tup [.t (.int .i64 (g/ 1000000-1:Nat)),x]]
def zO6 (h:Nat->Option O) (off:Nat):V->Option V
 | .mp k i o=>match h k with
   | some (.rows _ rs _)=>(rs[i]?).bind fun row=>row[o+off]?
   | _=>none
 | _=>none
def zJ3 (h:Nat->Option O):List V->Option (List V)
 | [.tup [.t (.int .i64 n),x]]=>(zO6 h n.toNat x).map fun v=>[v]
 | a=>some a
section
variable (G:Nat->List T)
def evl (s:St):Opd->Option V
 | .s t=>match s.env t with
   | .undef=>none
   | .lb=>none
   | v=>some v
 | .c v=>some v
 | .g k=>some (.t (.ip (G k)))
 | .m mt t=>match s.env t with
   | .ifc k x=>(mt.lookup k).map fun g=> .fn (zLb g) (zLT g x) []
   | _=>none
def zd8 (s:St):Opd->Option (Nat×Nat)
 | .s t=>match s.adr t with
   | some r=>some r
   | none=>match s.env t with
     | .lb=>some (t,0)
     | _=>none
 | _=>none
def zgE (s:St):List Opd->Option (List V)
 | []=>some []
 | x::xs=>do
   let v<- evl G s x
   let vs<- zgE s xs
   some (v::vs)
def zex (s:St) (x:Opd):Option Int:=
 match evl G s x with
 | some (.t (.int _ n))=>some n
 | _=>none
def zd5 (s:St) (x:Opd):Option Bool:=
 match evl G s x with
 | some (.t (.bool b))=>some b
 | _=>none
def rd {α:Type} (cs:List α) (off n:Nat):Option (List α):=
 if off+n<=cs.length then some ((cs.drop off).take n)else none
def zb9 (ag:Bool) (r:List V):Option V:=
 if ag then some (.agg r)else match r with
  | [v]=>some v
  | _=>none
def wr {α:Type} (cs:List α) (off:Nat) (new:List α):Option (List α):=
 if off+new.length<=cs.length then some (cs.take off++new++cs.drop (off+new.length))else none
def zvs (op:BinOp) (x y:T):Option T:=
 match x,y with
 | .int k a,.int k' b=>
   match op with
   | .shl=>if b<0 then none else some (.int k (k.wrap (a*2^min b.toNat k.bits)))
   | .shr=>if b<0 then none else some (.int k (a.fdiv (2^min b.toNat k.bits)))
   | _=>
     if k=k' then
      match op with
      | .add=>some (.int k (k.wrap (a+b)))
      | .sub=>some (.int k (k.wrap (a-b)))
      | .mul=>some (.int k (k.wrap (a*b)))
      | .quo=>if b=0 then none else some (.int k (k.wrap (a.tdiv b)))
      | .rem=>if b=0 then none else some (.int k (a.tmod b))
      | .and=>some (.int k (k.wrap (BitVec.ofInt k.bits a&&& BitVec.ofInt k.bits b).toNat))
      | .or=>some (.int k (k.wrap (BitVec.ofInt k.bits a ||| BitVec.ofInt k.bits b).toNat))
      | .xor=>some (.int k (k.wrap (BitVec.ofInt k.bits a^^^ BitVec.ofInt k.bits b).toNat))
      | .andNot=>some (.int k (k.wrap (BitVec.ofInt k.bits a&&& ~~~BitVec.ofInt k.bits b).toNat))
      | .eql=>some (.bool (a==b))
      | .neq=>some (.bool (a != b))
      | .lss=>some (.bool (a<b))
      | .leq=>some (.bool (a<=b))
      | .gtr=>some (.bool (a>b))
      | .geq=>some (.bool (a>=b))
      | _=>none
     else none
 | .str a,.str b=>
   match op with
   | .add=>if((a.size+b.size:Nat):Int)<=2^40 then some (.str (a++b))else none
   | .eql=>some (.bool (a.toList==b.toList))
   | .neq=>some (.bool !(a.toList==b.toList))
   | .lss=>some (.bool (Op.bytesLess a.toList b.toList))
   | .leq=>some (.bool (Op.bytesLess a.toList b.toList||a.toList==b.toList))
   | .gtr=>some (.bool !(Op.bytesLess a.toList b.toList||a.toList==b.toList))
   | .geq=>some (.bool !(Op.bytesLess a.toList b.toList))
   | _=>none
 | _,_=>none
def mxT (mn:Bool) (x y:T):Option T:=
 match x,y with
 | .int k a,.int k' b=>if k=k' then some (.int k (if mn then(if b<a then b else a)else(if b>a then b else a)))else none
 | _,_=>none
def unT (op:UnOp) (x:T):Option T:=
 match op,x with
 | .neg,.int k n=>some (.int k (k.wrap (0-n)))
 | .xor,.int k n=>some (.int k (k.wrap (BitVec.ofInt k.bits (if k.signed then -1 else k.max)^^^ BitVec.ofInt k.bits n).toNat))
 | .not,.bool b=>some (.bool !b)
 | _,_=>none
def zg6 (n:Nat) (x y:V):Option Bool:=
 match x,y with
 | .t (.int k a),.t (.int k' b)=>if n=0/\k=k' then some (a==b)else none
 | .t (.bool a),.t (.bool b)=>if n=1 then some (a==b)else none
 | .t (.str a),.t (.str b)=>if n=2 then some (a.toList==b.toList)else none
 | _,_=>none
def zbh:List Nat->List V->List V->Option Bool
 | [],[],[]=>some true
 | n::ns,x::xs,y::ys=>do
   let b<- zg6 n x y
   let r<- zbh ns xs ys
   some (b&&r)
 | _,_,_=>none
def zdw (s:St):V->Option (List (List V))
 | .t .nils=>some []
 | .t (.sl es)=>some (es.map (·.map V.t))
 | .t (.slc es)=>some (es.map (·.map V.t))
 | .ms k i len=>match s.heap k with
   | some (.rows _ rs _)=>rd rs i len
   | _=>none
 | _=>none
def lenOf (s:St):V->Option Nat
 | .t .nils=>some 0
 | .t (.sl es)=>some es.length
 | .t (.slc es)=>some es.length
 | .ms k _ len=>match s.heap k with
   | some (.rows _ _ _)=>some len
   | _=>none
 | _=>none
structure Eff where
 val:V:=.undef
 adr:Option (Nat×Nat):=none
 loc:Option (List V):=none
 wloc:Option (Nat×List V):=none
 hp:List (Nat×O):=[]
def zbf (h:Nat->Option O):List (Nat×O)->Nat->Option O
 | []=>h
 | (k,o)::r=>zbf (upd h k (some o)) r
def St.apply (s:St) (dst:Option Nat) (e:Eff):St:=
 { s with
   env:=match dst with | some d=>upd s.env d e.val | none=>s.env
   adr:=match dst with | some d=>upd s.adr d e.adr | none=>s.adr
   loc:=
    let l:=match e.wloc with | some (b,cs)=>upd s.loc b (some cs) | none=>s.loc
    match dst with | some d=>upd l d e.loc | none=>l
   used:=match e.adr with | some (b,_)=>upd s.used b true | none=>s.used
   heap:=zbf s.heap e.hp }
def zbY (cs:List V) (s:St):List (Nat×Nat×Opd)->Option (List V)
 | []=>some cs
 | (off,n,x)::r=>do
   let v<- evl G s x
   let new<- v.cells
   if new.length=n then
    let cs<- wr cs off new
    zbY cs s r
   else none
def zcH (rs:List (List V)) (sz:Nat) (s:St):List (Nat×Opd)->Option (List (List V))
 | []=>some rs
 | (i,x)::r=>do
   let v<- evl G s x
   let new<- v.cells
   if new.length=sz/\i<rs.length then zcH (rs.set i new) sz s r else none
def zew (s:St) (d:Nat):Option Opd->Option Int
 | none=>some d
 | some x=>zex G s x
def zsq:V->Option T
 | .t (.int k n)=>some (.int k n)
 | .t (.bool b)=>some (.bool b)
 | .t (.str b)=>some (.str b)
 | _=>none
def zg2:List V->Option (List T)
 | []=>some []
 | x::r=>do
   let t<- zsq x
   let ts<- zg2 r
   some (t::ts)
def T.kindN:T->Nat
 | .int _ _=>0
 | .bool _=>1
 | _=>2
def zjh:List Nat->Nat
 | []=>0
 | k::r=>k+1+4*zjh r
def zj1 (kd:Nat):V->Option T
 | .t (.int k n)=>if kd=0 then some (.int k n)else none
 | .t (.bool b)=>if kd=1 then some (.bool b)else none
 | .t (.str b)=>if kd=2 then some (.str b)else none
 | .agg cs=>(zg2 cs).bind fun ts=>if kd=3+zjh (ts.map T.kindN)then some (.sl [ts])else none
 | _=>none
def zsp:T->T->Option Bool
 | .int k a,.int k' b=>if k=k' then some (a==b)else none
 | .str a,.str b=>some (a==b)
 | .bool a,.bool b=>some (a==b)
 | _,_=>none
def zfw:List T->List T->Option Bool
 | [],[]=>some true
 | x::xs,y::ys=>do
   let b<- zsp x y
   let r<- zfw xs ys
   some (b&&r)
 | _,_=>none
def zeu:T->T->Option Bool
 | .int k a,.int k' b=>if k=k' then some (a==b)else none
 | .str a,.str b=>some (a==b)
 | .bool a,.bool b=>some (a==b)
 | .sl [a],.sl [b]=>zfw a b
 | _,_=>none
def zbo (k:T):List (T×V)->Option (Option V)
 | []=>some none
 | (k',v)::r=>match zeu k k' with
   | none=>none
   | some true=>some (some v)
   | some false=>zbo k r
def zbF (k:T) (v:V):List (T×V)->Option (List (T×V))
 | []=>some [(k,v)]
 | (k',v')::r=>match zeu k k' with
   | none=>none
   | some true=>some ((k,v)::r)
   | some false=>(zbF k v r).map ((k',v'):: ·)
def T.norm:T->T
 | .nils=> .sl []
 | x=>x
def trees:List V->Option (List T)
 | []=>some []
 | .t x::r=>(trees r).map (x.norm:: ·)
 | _=>none
def zqq (f:Nat) (a b:List V):Option V:=
 if a.all V.isCell/\b.all V.isCell then some (.fn f a b)
 else match a,b with
  | [.agg cs],[]=>(trees cs).map fun ts=> .t (.fa f ts)
  | _,_=>none
def zbU {α:Type} (a b rs:List α):List α:=if rs.length<=a.length+b.length then a++b else a++b++rs.drop (a.length+b.length)
def bytesOf:List (List V)->Option (List UInt8)
 | []=>some []
 | [.t (.int .u8 z)]::r=>if 0<=z/\z<256 then(bytesOf r).map (UInt8.ofNat z.toNat:: ·)else none
 | _=>none
def zmn (sz:Nat) (v:V) (l h m:Int) (n:Nat):V:=match v with
 | .t (.sl es)=>if l=0/\h=n/\m=n/\es.all (·.length=sz)then .t (.slc es)else if l=0/\h=m then .t (.sl (es.take h.toNat))else .lb
 | _=> .lb
def zaj (p:Nat) (s:St):AOp->Option Eff
 | .mv x=>do
   let v<- evl G s x
   some { val:=v }
 | .pick c a b=>do
   let t<- zd5 G s c
   let v<- evl G s (if t then a else b)
   some { val:=v }
 | .allocL cells=>some { val:=.lb,loc:=some cells }
 | .allocH cells=>some { val:=.mp (s.bas+p) 0 0,hp:=[(s.bas+p,.rows cells.length [cells] false)] }
 | .allocB=>some { val:=.mp (s.bas+p) 0 0,hp:=[(s.bas+p,.raw (.bld none))] }
 | .boxL n x=>do
   let v<- evl G s x
   let cs<- v.cells
   if cs.length=n then some { val:=.lb,loc:=some cs }else none
 | .boxH n x=>do
   let v<- evl G s x
   let cs<- v.cells
   if cs.length=n then some { val:=.mp (s.bas+p) 0 0,hp:=[(s.bas+p,.rows n [cs] false)] }else none
 | .build zero parts=>do
   let cs<- zbY G zero s parts
   some { val:=.agg cs }
 | .bslice sz len zero parts=>do
   let rs<- zcH G (List.replicate len zero) sz s parts
   some { val:=.ms (s.bas+p) 0 len,hp:=[(s.bas+p,.rows sz rs false)] }
 | .lit sz len zero parts=>do
   let rs<- zcH G (List.replicate len zero) sz s parts
   let ts<- rs.mapM trees
   some { val:=.t (.sl ts) }
 | .loadL ag n a=>do
   let(b,off)<- zd8 s a
   let cs<- s.loc b
   let r<- rd cs off n
   let v<- zb9 ag r
   some { val:=v }
 | .load ag n a=>do
   match <- evl G s a with
   | .mp k i off=>match s.heap k with
     | some (.rows _ rs _)=>do
       let row<- rs[i]?
       let r<- rd row off n
       let v<- zb9 ag r
       some { val:=v }
     | _=>none
   | .t (.ip cs)=>do
     let r<- rd cs 0 n
     let v<- zb9 ag (r.map V.t)
     some { val:=v }
   | _=>none
 | .storeL n a x=>do
   let(b,off)<- zd8 s a
   let cs<- s.loc b
   let v<- evl G s x
   let new<- v.cells
   if new.length=n then
    let cs'<- wr cs off new
    some { wloc:=some (b,cs') }
   else none
 | .store n a x=>do
   match <- evl G s a with
   | .mp k i off=>match s.heap k with
     | some (.rows sz rs false)=>do
       let row<- rs[i]?
       let v<- evl G s x
       let new<- v.cells
       if new.length=n then
        let row'<- wr row off new
        some { hp:=[(k,.rows sz (rs.set i row') false)] }
       else none
     | _=>none
   | _=>none
 | .nilchk x=>do
   match <- evl G s x with
   | .mp k i off=>match s.heap k with
     | some (.rows _ _ _)=>some { val:=.mp k i off }
     | _=>none
   | .t (.ip cs)=>some { val:=.t (.ip cs) }
   | .fn f a b=>some { val:=.fn f a b }
   | .t (.fn f a b)=>some { val:=.t (.fn f a b) }
   | .t (.fa f c)=>some { val:=.t (.fa f c) }
   | _=>none
 | .bin op x y=>do
   match <- evl G s x,<- evl G s y with
   | .t a,.t b=>do
     let r<- zvs op a b
     some { val:=.t r }
   | _,_=>none
 | .eqb neg x y=>do
   let a<- zd5 G s x
   let b<- zd5 G s y
   some { val:=.t (.bool ((a==b) != neg)) }
 | .eqa neg ks x y=>do
   match <- evl G s x,<- evl G s y with
   | .agg a,.agg b=>do
     let r<- zbh ks a b
     some { val:=.t (.bool (r != neg)) }
   | _,_=>none
 | .mx mn x y=>do
   match <- evl G s x,<- evl G s y with
   | .t a,.t b=>do
     let r<- mxT mn a b
     some { val:=.t r }
   | _,_=>none
 | .un op x=>do
   match <- evl G s x with
   | .t a=>do
     let r<- unT op a
     some { val:=.t r }
   | _=>none
 | .conv k x=>do
   let n<- zex G s x
   some { val:=.t (.int k (k.wrap n)) }
 | .mkfn f first cap=>do
   let a<- zgE G s first
   let b<- zgE G s cap
   let v<- zqq f a b
   some { val:=v }
 | .mkfnT f x=>do
   let v<- evl G s x
   match v with
   | .mp k i off=>
     match s.heap k with
     | some (.rows sz [row] _)=>if i=0/\off=0 then(trees row).bind fun ts=>some ({ val:=.t (.fn f [] [.ip ts]),hp:=[(k,.rows sz [row] true)] }:Eff)else none
     | _=>none
   | _=>none
 | .boxA n x=>do
   let v<- evl G s x
   let cs<- v.cells
   if cs.length=n/\0<n then some { val:=.mp (s.bas+p) 0 0,hp:=[(s.bas+p,.rows 1 (cs.map fun c=>[c]) false)] }else none
 | .allocA cells=>if 0<cells.length then some { val:=.mp (s.bas+p) 0 0,hp:=[(s.bas+p,.rows 1 (cells.map fun c=>[c]) false)] }else none
 | .storeA n a x=>do
   match <- evl G s a with
   | .mp k 0 0=>match s.heap k with
     | some (.rows 1 rs false)=>do
       let v<- evl G s x
       let new<- v.cells
       if new.length=n/\rs.length=n then some { hp:=[(k,.rows 1 (new.map fun c=>[c]) false)] }else none
     | _=>none
   | _=>none
 | .slicA n x lo hi=>do
   match <- evl G s x with
   | .mp k 0 0=>match s.heap k with
     | some (.rows 1 rs _)=>do
       let h<- zew G s n hi
       let l<- zew G s 0 lo
       if 0<=l/\l<=h/\h<=n/\rs.length=n then some { val:=.ms k l.toNat (h-l).toNat }else none
     | _=>none
   | _=>none
 | .mkif k x=>do
   let v<- evl G s x
   if v.isCell then some { val:=.ifc k v }else none
 | .tassert k zero ok x=>do
   match <- evl G s x with
   | .ifc k' v=>if k'=k then some { val:=if ok then .tup [v,.t (.bool true)]else v }else none
   | .t .nili=>if ok then some { val:=.tup [zero,.t (.bool false)] }else none
   | _=>none
 | .mkslice sz bytes zero l c=>do
   let n<- zex G s l
   let m<- zex G s c
   if 0<=n/\n<=m/\m<=2^32/\bytes<=2^12/\zero.length=sz then
    some { val:=.ms (s.bas+p) 0 n.toNat,hp:=[(s.bas+p,.rows sz (List.replicate n.toNat zero) false)] }
   else none
 | .slice sz x lo hi mx=>do
   let v<- evl G s x
   let n<- lenOf s v
   let h<- zew G s n hi
   let l<- zew G s 0 lo
   match mx with
   | none=>
     if 0<=l/\l<=h/\h<=n then
      match v with
      | .t .nils=>some { val:=.t .nils }
      | .t (.sl es)=>if es.all (·.length=sz)then some { val:=.t (.sl ((es.drop l.toNat).take (h-l).toNat)) }else none
      | .ms k i _=>match s.heap k with
        | some (.rows sz' _ _)=>if sz'=sz then some { val:=.ms k (i+l.toNat) (h-l).toNat }else none
        | _=>none
      | _=>none
     else
      match v with
      | .ms k i _=>match s.heap k with
        | some (.rows sz' rs _)=>if sz'=sz/\0<=l/\l<=h/\(i:Int)+h<=rs.length then some { val:=.ms k (i+l.toNat) (h-l).toNat }else none
        | _=>none
      | _=>none
   | some m=>do
     let m<- zex G s m
     if l=0/\h=0/\m=0/\hi.isSome then
      match v with
      | .t .nils=>some { val:=.t .nils }
      | .t (.sl [])=>some { val:=.t (.slc []) }
      | .t (.sl (_::_))=>some { val:=.t .nils }
      | .ms _ _ _=>some { val:=.t .nils }
      | _=>none
     else if 0<=l/\l<=h/\h<=m/\m<=n/\hi.isSome then some { val:=zmn sz v l h m n }else none
 | .slstr x lo hi=>do
   match <- evl G s x with
   | .t (.str b)=>do
     let h<- zew G s b.size hi
     let l<- zew G s 0 lo
     if 0<=l/\l<=h/\h<=b.size then some { val:=.t (.str (b.extract l.toNat h.toNat)) }else none
   | _=>none
 | .faddrL off x=>do
   let(b,o)<- zd8 s x
   let _<- s.loc b
   some { val:=.lb,adr:=some (b,o+off) }
 | .faddr off x=>do
   match <- evl G s x with
   | .mp k i o=>match s.heap k with
     | some (.rows _ _ _)=>some { val:=.mp k i (o+off) }
     | _=>none
   | .t (.ip cs)=>some { val:=.t (.ip (cs.drop off)) }
   | _=>none
 | .field ag off n x=>do
   match <- evl G s x with
   | .agg cs=>do
     let r<- rd cs off n
     let v<- zb9 ag r
     some { val:=v }
   | _=>none
 | .iaddrS sz x i=>do
   let n<- zex G s i
   match <- evl G s x with
   | .t (.sl es)=>
     if 0<=n then(es[n.toNat]?).bind fun row=>if row.length=sz then some { val:=.t (.ip row) }else none
     else none
   | .t (.slc es)=>
     if 0<=n then(es[n.toNat]?).bind fun row=>if row.length=sz then some { val:=.t (.ip row) }else none
     else none
   | .ms k j len=>match s.heap k with
     | some (.rows sz' _ _)=>if 0<=n/\n<len/\sz'=sz then some { val:=.mp k (j+n.toNat) 0 }else none
     | _=>none
   | _=>none
 | .iaddrAL len sz x i=>do
   let n<- zex G s i
   let(b,o)<- zd8 s x
   let _<- s.loc b
   if 0<=n/\n<len then some { val:=.lb,adr:=some (b,o+n.toNat*sz) }else none
 | .iaddrA len sz x i=>do
   let n<- zex G s i
   if 0<=n/\n<len then
    match <- evl G s x with
    | .mp k j o=>match s.heap k with
      | some (.rows _ _ _)=>some { val:=.mp k j (o+n.toNat*sz) }
      | _=>none
    | .t (.ip cs)=>some { val:=.t (.ip (cs.drop (n.toNat*sz))) }
    | _=>none
   else none
 | .idxA ag len sz x i=>do
   let n<- zex G s i
   match <- evl G s x with
   | .agg cs=>
     if 0<=n/\n<len then(rd cs (n.toNat*sz) sz).bind fun r=>(zb9 ag r).bind fun v=>some { val:=v }
     else none
   | _=>none
 | .idxS x i=>do
   let n<- zex G s i
   match <- evl G s x with
   | .t (.str b)=>
     if 0<=n then(b[n.toNat]?).bind fun c=>some { val:=.t (.int .u8 c.toNat) }
     else none
   | _=>none
 | .bstr x=>do
   let v<- evl G s x
   let rs<- zdw s v
   let l<- bytesOf rs
   some { val:=.t (.str ⟨l.toArray⟩) }
 | .extr x i=>do
   match <- evl G s x with
   | .tup cs=>do
     let v<- cs[i]?
     some { val:=v }
   | _=>none
 | .len x=>do
   let v<- evl G s x
   let n<- lenOf s v
   some { val:=.t (.int .i64 n) }
 | .slen x=>do
   match <- evl G s x with
   | .t (.str b)=>some { val:=.t (.int .i64 b.size) }
   | _=>none
 | .lenA n=>some { val:=.t (.int .i64 n) }
 | .capN x=>do
   match <- evl G s x with
   | .t .nils=>some { val:=.t (.int .i64 0) }
   | _=>none
 | .appz sz bytes zero x l=>do
   let n<- zex G s l
   match <- evl G s x with
   | .t .nils=>
     if 1<=n/\n<=2^32/\bytes<=2^12/\zero.length=sz then
      some { val:=.ms (s.bas+p) 0 n.toNat,hp:=[(s.bas+p,.rows sz (List.replicate n.toNat zero) false)] }
     else none
   | _=>none
 | .stop=>none
 | .append sz bytes x y=>do
   let u<- evl G s x
   let v<- evl G s y
   let a<- zdw s u
   let b<- zdw s v
   if(a.length+b.length<=2^32/\bytes<=2^12)/\b.all (·.length=sz)/\a.all (·.length=sz)then
    if b.isEmpty then some { val:=u }
    else
     match u with
     | .t .nils=>some { val:=.ms (s.bas+p) 0 b.length,hp:=[(s.bas+p,.rows sz b false)] }
     | .t (.slc _)=>((a++b).mapM trees).bind fun ts=>some { val:=.t (.sl ts) }
     | .ms k i _=>match s.heap k with
       | some (.rows sz' rs false)=>
         if sz'=sz/\i=0 then some { val:=.ms (s.bas+p) 0 (a.length+b.length),hp:=[(k,.dead),(s.bas+p,.rows sz (zbU a b rs) false)] }else none
       | _=>none
     | _=>none
   else none
 | .copy sz x y=>do
   let u<- evl G s x
   let v<- evl G s y
   let b<- zdw s v
   match u with
   | .t .nils=>some { val:=.t (.int .i64 0) }
   | .ms k i len=>match s.heap k with
     | some (.rows sz' rs false)=>
       if sz'=sz/\b.all (·.length=sz)then
        (wr rs i (b.take len)).bind fun rs'=>some { val:=.t (.int .i64 (min b.length len:Nat)),hp:=[(k,.rows sz rs' false)] }
       else none
     | _=>none
   | _=>none
 | .clear sz zero x=>do
   let u<- evl G s x
   match u with
   | .t .nils=>some { val:=.tup [] }
   | .ms k i len=>match s.heap k with
     | some (.rows sz' rs false)=>
       if sz'=sz/\zero.length=sz then
        (wr rs i (List.replicate len zero)).bind fun rs'=>some { val:=.tup [],hp:=[(k,.rows sz rs' false)] }
       else none
     | _=>none
   | _=>none
 | .mkmap=>some { val:=.mm (s.bas+p),hp:=[(s.bas+p,.map [])] }
 | .lookup kd zero ok m k=>do
   let x<- evl G s k
   let key<- zj1 kd x
   let es<- (match <- evl G s m with
    | .t .nilm=>some []
    | .mm j=>match s.heap j with
      | some (.map es)=>some es
      | _=>none
    | _=>none)
   let r<- zbo key es
   if ok then some { val:=.tup [r.getD zero,.t (.bool r.isSome)] }else some { val:=r.getD zero }
 | .mapupd kd m k v=>do
   let x<- evl G s k
   let key<- zj1 kd x
   let u<- evl G s v
   match <- evl G s m with
   | .mm j=>match s.heap j with
     | some (.map es)=>do
       let es'<- zbF key u es
       if u.one then some { hp:=[(j,.map es')] }else none
     | _=>none
   | _=>none
 | .call _ _ _=>none
 | .fcall _ _=>none
end
def toT (h:Nat->Option O):Nat->V->Option T
 | _,.t x=>some x.norm
 | d+1,.ms k i len=>match h k with
   | some (.rows _ rs _)=>do
     let r<- rd rs i len
     let es<- r.mapM (fun row=>row.mapM (toT h d))
     some (.sl es)
   | _=>none
 | d+1,.mp k i off=>match h k with
   | some (.rows _ rs _)=>do
     let row<- rs[i]?
     let cs<- (row.drop off).mapM (toT h d)
     some (.ip cs)
   | _=>none
 | d+1,.fn f a b=>do
   let a'<- a.mapM (toT h d)
   let b'<- b.mapM (toT h d)
   some (.fn f a' b')
 | _+1,.mm k=>match h k with
   | some (.map _)=>some .opq
   | _=>none
 | _,_=>none
def toT1 (h:Nat->Option O):V->Option V
 | .agg cs=>(cs.mapM (toT h 1000)).map fun ts=> .agg (ts.map V.t)
 | v=>(toT h 1000 v).map V.t
def reify (h:Nat->Option O):V->Option V
 | .tup cs=>(cs.mapM (toT1 h)).map V.tup
 | v=>toT1 h v
def zca (h:Nat->Option O):Nat->V->List Nat
 | d+1,.ms k _ _=>k::(match h k with | some (.rows _ rs _)=>rs.flatMap (·.flatMap (zca h d)) | _=>[])
 | d+1,.mp k _ _=>k::(match h k with | some (.rows _ rs _)=>rs.flatMap (·.flatMap (zca h d)) | _=>[])
 | d+1,.fn _ a b=>a.flatMap (zca h d)++b.flatMap (zca h d)
 | _,_=>[]
def zba (h:Nat->Option O):V->List Nat
 | .agg cs=>cs.flatMap (zca h 1000)
 | v=>zca h 1000 v
def T.scalar:T->Bool
 | .sl []=>true
 | .sl _ | .ip _ | .fn _ _ _ | .fa _ _ | .slc _=>false
 | _=>true
def V.scalar1:V->Bool
 | .t x=>x.scalar
 | _=>false
def V.scalar2:V->Bool
 | .agg cs=>cs.all V.scalar1
 | v=>v.scalar1
def V.scalar:V->Bool
 | .tup cs=>cs.all V.scalar2
 | v=>v.scalar2
def freezes (h:Nat->Option O) (l:List Nat):List (Nat×O):=
 l.filterMap fun k=>match h k with
  | some (.rows sz rs _)=>some (k,.rows sz rs true)
  | _=>none
def St.begin (s:St) (n:Nat):St:=
 { s with adr:=fun _=>none,used:=fun _=>false,bas:=s.nxt,nxt:=s.nxt+n }
def zfz (args:List V):Nat->V:=fun t=>args.getD t .undef
def St.init (args:List V) (h:Nat->Option O) (n:Nat):St:=
 { env:=zfz args,loc:=fun _=>none,adr:=fun _=>none,used:=fun _=>false,heap:=h,nxt:=n,bas:=n }
def zer (s:St):Res->Option V
 | .s t=>match s.env t with
   | .undef=>none
   | .lb=>none
   | .tup _=>none
   | v=>some v
 | .l t ag n=>do
   let cs<- s.loc t
   let r<- rd cs 0 n
   zb9 ag r
 | .h t ag n=>match s.env t with
   | .mp k i off=>match s.heap k with
     | some (.rows _ rs _)=>do
       let row<- rs[i]?
       let r<- rd row off n
       zb9 ag r
     | _=>none
   | _=>none
def zeM (s:St) (rs:List Res):Option V:=do
 let vs<- rs.mapM (zer s)
 match vs with
 | [v]=>some v
 | vs=>some (.tup vs)
def zfC:V->Option (Nat×List V×List V)
 | .fn f a b=>some (f,a,b)
 | .t (.fn f a b)=>some (f,a.map V.t,b.map V.t)
 | .t (.fa f c)=>some (f,[.agg (c.map V.t)],[])
 | _=>none
def zd2:List (List V)->Option (List Int)
 | []=>some []
 | [.t (.int .i64 z)]::r=>(zd2 r).map (z:: ·)
 | _=>none
def za9 (l:List Int):List (List V):=l.map fun z=>[.t (.int .i64 z)]
def zia (h:Nat->Option O) (n k:Nat) (new:List UInt8):Option ((Nat->Option O)×Nat):=match h k with
 | some (.raw (.bld none))=>if new.length<=140737488355328 then
    if new=[]then some (h,n)else some (upd (upd h n (some (.raw (.buf new)))) k (some (.raw (.bld (some n)))),n+1)else none
 | some (.raw (.bld (some g)))=>match h g with
   | some (.raw (.buf l))=>if l.length+new.length<=140737488355328 then some (upd (upd (upd h g (some .dead)) n (some (.raw (.buf (l++new))))) k (some (.raw (.bld (some n)))),n+1)else none
   | _=>none
 | _=>none
def zd3 (e:Ext) (args:List V) (h:Nat->Option O) (n:Nat):Option (V×(Nat->Option O)×Nat):=match e,args with
 | .sortI,[.t .nils]=>some (.tup [],h,n)
 | .sortI,[.ms k 0 len]=>match h k with
   | some (.rows 1 rs false)=>(zd2 rs).bind fun zs=>if zs.length=len/\len<1099511627776 then some (.tup [],upd h k (some (.rows 1 (za9 (zs.mergeSort fun x y=>decide (x<=y))) false)),n)else none
   | _=>none
 | .compactI,[.t .nils]=>some (.t (.sl []),h,n)
 | .compactI,[.ms k 0 len]=>match h k with
   | some (.rows 1 rs false)=>(zd2 rs).bind fun zs=>if zs.length=len/\len<1099511627776 then some (.t (.sl ((Go.Lib.compact zs).map fun z=>[.int .i64 z])),upd h k (some (.rows 1 (za9 (Go.Lib.compact zs++List.replicate (zs.length-(Go.Lib.compact zs).length) 0)) true)),n)else none
   | _=>none
 | .cloneI,[.t .nils]=>some (.t (.sl []),h,n)
 | .cloneI,[.t (.sl [])]=>some (.t (.sl []),h,n)
 | .cloneI,[.t (.sl es)]=>(zd2 (es.map (·.map V.t))).bind fun zs=>if zs.length<1099511627776 then some (.ms n 0 zs.length,upd h n (some (.rows 1 (za9 zs) false)),n+1)else none
 | .bldS,[.mp k 0 0,.t (.str s)]=>(zia h n k s.data.toList).map fun(h',n')=>(.tup [.t (.int .i64 s.size),.t .nili],h',n')
 | .bldB,[.mp k 0 0,.t (.int .u8 z)]=>if 0<=z/\z<256 then(zia h n k [UInt8.ofNat z.toNat]).map fun(h',n')=>(.t .nili,h',n')else none
 | .bldG,[.mp k 0 0]=>match h k with
   | some (.raw (.bld none))=>some (.t (.str ⟨#[]⟩),upd h k (some .dead),n)
   | some (.raw (.bld (some g)))=>match h g with
     | some (.raw (.buf l))=>some (.t (.str ⟨l.toArray⟩),upd (upd h g (some .dead)) k (some .dead),n)
     | _=>none
   | _=>none
 | _,_=>none
def zhK:List (List T)->Option (List ByteArray)
 | []=>some []
 | [.str s]::r=>(zhK r).map (s:: ·)
 | _=>none
def zBL (z:Int):ByteArray:=⟨(Go.Lib.itoa z).toArray⟩
def zn7 (l:List ByteArray) (sep:ByteArray):ByteArray:=⟨(Go.Lib.join (l.map (·.data.toList)) sep.data.toList).toArray⟩
def zev (e:Ext) (args:List V):Option V:=match e,args with
 | .itoa,[.t (.int .i64 z)]=>if -9223372036854775808<=z/\z<=9223372036854775807 then some (.t (.str (zBL z)))else none
 | .cloneT _,[.t .nils]=>some (.t (.sl []))
 | .cloneT sz,[.t (.sl es)]=>if es.length<4294967296/\es.all (fun e=>decide (e.length=sz))=true then some (.t (.sl es))else none
 | .cloneT sz,[.t (.slc es)]=>if es.length<4294967296/\es.all (fun e=>decide (e.length=sz))=true then some (.t (.sl es))else none
 | .joinS,[.t (.sl es),.t (.str sep)]=>(zhK es).bind fun l=>if l.length<=140737488355328/\(zn7 l sep).size<=140737488355328 then some (.t (.str (zn7 l sep)))else none
 | .cutS,[.t (.str s),.t (.str sep)]=>if s.size<4294967281 then some (.tup [.t (.str ⟨(Go.Lib.cut s.data.toList sep.data.toList).1.toArray⟩),.t (.str ⟨(Go.Lib.cut s.data.toList sep.data.toList).2.1.toArray⟩),.t (.bool (Go.Lib.cut s.data.toList sep.data.toList).2.2)])else none
 | _,_=>none
def zcs (s:St):Option (Nat×Bool)->Option Bool
 | none=>some true
 | some (g,want)=>match s.env g with
   | .t (.bool b)=>some (b==want)
   | .undef=>some false
   | _=>none
def V.isTr:V->Bool
 | .t _=>true
 | _=>false
def zqm (key:Nat) (r:V) (h:Nat->Option O):Option Eff:=
 match r with
 | .t .nils=>some { val:=.t .nils }
 | .t (.sl [])=>some { val:=.t (.sl []) }
 | .ms k i n=>match h k with
   | some (.rows sz rs false)=>if i=0/\n=rs.length/\rs.all (fun row=>row.all V.isTr)=true then some { val:=.ms key 0 n,hp:=[(key,.rows sz rs false)] }else none
   | _=>none
 | .mp k i off=>match h k with
   | some (.rows sz rs false)=>if i=0/\off=0/\rs.all (fun row=>row.all V.isTr)=true then some { val:=.mp key 0 0,hp:=[(key,.rows sz rs false)] }else none
   | _=>none
 | _=>none
def zhB:(Nat->V)->List Nat->List V->Nat->V
 | env,t::ts,v::vs=>zhB (upd env t v) ts vs
 | env,_,_=>env
def zht (h:Nat->Option O) (n:Nat) (k:Nat) (env:Nat->V) (ps:List Nat) (bd:C) (vs:List V):St:=
 { env:=zhB env ps vs,loc:=fun _=>none,adr:=fun _=>none,used:=fun _=>false,heap:=upd h k (some (.loop env ps bd .enter)),nxt:=n,bas:=n }
inductive Task where
 | code (c:C) (s:St)
 | loop (b:C) (s:St)
 | ops (draw:Bool) (p:Nat) (l:List ROp) (s:St)
 | pcall (f:Nat) (args:List V)
 | rcall (f:Nat) (args:List V) (h:Nat->Option O) (n:Nat)
inductive Out where
 | code (e:Ex) (s:St)
 | ops (s:St)
 | val (v:V)
 | vals (v:V) (h:Nat->Option O) (n:Nat)
def St.free (s:St) (dst:Option Nat) (e:Eff):Prop:= ∀d,dst=some d->s.used d=false/\ ∀b o,e.adr=some (b,o)->b≠d
def AOp.opds:AOp->List Opd
 | .mv x | .boxL _ x | .boxH _ x | .loadL _ _ x | .load _ _ x | .nilchk x | .un _ x | .conv _ x | .faddrL _ x | .faddr _ x | .field _ _ _ x | .extr x _ | .len x | .slen x | .capN x | .bstr x | .clear _ _ x | .mkfnT _ x | .boxA _ x | .mkif _ x | .tassert _ _ _ x=>[x]
 | .pick c a b=>[c,a,b]
 | .allocL _ | .allocH _ | .allocA _ | .allocB | .lenA _ | .mkmap | .stop=>[]
 | .build _ ps=>ps.map (·.2.2)
 | .bslice _ _ _ ps=>ps.map (·.2)
 | .lit _ _ _ ps=>ps.map (·.2)
 | .storeL _ a v | .store _ a v | .storeA _ a v | .bin _ a v | .mx _ a v | .eqb _ a v | .eqa _ _ a v | .mkslice _ _ _ a v | .appz _ _ _ a v | .iaddrS _ a v | .iaddrAL _ _ a v | .iaddrA _ _ a v | .idxA _ _ _ a v | .idxS a v | .append _ _ a v | .copy _ a v | .lookup _ _ _ a v=>[a,v]
 | .mkfn _ a b=>a++b
 | .slice _ x l h m=>x::(l.toList++h.toList++m.toList)
 | .slstr x l h=>x::(l.toList++h.toList)
 | .slicA _ x l h=>x::(l.toList++h.toList)
 | .mapupd _ a b v=>[a,b,v]
 | .call _ f as=>f::as
 | .fcall f as=>f::as
def V.top:V->List Nat
 | .ms k _ _=>[k]
 | .mp k _ _=>[k]
 | .mm k=>[k]
 | _=>[]
def AOp.looks:AOp->Bool
 | .load _ _ _ | .nilchk _ | .faddr _ _ | .iaddrS _ _ _ | .slice _ _ _ _ _ | .len _=>true
 | _=>false
def AOp.wopd:AOp->List Opd
 | .store _ a _=>[a]
 | .append _ _ a _=>[a]
 | _=>[]
def zid (G:Nat->List T) (s:St) (l:List Opd):List Nat:=l.flatMap fun x=>match evl G s x with | some v=>v.top | none=>[]
def zHX:Opd->Bool
 | .c (.fn _ _ _)=>true
 | _=>false
def AOp.keeps:AOp->Bool
 | .call true f _=>zHX f
 | _=>false
def AOp.kargs:AOp->List Opd
 | .call _ _ as=>as
 | _=>[]
def AOp.looksL:AOp->Bool
 | .loadL _ _ _ | .faddrL _ _=>true
 | _=>false
def AOp.isStL:AOp->Bool
 | .storeL _ _ _=>true
 | _=>false
def AOp.lwopd:AOp->List Opd
 | .storeL _ a _=>[a]
 | _=>[]
def AOp.isSt:AOp->Bool
 | .store _ _ _=>true
 | _=>false
def zIa (s:St) (l:List Opd):List Nat:=l.filterMap fun x=>(zd8 s x).map (·.1)
def sep (G:Nat->List T) (s:St) (a b:ROp):Bool:=
 if a.op.looksL then(zIa s a.op.opds).all fun k=> !(zIa s b.op.lwopd).contains k
 else if a.op.looks&&b.op.keeps then(zid G s a.op.opds).all fun k=>(zid G s b.op.kargs).contains k
 else if a.op.isSt&&b.op.isSt then(zid G s b.op.wopd).all fun k=> !(zid G s a.op.wopd).contains k
 else if a.op.looks then(zid G s a.op.opds).all fun k=> !(zid G s b.op.wopd).contains k
 else(zid G s b.op.opds).all fun k=> !(zid G s a.op.wopd).contains k
def zgO (G:Nat->List T) (s:St) (l:List ROp) (ck:List (Nat×Nat)):Bool:=
 ck.all fun x=>match l[x.1]?,l[x.2]? with
  | some a,some b=>sep G s a b
  | _,_=>false
inductive Big (Γ:Nat->Option F) (G:Nat->List T):Task->Out->Prop where
 | skip {s:St}:Big Γ G (.code .skip s) (.code .normal s)
 | ret {s:St}:Big Γ G (.code .ret s) (.code .ret s)
 | exit {s:St} {id:Nat}:Big Γ G (.code (.exit id) s) (.code (.exit id) s)
 | region {s s':St} {d:Bool} {l:List ROp} (h:Big Γ G (.ops d 0 l (s.begin l.length)) (.ops s')):Big Γ G (.code (.region d l) s) (.code .normal s')
 | regionD {s s':St} {ck:List (Nat×Nat)} {l:List ROp} (h:Big Γ G (.ops true 0 l (s.begin l.length)) (.ops s')) (hc:zgO G s' l ck=true):
    Big Γ G (.code (.regionD ck l) s) (.code .normal s')
 | seqN {s s1 s2:St} {a b:C} {e:Ex} (h1:Big Γ G (.code a s) (.code .normal s1)) (h2:Big Γ G (.code b s1) (.code e s2)):
    Big Γ G (.code (.seq a b) s) (.code e s2)
 | seqX {s s1:St} {a b:C} {e:Ex} (h1:Big Γ G (.code a s) (.code e s1)) (he:e≠ .normal):Big Γ G (.code (.seq a b) s) (.code e s1)
 | cond {s s1:St} {c:Opd} {a b:C} {e:Ex} {t:Bool} (hc:zd5 G s c=some t) (h:Big Γ G (.code (if t then a else b) s) (.code e s1)):
    Big Γ G (.code (.cond c a b) s) (.code e s1)
 | block {s s1:St} {id:Nat} {b:C} {e:Ex} (h:Big Γ G (.code b s) (.code e s1)):
    Big Γ G (.code (.block id b) s) (.code (if e= .exit id then .normal else e) s1)
 | loop {s s1:St} {b:C} {e:Ex} (h:Big Γ G (.loop b s) (.code e s1)):Big Γ G (.code (.loop b) s) (.code e s1)
 | loopN {s s1 s2:St} {b:C} {e:Ex} (h1:Big Γ G (.code b s) (.code .normal s1)) (h2:Big Γ G (.loop b s1) (.code e s2)):
    Big Γ G (.loop b s) (.code e s2)
 | loopX {s s1:St} {b:C} {e:Ex} (h1:Big Γ G (.code b s) (.code e s1)) (he:e≠ .normal):Big Γ G (.loop b s) (.code e s1)
 | opsNil {d:Bool} {p:Nat} {s:St}:Big Γ G (.ops d p [] s) (.ops s)
 | opsSkip {d:Bool} {p:Nat} {s s':St} {o:ROp} {l:List ROp} (hw:zcs s o.guard=some false) (hf:s.free o.dst {})
    (h:Big Γ G (.ops d (p+1) l (s.apply o.dst {})) (.ops s')):Big Γ G (.ops d p (o::l) s) (.ops s')
 | opsEff {d:Bool} {p:Nat} {s s':St} {o:ROp} {l:List ROp} {e:Eff} (hw:zcs s o.guard=some true) (hf:s.free o.dst e)
    (he:zaj G p s o.op=some e) (h:Big Γ G (.ops d (p+1) l (s.apply o.dst e)) (.ops s')):Big Γ G (.ops d p (o::l) s) (.ops s')
 | opsPure {d:Bool} {p:Nat} {s s':St} {o:ROp} {l:List ROp} {f:Opd} {args:List Opd} {fv:V} {g:Nat} {a b vs rs:List V} {fn:F} {r:V}
    (hw:zcs s o.guard=some true) (hf:s.free o.dst {}) (ho:o.op= .call false f args) (As:evl G s f=some fv) (Ax:zfC fv=some (g,a,b))
    (hg:Γ g=some fn) (hr:fn.raw=false) (Au:zgE G s args=some vs) (AD:(a++vs++b).mapM (toT1 s.heap)=some rs)
    (hc:Big Γ G (.pcall g rs) (.val r)) (hd:d=true->r.scalar=true\/(a++vs++b).flatMap (zba s.heap)=[])
    (h:Big Γ G (.ops d (p+1) l (s.apply o.dst { val:=r,hp:=if r.scalar then []else freezes s.heap ((a++vs++b).flatMap (zba s.heap)) })) (.ops s')):
    Big Γ G (.ops d p (o::l) s) (.ops s')
 | opsRaw {d:Bool} {p:Nat} {s s':St} {o:ROp} {l:List ROp} {f:Opd} {args:List Opd} {fv:V} {g:Nat} {a a0 b vs:List V} {fn:F} {r:V} {h':Nat->Option O} {n':Nat}
    (hw:zcs s o.guard=some true) (hf:s.free o.dst {}) (ho:o.op= .call true f args) (As:evl G s f=some fv) (Ax:zfC fv=some (g,a0,b)) (Bu:zJ3 s.heap a0=some a)
    (hg:Γ g=some fn) (hr:zHX f=true-> ∀k∈zid G s args,h' k=s.heap k) (Au:zgE G s args=some vs)
    (hc:Big Γ G (.rcall g (a++vs++b) s.heap s.nxt) (.vals r h' n'))
    (h:Big Γ G (.ops d (p+1) l ({ s with heap:=h',nxt:=n' }.apply o.dst { val:=r })) (.ops s')):Big Γ G (.ops d p (o::l) s) (.ops s')
 | opsFresh {d:Bool} {p:Nat} {s s':St} {o:ROp} {l:List ROp} {f:Opd} {args:List Opd} {fv:V} {g:Nat} {a b vs rs:List V} {fn:F} {r:V} {h':Nat->Option O} {n':Nat} {e:Eff}
    (hw:zcs s o.guard=some true) (hf:s.free o.dst {}) (ho:o.op= .fcall f args) (As:evl G s f=some fv) (Ax:zfC fv=some (g,a,b))
    (hg:Γ g=some fn) (hr:True) (Au:zgE G s args=some vs) (AD:(a++vs++b).mapM (toT1 s.heap)=some rs) (hd:(a++vs++b).flatMap (zba s.heap)=[])
    (hc:Big Γ G (.rcall g rs (fun _=>none) 0) (.vals r h' n')) (he:zqm (s.bas+p) r h'=some e)
    (h:Big Γ G (.ops d (p+1) l (s.apply o.dst e)) (.ops s')):Big Γ G (.ops d p (o::l) s) (.ops s')
 | rangeF {s:St} {x:Opd} {ps:List Nat} {bd bd':C} {fv:V} {g:Nat} {a b:List V} {fn:F} {r:V} {h':Nat->Option O} {n':Nat} {env':Nat->V} {ps':List Nat} {st:LSt} {e:Ex}
    (As:evl G s x=some fv) (Ax:zfC fv=some (g,a,b)) (hg:Γ g=some fn) (hr:True)
    (hc:Big Γ G (.rcall g (a++[.yl s.nxt]++b) (upd s.heap s.nxt (some (.loop s.env ps bd .ready))) (s.nxt+1)) (.vals r h' n'))
    (hl:h' s.nxt=some (.loop env' ps' bd' st)) (he:st.ends=some e):
    Big Γ G (.code (.rangeF x ps bd) s) (.code e { s with heap:=upd h' s.nxt (some .dead),nxt:=n' })
 | opsYield {d:Bool} {p:Nat} {s s' s1 s2:St} {o:ROp} {l:List ROp} {f:Opd} {args:List Opd} {k:Nat} {vs:List V} {env env1 env':Nat->V} {ps ps1 ps':List Nat} {ca cb bd1 bd':C} {e:Ex}
    (hw:zcs s o.guard=some true) (hf:s.free o.dst {}) (ho:o.op= .call true f args) (As:evl G s f=some (.yl k))
    (hk:s.heap k=some (.loop env ps (.round ca cb) .ready)) (Au:zgE G s args=some vs) (Ac:vs.length=ps.length)
    (Bi:Big Γ G (.code ca (zht s.heap s.nxt k env ps (.round ca cb) vs)) (.code .normal s1)) (AT:s1.heap k=some (.loop env1 ps1 bd1 .enter))
    (CL:Big Γ G (.code cb { s1 with heap:=upd s1.heap k (some (.loop env1 ps1 bd1 .busy)) }) (.code e s2)) (AF:s2.heap k=some (.loop env' ps' bd' .busy))
    (h:Big Γ G (.ops d (p+1) l ({ s with heap:=upd s2.heap k (some (.loop env' ps' bd' e.toL)),nxt:=s2.nxt }.apply o.dst { val:=.t (.bool (decide (e=Ex.normal))) })) (.ops s')):
    Big Γ G (.ops d p (o::l) s) (.ops s')
 | pcall {g:Nat} {args:List V} {fn:F} {s':St} {e:Ex} {v r:V} (hg:Γ g=some fn) (hr:fn.raw=false)
    (h:Big Γ G (.code fn.body (.init args (fun _=>none) 0)) (.code e s')) (he: ∀id,e≠ .exit id)
    (hv:zeM s' fn.results=some v) (Bh:reify s'.heap v=some r):Big Γ G (.pcall g args) (.val r)
 | pext {g:Nat} {args:List V} {fn:F} {e:Ext} {r:V} (hg:Γ g=some fn) (hr:fn.raw=false) (hb:fn.body= .ext e) (h:zev e args=some r):Big Γ G (.pcall g args) (.val r)
 | rcall {g:Nat} {args:List V} {fn:F} {s':St} {e:Ex} {v:V} {hp:Nat->Option O} {n:Nat} (hg:Γ g=some fn) (hr:fn.raw=true)
    (h:Big Γ G (.code fn.body (.init args hp n)) (.code e s')) (he: ∀id,e≠ .exit id)
    (hv:zeM s' fn.results=some v):Big Γ G (.rcall g args hp n) (.vals v s'.heap s'.nxt)
 | rpure {g:Nat} {args rs:List V} {fn:F} {r:V} {hp:Nat->Option O} {n:Nat} (hg:Γ g=some fn) (hr:fn.raw=false) (AD:args.mapM (toT1 hp)=some rs) (hc:Big Γ G (.pcall g rs) (.val r)):
    Big Γ G (.rcall g args hp n) (.vals r (zbf hp (if r.scalar then []else freezes hp (args.flatMap (zba hp)))) n)
 | rext {g:Nat} {args:List V} {fn:F} {e:Ext} {r:V} {hp h':Nat->Option O} {n n':Nat} (hg:Γ g=some fn) (hr:fn.raw=true) (hb:fn.body= .ext e)
    (h:zd3 e args hp n=some (r,h',n')):Big Γ G (.rcall g args hp n) (.vals r h' n')
end Rg
end
section
namespace Rg
open Go
inductive RepT (w:World) (A:Nat->Prop) (nm:Nat->Nat):Value->T->Prop where
 | int (k:IntKind) (n:Int):RepT w A nm (.int k n) (.int k n)
 | bool (b:Bool):RepT w A nm (.bool b) (.bool b)
 | str (s:ByteArray):RepT w A nm (.string s) (.str s)
 | nilp:RepT w A nm (.pointer none) .nilp
 | nils (a:Option Addr):RepT w A nm (.slice a 0 0) .nils
 | nilm:RepT w A nm (.map none) .nilm
 | nilf:RepT w A nm .nilFunc .nilf
 | nili:RepT w A nm .nilIface .nili
 | sl0 (a:Option Addr) (cap:Nat):RepT w A nm (.slice a 0 cap) (.sl [])
 | sl (r off cap sz:Nat) (es:List (List T)) (vf:Nat->Nat->Value) (h0:0<es.length) (hc:es.length<=cap) (hA:A r)
    (hs: ∀(i:Nat) (e:List T),es[i]? =some e->e.length=sz)
    (hv: ∀(i:Nat) (e:List T) (j:Nat) (x:T),es[i]? =some e->e[j]? =some x->w.cell? ⟨r,off+i*sz+j,none⟩=some (vf i j))
    (hr: ∀(i:Nat) (e:List T) (j:Nat) (x:T),es[i]? =some e->e[j]? =some x->RepT w A nm (vf i j) x):
    RepT w A nm (.slice (some ⟨r,off,none⟩) es.length cap) (.sl es)
 | ip (r off:Nat) (cs:List T) (vf:Nat->Value) (hA:A r)
    (hv: ∀(j:Nat) (x:T),cs[j]? =some x->w.cell? ⟨r,off+j,none⟩=some (vf j))
    (hr: ∀(j:Nat) (x:T),cs[j]? =some x->RepT w A nm (vf j) x):
    RepT w A nm (.pointer (some ⟨r,off,none⟩)) (.ip cs)
 | fn (f:Nat) (a b:List T) (va vb:Array Value) (fa fb:Nat->Value) (ha:va.size=a.length) (hb:vb.size=b.length)
    (Bu: ∀(j:Nat) (x:T),a[j]? =some x->va[j]? =some (fa j)) (Cu: ∀(j:Nat) (x:T),a[j]? =some x->RepT w A nm (fa j) x)
    (Di: ∀(j:Nat) (x:T),b[j]? =some x->vb[j]? =some (fb j)) (Eb: ∀(j:Nat) (x:T),b[j]? =some x->RepT w A nm (fb j) x):
    RepT w A nm (.func (.func (nm f)) va vb) (.fn f a b)
 | fa (f:Nat) (c:List T) (vc:Array Value) (fc:Nat->Value) (hc:vc.size=c.length)
    (Fc: ∀(j:Nat) (x:T),c[j]? =some x->vc[j]? =some (fc j)) (Iy: ∀(j:Nat) (x:T),c[j]? =some x->RepT w A nm (fc j) x):
    RepT w A nm (.func (.func (nm f)) #[.agg vc] #[]) (.fa f c)
 | opq (v:Value) (h:v.oneCell'=true):RepT w A nm v .opq
 | slc (a:Option Addr) (es:List (List T)) (h:RepT w A nm (.slice a es.length es.length) (.sl es)):RepT w A nm (.slice a es.length es.length) (.slc es)
theorem cell?_eq {w w':World} {r off:Nat} (h:w'.heap[r]? =w.heap[r]?):w'.cell? ⟨r,off,none⟩=w.cell? ⟨r,off,none⟩:=by
 simp only[World.cell?,h]
theorem RepT.mono {w w':World} {A A':Nat->Prop} {nm:Nat->Nat} {v:Value} {x:T} (h:RepT w A nm v x)
 (hw: ∀r,A r->w'.heap[r]? =w.heap[r]?) (hA: ∀r,A r->A' r):RepT w' A' nm v x:=by
 induction h with
 | int k n=>exact .int k n
 | bool b=>exact .bool b
 | str s=>exact .str s
 | nilp=>exact .nilp
 | nils a=>exact .nils a
 | nilm=>exact .nilm
 | nilf=>exact .nilf
 | nili=>exact .nili
 | sl0 a cap=>exact .sl0 a cap
 | sl r off cap sz es vf h0 hc DK hs hv _ ih=>
   exact .sl r off cap sz es vf h0 hc (hA r DK) hs (fun i e j x h1 h2=>by rw[cell?_eq (hw r DK)];exact hv i e j x h1 h2) ih
 | ip r off cs vf DK hv _ ih=>
   exact .ip r off cs vf (hA r DK) (fun j x h1=>by rw[cell?_eq (hw r DK)];exact hv j x h1) ih
 | fn f a b va vb fa fb ha hb Bu _ Di _ iha ihb=>exact .fn f a b va vb fa fb ha hb Bu iha Di ihb
 | fa f c vc fc hc Fc _ ih=>exact .fa f c vc fc hc Fc ih
 | opq v h=>exact .opq v h
 | slc a es _ ih=>exact .slc a es ih
theorem RepT.one {w:World} {A:Nat->Prop} {nm:Nat->Nat} {v:Value} {x:T} (h:RepT w A nm v x):v.oneCell'=true:=by
 cases h<;>first | rfl | assumption
theorem RepT.scalar {w w':World} {A A':Nat->Prop} {nm:Nat->Nat} {v:Value} {x:T} (h:RepT w A nm v x) (hx:x.scalar=true):RepT w' A' nm v x:=by
 cases h with
 | sl r off cap sz es vf h0 hc hA hs hv hr=>
   cases es with
   | nil=>simp at h0
   | cons e es=>simp[T.scalar]at hx
 | opq _ h=>exact .opq _ h
 | _=>first | (simp[T.scalar]at hx;done) | constructor
theorem RepT.norm {w:World} {A:Nat->Prop} {nm:Nat->Nat} {v:Value} {x:T} (h:RepT w A nm v x):RepT w A nm v x.norm:=by
 cases h with
 | nils a=>exact .sl0 a 0
 | sl0 a cap=>exact .sl0 a cap
 | sl r off cap sz es vf h0 hc hA hs hv hr=>exact .sl r off cap sz es vf h0 hc hA hs hv hr
 | ip r off cs vf hA hv hr=>exact .ip r off cs vf hA hv hr
 | fn f a b va vb fa fb ha hb Bu Cu Di Eb=>exact .fn f a b va vb fa fb ha hb Bu Cu Di Eb
 | fa f c vc fc hc Fc Iy=>exact .fa f c vc fc hc Fc Iy
 | opq _ h=>exact .opq _ h
 | slc a es h=>exact .slc a es h
 | _=>constructor
theorem RepT.slc_inv {w:World} {A:Nat->Prop} {nm:Nat->Nat} {a:Option Addr} {n c:Nat} {es:List (List T)} (h:RepT w A nm (.slice a n c) (.slc es)):n=es.length/\c=es.length:=by
 cases h;exact⟨rfl,rfl⟩
def O.live:O->Bool
 | .dead=>false
 | _=>true
inductive RepC (w:World) (A:Nat->Prop) (nm:Nat->Nat) (μ:Nat->Nat) (H:Nat->Option O):Value->V->Prop where
 | t {v:Value} {x:T} (h:RepT w A nm v x):RepC w A nm μ H v (.t x)
 | ms (k i len cap sz:Nat) (rs:List (List V)) (frz:Bool) (a:Option Addr) (hk:H k=some (.rows sz rs frz)) (hi:i+len<=rs.length) (hc:rs.length<=i+cap)
    (ha:cap=0\/(a=some ⟨μ k,i*sz,none⟩/\ ∃e n,w.shape? (μ k)=some (e,n)/\(i+cap)*sz<=n)):
    RepC w A nm μ H (.slice a len cap) (.ms k i len)
 | mp (k i off sz:Nat) (rs:List (List V)) (frz:Bool) (hk:H k=some (.rows sz rs frz)) (hi:i<rs.length):
    RepC w A nm μ H (.pointer (some ⟨μ k,i*sz+off,none⟩)) (.mp k i off)
 | mb (k:Nat) (x:Bx) (hk:H k=some (.raw x)):RepC w A nm μ H (.pointer (some ⟨μ k,0,none⟩)) (.mp k 0 0)
 | mm (k:Nat) (es:List (T×V)) (hk:H k=some (.map es)):RepC w A nm μ H (.map (some (μ k))) (.mm k)
 | yl (k:Nat) (env:Nat->V) (ps:List Nat) (b:C) (st:LSt) (hk:H k=some (.loop env ps b st)):RepC w A nm μ H (.func (.yield (μ k)) #[] #[]) (.yl k)
 | dyl {v:Value} (k:Nat) (hk:H k=some .dead) (hv:v.oneCell'=true):RepC w A nm μ H v (.yl k)
 | dms {v:Value} (k i len:Nat) (hk:H k=some .dead) (hv:v.oneCell'=true):RepC w A nm μ H v (.ms k i len)
 | dmp {v:Value} (k i off:Nat) (hk:H k=some .dead) (hv:v.oneCell'=true):RepC w A nm μ H v (.mp k i off)
 | dmm {v:Value} (k:Nat) (hk:H k=some .dead) (hv:v.oneCell'=true):RepC w A nm μ H v (.mm k)
 | ifc (k t:Nat) (x:V) (v:Value) (hk:nm k=10000000+t) (hx:RepC w A nm μ H v x):RepC w A nm μ H (.iface t v) (.ifc k x)
 | fn (f:Nat) (a b:List V) (va vb:Array Value) (fa fb:Nat->Value) (ha:va.size=a.length) (hb:vb.size=b.length)
    (Bu: ∀(j:Nat) (x:V),a[j]? =some x->va[j]? =some (fa j)) (Cu: ∀(j:Nat) (x:V),a[j]? =some x->RepC w A nm μ H (fa j) x)
    (Di: ∀(j:Nat) (x:V),b[j]? =some x->vb[j]? =some (fb j)) (Eb: ∀(j:Nat) (x:V),b[j]? =some x->RepC w A nm μ H (fb j) x):
    RepC w A nm μ H (.func (.func (nm f)) va vb) (.fn f a b)
def Bx.le:Bx->Bx->Prop
 | .buf l,.buf l'=>l'=l
 | .buf _,_=>False
 | _,.buf _=>False
 | _,_=>True
theorem Bx.le_refl (x:Bx):Bx.le x x:=by cases x<;>simp[Bx.le]
theorem Bx.le_trans {a b c:Bx} (h1:Bx.le a b) (h2:Bx.le b c):Bx.le a c:=by cases a<;>cases b<;>cases c<;>simp_all [Bx.le]
def O.le:O->O->Prop
 | _,.dead=>True
 | .rows sz rs _,.rows sz' rs' _=>sz'=sz/\rs'.length=rs.length
 | .map _,.map _=>True
 | .loop _ _ _ _,.loop _ _ _ _=>True
 | .raw x,.raw y=>Bx.le x y
 | _,_=>False
theorem O.le_refl (o:O):O.le o o:=by cases o<;>simp[O.le,Bx.le_refl]
theorem O.le_trans {a b c:O} (h1:O.le a b) (h2:O.le b c):O.le a c:=by
 cases a<;>cases b<;>cases c<;>first | exact Bx.le_trans h1 h2 | simp_all [O.le]
structure Evo (w:World) (A:Nat->Prop) (μ:Nat->Nat) (H:Nat->Option O) (w':World) (A':Nat->Prop) (μ':Nat->Nat) (H':Nat->Option O):Prop where
 blk: ∀r,A r->w'.heap[r]? =w.heap[r]?
 sub: ∀r,A r->A' r
 hp: ∀k o,H k=some o-> ∃o',H' k=some o'/\O.le o o'/\(o'.live=true->μ' k=μ k)
 shp: ∀r s,w.shape? r=some s->w'.shape? r=some s
theorem Evo.refl (w:World) (A:Nat->Prop) (μ:Nat->Nat) (H:Nat->Option O):Evo w A μ H w A μ H:=
 ⟨fun _ _=>rfl,fun _ h=>h,fun _ o h=>⟨o,h,O.le_refl o,fun _=>rfl⟩,fun _ _ h=>h⟩
theorem RepC.one {w:World} {A:Nat->Prop} {nm μ:Nat->Nat} {H:Nat->Option O} {v:Value} {x:V} (h:RepC w A nm μ H v x):v.oneCell'=true:=by
 cases h<;>first | rfl | assumption | (rename_i h;exact h.one)
theorem RepC.evo {w w':World} {A A':Nat->Prop} {nm μ μ':Nat->Nat} {H H':Nat->Option O} {v:Value} {x:V} (h:RepC w A nm μ H v x)
 (e:Evo w A μ H w' A' μ' H'):RepC w' A' nm μ' H' v x:=by
 induction h with
 | t h=>exact .t (h.mono e.blk e.sub)
 | ms k i len cap sz rs frz a hk hi hc ha=>
   obtain⟨o',Ah,A5,FV⟩:=e.hp k _ hk
   cases o' with
   | rows sz' rs' frz'=>
     obtain⟨rfl,hl⟩:=A5;refine .ms k i len cap sz' rs' frz' a Ah (by omega) (by omega) ?_;rcases ha with ha | ⟨rfl,e1,n,hs,hn⟩
     ·exact .inl ha
     ·exact .inr ⟨by rw[FV rfl],e1,n,by rw[FV rfl];exact e.shp _ _ hs,hn⟩
   | map es=>simp[O.le]at A5
   | loop _ _ _ _=>simp[O.le]at A5
   | raw _=>simp[O.le]at A5
   | dead=>exact .dms k i len Ah rfl
 | mp k i off sz rs frz hk hi=>
   obtain⟨o',Ah,A5,FV⟩:=e.hp k _ hk
   cases o' with
   | rows sz' rs' frz'=>
     obtain⟨rfl,hl⟩:=A5;rw[<- FV rfl]
     exact .mp k i off sz' rs' frz' Ah (by omega)
   | map es=>simp[O.le]at A5
   | loop _ _ _ _=>simp[O.le]at A5
   | raw _=>simp[O.le]at A5
   | dead=>exact .dmp k i off Ah rfl
 | mb k x hk=>
   obtain⟨o',Ah,A5,FV⟩:=e.hp k _ hk
   cases o' with
   | raw x'=>rw[<- FV rfl];exact .mb k x' Ah
   | dead=>exact .dmp k 0 0 Ah rfl
   | _=>simp[O.le]at A5
 | mm k es hk=>
   obtain⟨o',Ah,A5,FV⟩:=e.hp k _ hk
   cases o' with
   | rows sz' rs' frz'=>simp[O.le]at A5
   | map es'=>rw[<- FV rfl];exact .mm k es' Ah
   | loop _ _ _ _=>simp[O.le]at A5
   | raw _=>simp[O.le]at A5
   | dead=>exact .dmm k Ah rfl
 | yl k env ps b st hk=>
   obtain⟨o',Ah,A5,FV⟩:=e.hp k _ hk
   cases o' with
   | rows sz' rs' frz'=>simp[O.le]at A5
   | map es'=>simp[O.le]at A5
   | loop env' ps' b' st'=>rw[<- FV rfl];exact .yl k env' ps' b' st' Ah
   | raw _=>simp[O.le]at A5
   | dead=>exact .dyl k Ah rfl
 | dyl k hk hv=>
   obtain⟨o',Ah,A5,_⟩:=e.hp k _ hk;cases o'<;>simp[O.le]at A5
   exact .dyl k Ah hv
 | dms k i len hk hv=>
   obtain⟨o',Ah,A5,_⟩:=e.hp k _ hk;cases o'<;>simp[O.le]at A5
   exact .dms k i len Ah hv
 | dmp k i off hk hv=>
   obtain⟨o',Ah,A5,_⟩:=e.hp k _ hk;cases o'<;>simp[O.le]at A5
   exact .dmp k i off Ah hv
 | dmm k hk hv=>
   obtain⟨o',Ah,A5,_⟩:=e.hp k _ hk;cases o'<;>simp[O.le]at A5
   exact .dmm k Ah hv
 | ifc k t x v hk _ ih=>exact .ifc k t x v hk ih
 | fn f a b va vb fa fb ha hb Bu _ Di _ iha ihb=>exact .fn f a b va vb fa fb ha hb Bu iha Di ihb
def zfk (w:World) (A:Nat->Prop) (nm μ:Nat->Nat) (H:Nat->Option O) (vs:List Value) (cs:List V):Prop:=
 vs.length=cs.length/\ ∀(i:Nat) (c:V),cs[i]? =some c-> ∃v,vs[i]? =some v/\RepC w A nm μ H v c
def zcl (w:World) (A:Nat->Prop) (nm μ:Nat->Nat) (H:Nat->Option O) (v:Value):V->Prop
 | .agg cs=> ∃vs,v= .agg vs/\zfk w A nm μ H vs.toList cs
 | .tup _=>False
 | .undef=>False
 | .lb=>False
 | c=>RepC w A nm μ H v c
def zbl (w:World) (A:Nat->Prop) (nm μ:Nat->Nat) (H:Nat->Option O) (v:Value):V->Prop
 | .tup cs=> ∃vs,v= .tuple vs/\vs.size=cs.length/\ ∀(i:Nat) (c:V),cs[i]? =some c-> ∃u,vs[i]? =some u/\zcl w A nm μ H u c
 | .undef=>v=undef
 | .lb=>True
 | c=>zcl w A nm μ H v c
section
variable {w w' : World} {A A' : Nat->Prop} {nm μ μ' : Nat->Nat} {H H' : Nat->Option O}
theorem zfk.evo {vs:List Value} {cs:List V} (h:zfk w A nm μ H vs cs) (e:Evo w A μ H w' A' μ' H'):zfk w' A' nm μ' H' vs cs:=
 ⟨h.1,fun i c hi=>let⟨v,hv,hr⟩:=h.2 i c hi;⟨v,hv,hr.evo e⟩⟩
theorem zcl.evo {v:Value} {x:V} (h:zcl w A nm μ H v x) (e:Evo w A μ H w' A' μ' H'):zcl w' A' nm μ' H' v x:=by
 cases x with
 | agg cs=>obtain⟨vs,rfl,h⟩:=h;exact⟨vs,rfl,h.evo e⟩
 | tup cs=>exact h.elim
 | undef=>exact h.elim
 | lb=>exact h.elim
 | _=>exact RepC.evo h e
theorem zbl.evo {v:Value} {x:V} (h:zbl w A nm μ H v x) (e:Evo w A μ H w' A' μ' H'):zbl w' A' nm μ' H' v x:=by
 cases x with
 | tup cs=>obtain⟨vs,rfl,hl,h⟩:=h;exact⟨vs,rfl,hl,fun i c hi=>let⟨u,hu,hr⟩:=h i c hi;⟨u,hu,hr.evo e⟩⟩
 | undef=>exact h
 | lb=>exact h
 | agg cs=>exact zcl.evo (x:=.agg cs) h e
 | t x=>exact zcl.evo (x:=.t x) h e
 | ms k i l=>exact zcl.evo (x:=.ms k i l) h e
 | mp k i o=>exact zcl.evo (x:=.mp k i o) h e
 | mm k=>exact zcl.evo (x:=.mm k) h e
 | yl k=>exact zcl.evo (x:=.yl k) h e
 | ifc k x=>exact zcl.evo (x:=.ifc k x) h e
 | fn f a b=>exact zcl.evo (x:=.fn f a b) h e
theorem zcl.toV {v:Value} {x:V} (h:zcl w A nm μ H v x):zbl w A nm μ H v x:=by
 cases x<;>first | exact h | exact h.elim
theorem RepC.toV1 {v:Value} {x:V} (h:RepC w A nm μ H v x):zcl w A nm μ H v x:=by
 cases h<;>first | exact RepC.t ‹_› | (constructor<;>assumption)
theorem RepC.toV {v:Value} {x:V} (h:RepC w A nm μ H v x):zbl w A nm μ H v x:=h.toV1.toV
theorem zbl.cells {v:Value} {x:V} {cs:List V} (h:zbl w A nm μ H v x) (hc:x.cells=some cs):zfk w A nm μ H v.cells.toList cs:=by
 cases x with
 | agg ds=>
   simp only[V.cells,Option.some.injEq]at hc;subst hc;obtain⟨vs,rfl,h⟩:=h
   exact h
 | tup _=>simp[V.cells]at hc
 | undef=>simp[V.cells]at hc
 | lb=>simp[V.cells]at hc
 | t _ | ms _ _ _ | mp _ _ _ | mm _ | yl _ | ifc _ _ | fn _ _ _=>
   simp only[V.cells,Option.some.injEq]at hc;subst hc;have h':RepC w A nm μ H v _:=h;have h1:=h'.one;have AL:v.cells.toList=[v]:=by cases v<;>simp_all [Value.cells,Value.oneCell']
   rw[AL];refine⟨rfl,fun i c hi=> ?_⟩
   cases i with
   | zero=>simp at hi;subst hi;exact⟨v,rfl,h'⟩
   | succ i=>simp at hi
end
structure Nam where
 nm:Nat->Nat
 gm:Nat->Nat
 G:Nat->List T
 GL:Nat->List T
 cr:Code->Nat->C->Prop
 tB:Nat
 tU:Nat
def LSt.rel:LSt->LoopState->Option Code->Prop
 | .ready,st,p=>st= .ready/\p=none
 | .enter,st,_=>st= .ready
 | .busy,st,_=>st= .busy
 | .done .normal,_,_=>False
 | .done (.exit id),st,p=>st= .done/\p=some (.exit id)
 | .done .ret,st,p=>st= .done/\p=some .ret
def ztJ (w:World) (tB tU:Nat) (μ:Nat->Nat) (H:Nat->Option O) (r:Nat):Bx->Prop
 | .bld none=> ∃p,w.heap[r]? =some (.cells #[p,.slice none 0 0] tB (0,0))/\(p= .pointer none\/p= .pointer (some ⟨r,0,none⟩))
 | .bld (some g)=> ∃a len cap,w.heap[r]? =some (.cells #[.pointer (some ⟨r,0,none⟩),.slice a len cap] tB (0,0))/\
    (H g=some .dead\/ ∃l,H g=some (.raw (.buf l))/\a=some ⟨μ g,0,none⟩/\len=l.length/\w.shape? (μ g)=some (tU,cap))
 | .mid=> ∃p v,w.heap[r]? =some (.cells #[p,v] tB (0,0))
 | .buf l=> ∃cur,w.heap[r]? =some (.cells cur tU (0,0))/\l≠[]/\l.length<=cur.size/\cur.size<=maxLen/\cur.toList.take l.length=l.map fun b=>Value.int .u8 b.toNat
theorem ztJ.evo {w w':World} {A A':Nat->Prop} {tB tU:Nat} {μ μ':Nat->Nat} {H H':Nat->Option O} {r:Nat} {x:Bx} (h:ztJ w tB tU μ H r x)
 (e:Evo w A μ H w' A' μ' H') (hr:w'.heap[r]? =w.heap[r]?):ztJ w' tB tU μ' H' r x:=by
 match x,h with
 | .bld none,⟨p,h1,h2⟩=>exact⟨p,by rw[hr];exact h1,h2⟩
 | .bld (some g),⟨a,len,cap,h1,h2⟩=>
   refine⟨a,len,cap,by rw[hr];exact h1,?_⟩;rcases h2 with h2 | ⟨l,h2,h3,h4,h5⟩
   ·obtain⟨o',g1,g2,_⟩:=e.hp g _ h2;cases o'<;>simp[O.le]at g2
    exact .inl g1
   ·obtain⟨o',g1,g2,g3⟩:=e.hp g _ h2
    cases o' with
    | dead=>exact .inl g1
    | raw y=>
      cases y with
      | bld _=>simp[O.le,Bx.le]at g2
      | mid=>simp[O.le,Bx.le]at g2
      | buf l'=>
        simp only[O.le,Bx.le]at g2;subst g2
        exact .inr ⟨l',g1,by rw[g3 rfl];exact h3,h4,by rw[g3 rfl];exact e.shp _ _ h5⟩
    | _=>simp[O.le]at g2
 | .mid,⟨p,v,h1⟩=>exact⟨p,v,by rw[hr];exact h1⟩
 | .buf l,⟨cur,h1,h2⟩=>exact⟨cur,by rw[hr];exact h1,h2⟩
def zgA:T->Option Value
 | .int k n=>some (.int k n)
 | .bool b=>some (.bool b)
 | .str s=>some (.string s)
 | _=>none
def zcB:List T->Option (List Value)
 | []=>some []
 | t::r=>(zgA t).bind fun v=>(zcB r).map (v:: ·)
def zcA:T->Option Value
 | .int k n=>some (.int k n)
 | .bool b=>some (.bool b)
 | .str s=>some (.string s)
 | .sl [ts]=>(zcB ts).map fun l=> .agg l.toArray
 | _=>none
def zq3 (w:World) (A:Nat->Prop) (N:Nam) (μ:Nat->Nat) (H:Nat->Option O) (r:Nat):O->Prop
 | .rows sz rs frz=> ∃c e z,w.heap[r]? =some (.cells c e z)/\(frz=false->z=(0,0))/\rs.length*sz<=c.size/\
    (∀(i:Nat) (row:List V),rs[i]? =some row->row.length=sz)/\
    ∀(i:Nat) (row:List V) (j:Nat) (x:V),rs[i]? =some row->row[j]? =some x-> ∃v,c[i*sz+j]? =some v/\RepC w A N.nm μ H v x
 | .map es=> ∃(ms:Array MapEntry) (n:Nat),w.heap[r]? =some (.map ms n)/\ms.size=es.length/\
    ∀(i:Nat) (k:T) (x:V),es[i]? =some (k,x)-> ∃m,ms[i]? =some m/\zcA k=some m.key/\zcl w A N.nm μ H m.val x
 | .loop env ps b st=> ∃L:Go.Loop,w.heap[r]? =some (.loop L)/\L.params=ps.toArray/\(∃ca cb,b= .round ca cb/\N.cr L.assign L.tmps.size ca)/\(∃ca cb,b= .round ca cb/\N.cr L.body L.tmps.size cb)/\st.rel L.state L.pending/\
    (∀t∈ps,t<L.tmps.size)/\ ∀t,zbl w A N.nm μ H (L.tmps.getD t undef) (env t)
 | .raw x=>ztJ w N.tB N.tU μ H r x
 | .dead=>True
def zxz (w:World) (A:Nat->Prop) (nm μ:Nat->Nat) (H:Nat->Option O) (r:Nat) (cs:List V):Prop:=
 ∃c e,w.heap[r]? =some (.cells c e (0,0))/\zfk w A nm μ H c.toList cs
def MBH (H:Nat->Option O) (μ:Nat->Nat) (r:Nat):Prop:=
 ∃k o,H k=some o/\(∀sz rs,o≠ .rows sz rs true)/\o.live=true/\μ k=r
def MBL (L:Nat->Option (List V)) (lam:Nat->Nat) (r:Nat):Prop:= ∃t,(L t).isSome=true/\lam t=r
structure Ctx where
 w0:World
 X:Nat->Prop
 A0:Nat->Prop
 H0:Nat->Option O
 μ0:Nat->Nat
def zdG (c:Ctx) (A:Nat->Prop) (w:World) (ds:List Deferred):Prop:=
 ∃rs:List Nat,rs.Nodup/\ds=rs.map (fun r=>{ target:=.collected r,args:= #[] })/\ ∀r∈rs,w.heap[r]? =some (Obj.deferred (some []))/\ ¬A r/\c.w0.heap.size<=r
theorem zdG.nil (c:Ctx) (A:Nat->Prop) (w:World):zdG c A w []:=⟨[],by simp,rfl,by simp⟩
theorem zdG.evo {c:Ctx} {A A':Nat->Prop} {w w':World} {ds:List Deferred} (h:zdG c A w ds) (h1: ∀r:Nat,w.heap[r]? =some (Obj.deferred (some []))->w'.heap[r]? =w.heap[r]?)
 (h2: ∀r:Nat,w.heap[r]? =some (Obj.deferred (some []))->A' r->A r):zdG c A' w' ds:=by
 obtain⟨rs,h3,h4,h5⟩:=h;exact⟨rs,h3,h4,fun r hr=>let⟨a,b,d⟩:=h5 r hr;⟨by rw[h1 r a];exact a,fun h=>b (h2 r a h),d⟩⟩
theorem zdG.join {c:Ctx} {A A' B:Nat->Prop} {w w':World} {ds:List Deferred} (h:zdG c A w ds) (h':zdG c A' w' ds) (hB: ∀r,B r->w.heap.size<=r):zdG c (fun r=>A' r\/B r) w' ds:=by
 obtain⟨rs,h1,h2,h3⟩:=h;obtain⟨rs',g1,g2,g3⟩:=h'
 have e:rs'=rs:=by
  rw[h2]at g2
  have hinj: ∀(l l':List Nat),l.map (fun r=>({ target:=.collected r,args:= #[] }:Deferred))=l'.map (fun r=>({ target:=.collected r,args:= #[] }:Deferred))->l'=l:=by
   intro l
   induction l with
   | nil=>intro l' h;cases l' with
     | nil=>rfl
     | cons _ _=>simp at h
   | cons x l ih=>intro l' h;cases l' with
     | nil=>simp at h
     | cons y l'=>
       simp only[List.map_cons,List.cons.injEq,Deferred.mk.injEq,Target.collected.injEq,and_true]at h;rw[h.1,ih l' h.2]
  exact hinj rs rs' g2
 subst e;refine⟨rs',g1,g2,fun r hr=> ?_⟩;obtain⟨a1,a2,a3⟩:=g3 r hr;refine⟨a1,fun h=> ?_,a3⟩;rcases h with h | h
 ·exact a2 h
 ·have:=hB r h;have:=(Array.getElem?_eq_some_iff.1 (h3 r hr).1).1;omega
structure Rel (N:Nam) (c:Ctx) (ns:Nat) (A:Nat->Prop) (μ lam:Nat->Nat) (s:St) (a:Act) (w:World):Prop where
 size:a.tmps.size=ns
 defers:zdG c A w a.defers
 env: ∀t,zbl w A N.nm μ s.heap (a.tmps.getD t undef) (s.env t)
 loc: ∀t cs,s.loc t=some cs->a.tmps.getD t undef= .pointer (some ⟨lam t,0,none⟩)/\zxz w A N.nm μ s.heap (lam t) cs
 adr: ∀t b o,s.adr t=some (b,o)->s.used b=true/\(s.loc b).isSome=true/\a.tmps.getD t undef= .pointer (some ⟨lam b,o,none⟩)
 heap: ∀k o,s.heap k=some o->zq3 w A N μ s.heap (μ k) o
 hinj: ∀k k' o o',s.heap k=some o->s.heap k'=some o'->o.live=true->o'.live=true->μ k=μ k'->k=k'
 linj: ∀t t',(s.loc t).isSome=true->(s.loc t').isSome=true->lam t=lam t'->t=t'
 lh: ∀t k o,(s.loc t).isSome=true->s.heap k=some o->o.live=true->lam t≠μ k
 aH: ∀r,A r-> ¬MBH s.heap μ r
 aL: ∀r,A r-> ¬MBL s.loc lam r
 alt: ∀r,A r->r<w.heap.size
 afz: ∀k sz rs,s.heap k=some (.rows sz rs true)->A (μ k)
 fresh: ∀k,s.nxt<=k->s.heap k=none
 glob: ∀(g j:Nat) (x:T),(N.GL g)[j]? =some x->A (N.gm g)/\(∃e,w.shape? (N.gm g)=some (e,(N.GL g).length))/\ ∃v,w.cell? ⟨N.gm g,j,none⟩=some v/\RepT w A N.nm v x
 cout:w.os=c.w0.os/\w.output=c.w0.output
 csize:c.w0.heap.size<=w.heap.size
 ckeep: ∀r,r<c.w0.heap.size-> ¬c.X r->w.heap[r]? =c.w0.heap[r]?
 cshp: ∀r x,c.w0.shape? r=some x->w.shape? r=some x
 csub: ∀r,c.A0 r->A r
 canew: ∀r,A r->c.A0 r\/c.X r\/c.w0.heap.size<=r
 clive: ∀r,MBH s.heap μ r->c.X r\/c.w0.heap.size<=r
 cloc: ∀t,(s.loc t).isSome=true->c.X (lam t)\/c.w0.heap.size<=lam t
 chp: ∀k o,c.H0 k=some o-> ∃o',s.heap k=some o'/\O.le o o'/\(o'.live=true->μ k=c.μ0 k)
end Rg
end
section
namespace Rg
theorem zA.{u} {α:Type u} (a b:α):(some a=some b)=(a=b):=Option.some.injEq a b
theorem zB.{u,v} {α:Type u} {b:α} {β:Type v} {x:Option β} {f:β->Option α}:x.bind f=some b<->∃ a,x=some a/\f a=some b:=Option.bind_eq_some_iff
theorem zC.{u} {α β:Type u}:(bind:Option α->(α->Option β)->Option β)=Option.bind:=rfl
theorem zH.{u} {α:Type u} {i:Nat} {a:α} {l:List α}:l[i]? = some a<->∃ h:i<l.length,l[i]=a:=List.getElem?_eq_some_iff
theorem zD.{u,v} {α:Type u} {β:Type v} (a:α) (f:α->Option β):(some a).bind f=f a:=rfl
theorem zI.{u} {α:Type u} {l:List α} {i:Nat} (h:i<l.length):l[i]? = some l[i]:=List.getElem?_eq_getElem h
theorem zF (a b:Bool):((a&&b)=true)=(a=true/\b=true):=Bool.and_eq_true a b
theorem zE.{u,v} {α:Type u} {b:α} {β:Type v} {x:Option β} {f:β->α}:x.map f=some b<->∃ a,x=some a/\f a=b:=Option.map_eq_some_iff
theorem zG:(false=true)=False:=Bool.false_eq_true
theorem zJ.{u,v} {α:Type u} {β:Type v} {f:α->β} {l:List α} {i:Nat}:(l.map f)[i]? = l[i]?.map f:=List.getElem?_map
theorem zK.{u} {α:Type u} {l:List α} {i:Nat} {a:α}:l.getD i a=l[i]?.getD a:=List.getD_eq_getElem?_getD
theorem zL.{u} {α:Type u} {l:List α} {i:Nat} {a:α} (h:l[i]? = some a):a∈l:=List.mem_of_getElem? h
theorem zM.{u} {α:Type u} {as bs:List α}:(as++bs).length=as.length+bs.length:=List.length_append
theorem zO.{u} {α:Type u} {l:List α} {i j:Nat}:(l.take i)[j]? = if j<i then l[j]? else none:=List.getElem?_take
theorem zQ.{u} {α:Type u} (as bs cs:List α):as++bs++cs=as++(bs++cs):=List.append_assoc as bs cs
abbrev zU:V:=.t (.int .u64 0)
end Rg
end
