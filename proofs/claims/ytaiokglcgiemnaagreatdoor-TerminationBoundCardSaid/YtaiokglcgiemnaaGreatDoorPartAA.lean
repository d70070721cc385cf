/- Part of the proof of the laws of the package relyguardlaw36: an abstract machine for the program's functions, what they compute, and that the machine is the program's. No condition. (RgA) -/
import Derived.Calls
import Derived.Laws.Sem
import Derived.Laws.World
import Derived.Lib.SlicesCompact
import Derived.Lib.ItoaNum
import Derived.Lib.Join
section
namespace Rg
open Go
inductive T where
 | int (k:IntKind) (n:Int)
 | bool (b:Bool)
 | str (s:ByteArray)
 | nilp | nils | nilm | nilf | nili
 | sl (es:List (List T))
 | ip (cs:List T)
 | fn (f:Nat) (first cap:List T)
 | fa (f:Nat) (cs:List T)
 | opq
 | slc (es:List (List T))
 deriving Inhabited
inductive V where
 | t (x:T)
 | ms (k i len:Nat)
 | mp (k i off:Nat)
 | mm (k:Nat)
 | yl (k:Nat)
 | fn (f:Nat) (first cap:List V)
 | agg (cs:List V)
 | tup (cs:List V)
 | undef
 | lb
 deriving Inhabited
inductive Opd where
 | s (t:Nat)
 | c (v:V)
 | g (k:Nat)
 deriving Inhabited
inductive AOp where
 | mv (x:Opd)
 | pick (c a b:Opd)
 | allocL (cells:List V)
 | allocH (cells:List V)
 | allocB
 | boxL (n:Nat) (x:Opd)
 | boxH (n:Nat) (x:Opd)
 | build (zero:List V) (parts:List (Nat×Nat×Opd))
 | bslice (sz len:Nat) (zero:List V) (parts:List (Nat×Opd))
 | loadL (ag:Bool) (n:Nat) (a:Opd)
 | load (ag:Bool) (n:Nat) (a:Opd)
 | storeL (n:Nat) (a v:Opd)
 | store (n:Nat) (a v:Opd)
 | nilchk (x:Opd)
 | bin (op:BinOp) (x y:Opd)
 | eqb (neg:Bool) (x y:Opd)
 | eqa (neg:Bool) (ks:List Nat) (x y:Opd)
 | mx (mn:Bool) (x y:Opd)
 | un (op:UnOp) (x:Opd)
 | conv (k:IntKind) (x:Opd)
 | mkfn (f:Nat) (first cap:List Opd)
 | mkfnT (f:Nat) (x:Opd)
 | mkslice (sz bytes:Nat) (zero:List V) (l c:Opd)
 | slice (sz:Nat) (x:Opd) (lo hi mx:Option Opd)
 | slstr (x:Opd) (lo hi:Option Opd)
 | faddrL (off:Nat) (x:Opd)
 | faddr (off:Nat) (x:Opd)
 | field (ag:Bool) (off n:Nat) (x:Opd)
 | iaddrS (sz:Nat) (x i:Opd)
 | iaddrAL (len sz:Nat) (x i:Opd)
 | iaddrA (len sz:Nat) (x i:Opd)
 | idxA (ag:Bool) (len sz:Nat) (x i:Opd)
 | idxS (x i:Opd)
 | bstr (x:Opd)
 | extr (x:Opd) (i:Nat)
 | len (x:Opd)
 | slen (x:Opd)
 | lenA (n:Nat)
 | capN (x:Opd)
 | appz (sz bytes:Nat) (zero:List V) (x l:Opd)
 | stop
 | append (sz bytes:Nat) (x y:Opd)
 | copy (sz:Nat) (x y:Opd)
 | clear(sz:Nat) (zero:List V) (x:Opd)
 | mkmap
 | lookup (kd:Nat) (zero:V) (ok:Bool) (m k:Opd)
 | mapupd (kd:Nat) (m k v:Opd)
 | call (raw:Bool) (f:Opd) (args:List Opd)
 | fcall (f:Opd) (args:List Opd)
 deriving Inhabited
structure ROp where
 guard:Option (Nat×Bool)
 dst:Option Nat
 op:AOp
 deriving Inhabited
inductive Ext where
 | sortI
 | compactI
 | cloneI
 | cloneT (sz:Nat)
 | itoa
 | joinS
 | bldS
 | bldB
 | bldG
 deriving Inhabited
inductive C where
 | skip
 | region (draw:Bool) (ops:List ROp)
 | regionD (ck:List (Nat×Nat)) (ops:List ROp)
 | seq (a b:C)
 | cond (c:Opd) (a b:C)
 | block (id:Nat) (b:C)
 | loop (b:C)
 | exit (id:Nat)
 | ret
 | ext (e:Ext)
 | rangeF (g:Opd) (ps:List Nat) (b:C)
 | round (a b:C)
 deriving Inhabited
inductive Ex where
 | normal
 | exit (id:Nat)
 | ret
 deriving DecidableEq
inductive LSt where
 | ready
 | enter
 | busy
 | done (e:Ex)
def LSt.ends:LSt->Option Ex
 | .ready=>some .normal
 | .enter=>none
 | .busy=>none
 | .done e=>some e
def Ex.toL:Ex->LSt
 | .normal=> .ready
 | e=> .done e
inductive Bx where
 | bld (g:Option Nat)
 | mid
 | buf (l:List UInt8)
inductive O where
 | rows (sz:Nat) (rs:List (List V)) (frz:Bool)
 | map (es:List (T×V))
 | loop (env:Nat->V) (ps:List Nat) (b:C) (st:LSt)
 | raw (b:Bx)
 | dead
 deriving Inhabited
structure St where
 env:Nat->V
 loc:Nat->Option (List V)
 adr:Nat->Option (Nat×Nat)
 used:Nat->Bool
 heap:Nat->Option O
 nxt:Nat
 bas:Nat
inductive Res where
 | s (t:Nat)
 | l (t:Nat) (ag:Bool) (n:Nat)
 | h (t:Nat) (ag:Bool) (n:Nat)
 deriving Inhabited
structure F where
 nslots:Nat
 raw:Bool
 results:List Res
 body:C
 deriving Inhabited
def upd {α:Type} (f:Nat->α) (i:Nat) (v:α):Nat->α:=fun j=>if j=i then v else f j
@[simp]theorem upd_same {α:Type} (f:Nat->α) (i:Nat) (v:α):upd f i v i=v:=by simp[upd]
theorem upd_other {α:Type} (f:Nat->α) {i j:Nat} (v:α) (h:j≠i):upd f i v j=f j:=by simp[upd,h]
def V.cells:V->Option (List V)
 | .agg cs=>some cs
 | .tup _ | .undef | .lb=>none
 | v=>some [v]
def V.isCell:V->Bool
 | .agg _ | .tup _ | .undef | .lb=>false
 | _=>true
def V.one:V->Bool
 | .tup _ | .undef | .lb=>false
 | _=>true
section
variable (G:Nat->List T)
def evl (s:St):Opd->Option V
 | .s t=>match s.env t with
   | .undef=>none
   | .lb=>none
   | v=>some v
 | .c v=>some v
 | .g k=>some (.t (.ip (G k)))
def refL (s:St):Opd->Option (Nat×Nat)
 | .s t=>match s.adr t with
   | some r=>some r
   | none=>match s.env t with
     | .lb=>some (t,0)
     | _=>none
 | _=>none
def evls (s:St):List Opd->Option (List V)
 | []=>some []
 | x::xs=>do
   let v<- evl G s x
   let vs<- evls s xs
   some (v::vs)
def evInt (s:St) (x:Opd):Option Int:=
 match evl G s x with
 | some (.t (.int _ n))=>some n
 | _=>none
def evBool (s:St) (x:Opd):Option Bool:=
 match evl G s x with
 | some (.t (.bool b))=>some b
 | _=>none
def rd {α:Type} (cs:List α) (off n:Nat):Option (List α):=
 if off+n<=cs.length then some ((cs.drop off).take n)else none
def wrapAg (ag:Bool) (r:List V):Option V:=
 if ag then some (.agg r)else match r with
  | [v]=>some v
  | _=>none
def wr {α:Type} (cs:List α) (off:Nat) (new:List α):Option (List α):=
 if off+new.length<=cs.length then some (cs.take off++new++cs.drop (off+new.length))else none
def binT (op:BinOp) (x y:T):Option T:=
 match x,y with
 | .int k a,.int k' b=>
   match op with
   | .shl=>if b<0 then none else some (.int k (k.wrap (a*2^min b.toNat k.bits)))
   | .shr=>if b<0 then none else some (.int k (a.fdiv (2^min b.toNat k.bits)))
   | _=>
     if k=k' then
      match op with
      | .add=>some (.int k (k.wrap (a+b)))
      | .sub=>some (.int k (k.wrap (a-b)))
      | .mul=>some (.int k (k.wrap (a*b)))
      | .quo=>if b=0 then none else some (.int k (k.wrap (a.tdiv b)))
      | .rem=>if b=0 then none else some (.int k (a.tmod b))
      | .and=>some (.int k (k.wrap (BitVec.ofInt k.bits a&&& BitVec.ofInt k.bits b).toNat))
      | .or=>some (.int k (k.wrap (BitVec.ofInt k.bits a ||| BitVec.ofInt k.bits b).toNat))
      | .xor=>some (.int k (k.wrap (BitVec.ofInt k.bits a^^^ BitVec.ofInt k.bits b).toNat))
      | .andNot=>some (.int k (k.wrap (BitVec.ofInt k.bits a&&& ~~~BitVec.ofInt k.bits b).toNat))
      | .eql=>some (.bool (a==b))
      | .neq=>some (.bool (a != b))
      | .lss=>some (.bool (a<b))
      | .leq=>some (.bool (a<=b))
      | .gtr=>some (.bool (a>b))
      | .geq=>some (.bool (a>=b))
      | _=>none
     else none
 | .str a,.str b=>
   match op with
   | .add=>if((a.size+b.size:Nat):Int)<=2^40 then some (.str (a++b))else none
   | .eql=>some (.bool (a.toList==b.toList))
   | .neq=>some (.bool !(a.toList==b.toList))
   | .lss=>some (.bool (Op.bytesLess a.toList b.toList))
   | .leq=>some (.bool (Op.bytesLess a.toList b.toList||a.toList==b.toList))
   | .gtr=>some (.bool !(Op.bytesLess a.toList b.toList||a.toList==b.toList))
   | .geq=>some (.bool !(Op.bytesLess a.toList b.toList))
   | _=>none
 | _,_=>none
def mxT (mn:Bool) (x y:T):Option T:=
 match x,y with
 | .int k a,.int k' b=>if k=k' then some (.int k (if mn then(if b<a then b else a)else(if b>a then b else a)))else none
 | _,_=>none
def unT (op:UnOp) (x:T):Option T:=
 match op,x with
 | .neg,.int k n=>some (.int k (k.wrap (0-n)))
 | .xor,.int k n=>some (.int k (k.wrap (BitVec.ofInt k.bits (if k.signed then -1 else k.max)^^^ BitVec.ofInt k.bits n).toNat))
 | .not,.bool b=>some (.bool !b)
 | _,_=>none
def eqCell (n:Nat) (x y:V):Option Bool:=
 match x,y with
 | .t (.int k a),.t (.int k' b)=>if n=0/\k=k' then some (a==b)else none
 | .t (.bool a),.t (.bool b)=>if n=1 then some (a==b)else none
 | .t (.str a),.t (.str b)=>if n=2 then some (a.toList==b.toList)else none
 | _,_=>none
def eqCells:List Nat->List V->List V->Option Bool
 | [],[],[]=>some true
 | n::ns,x::xs,y::ys=>do
   let b<- eqCell n x y
   let r<- eqCells ns xs ys
   some (b&&r)
 | _,_,_=>none
def rowsOf (s:St):V->Option (List (List V))
 | .t .nils=>some []
 | .t (.sl es)=>some (es.map (·.map V.t))
 | .t (.slc es)=>some (es.map (·.map V.t))
 | .ms k i len=>match s.heap k with
   | some (.rows _ rs _)=>rd rs i len
   | _=>none
 | _=>none
def lenOf (s:St):V->Option Nat
 | .t .nils=>some 0
 | .t (.sl es)=>some es.length
 | .t (.slc es)=>some es.length
 | .ms k _ len=>match s.heap k with
   | some (.rows _ _ _)=>some len
   | _=>none
 | _=>none
structure Eff where
 val:V:=.undef
 adr:Option (Nat×Nat):=none
 loc:Option (List V):=none
 wloc:Option (Nat×List V):=none
 hp:List (Nat×O):=[]
def hpUpd (h:Nat->Option O):List (Nat×O)->Nat->Option O
 | []=>h
 | (k,o)::r=>hpUpd (upd h k (some o)) r
def St.apply (s:St) (dst:Option Nat) (e:Eff):St:=
 { s with
   env:=match dst with | some d=>upd s.env d e.val | none=>s.env
   adr:=match dst with | some d=>upd s.adr d e.adr | none=>s.adr
   loc:=
    let l:=match e.wloc with | some (b,cs)=>upd s.loc b (some cs) | none=>s.loc
    match dst with | some d=>upd l d e.loc | none=>l
   used:=match e.adr with | some (b,_)=>upd s.used b true | none=>s.used
   heap:=hpUpd s.heap e.hp }
def fillParts (cs:List V) (s:St):List (Nat×Nat×Opd)->Option (List V)
 | []=>some cs
 | (off,n,x)::r=>do
   let v<- evl G s x
   let new<- v.cells
   if new.length=n then
    let cs<- wr cs off new
    fillParts cs s r
   else none
def fillRows (rs:List (List V)) (sz:Nat) (s:St):List (Nat×Opd)->Option (List (List V))
 | []=>some rs
 | (i,x)::r=>do
   let v<- evl G s x
   let new<- v.cells
   if new.length=sz/\i<rs.length then fillRows (rs.set i new) sz s r else none
def evOpt (s:St) (d:Nat):Option Opd->Option Int
 | none=>some d
 | some x=>evInt G s x
def keyCell:V->Option T
 | .t (.int k n)=>some (.int k n)
 | .t (.bool b)=>some (.bool b)
 | .t (.str b)=>some (.str b)
 | _=>none
def keyCells:List V->Option (List T)
 | []=>some []
 | x::r=>do
   let t<- keyCell x
   let ts<- keyCells r
   some (t::ts)
def T.kindN:T->Nat
 | .int _ _=>0
 | .bool _=>1
 | _=>2
def kcode:List Nat->Nat
 | []=>0
 | k::r=>k+1+4*kcode r
def keyOf (kd:Nat):V->Option T
 | .t (.int k n)=>if kd=0 then some (.int k n)else none
 | .t (.bool b)=>if kd=1 then some (.bool b)else none
 | .t (.str b)=>if kd=2 then some (.str b)else none
 | .agg cs=>(keyCells cs).bind fun ts=>if kd=3+kcode (ts.map T.kindN)then some (.sl [ts])else none
 | _=>none
def keyEq1:T->T->Option Bool
 | .int k a,.int k' b=>if k=k' then some (a==b)else none
 | .str a,.str b=>some (a==b)
 | .bool a,.bool b=>some (a==b)
 | _,_=>none
def keyEqs:List T->List T->Option Bool
 | [],[]=>some true
 | x::xs,y::ys=>do
   let b<- keyEq1 x y
   let r<- keyEqs xs ys
   some (b&&r)
 | _,_=>none
def keyEq:T->T->Option Bool
 | .int k a,.int k' b=>if k=k' then some (a==b)else none
 | .str a,.str b=>some (a==b)
 | .bool a,.bool b=>some (a==b)
 | .sl [a],.sl [b]=>keyEqs a b
 | _,_=>none
def mapFind (k:T):List (T×V)->Option (Option V)
 | []=>some none
 | (k',v)::r=>match keyEq k k' with
   | none=>none
   | some true=>some (some v)
   | some false=>mapFind k r
def mapPut (k:T) (v:V):List (T×V)->Option (List (T×V))
 | []=>some [(k,v)]
 | (k',v')::r=>match keyEq k k' with
   | none=>none
   | some true=>some ((k,v)::r)
   | some false=>(mapPut k v r).map ((k',v'):: ·)
def T.norm:T->T
 | .nils=> .sl []
 | x=>x
def trees:List V->Option (List T)
 | []=>some []
 | .t x::r=>(trees r).map (x.norm:: ·)
 | _=>none
def mkfnV (f:Nat) (a b:List V):Option V:=
 if a.all V.isCell/\b.all V.isCell then some (.fn f a b)
 else match a,b with
  | [.agg cs],[]=>(trees cs).map fun ts=> .t (.fa f ts)
  | _,_=>none
def appRows {α:Type} (a b rs:List α):List α:=if rs.length<=a.length+b.length then a++b else a++b++rs.drop (a.length+b.length)
def bytesOf:List (List V)->Option (List UInt8)
 | []=>some []
 | [.t (.int .u8 z)]::r=>if 0<=z/\z<256 then(bytesOf r).map (UInt8.ofNat z.toNat:: ·)else none
 | _=>none
def slice3 (sz:Nat) (v:V) (l h m:Int) (n:Nat):V:=match v with
 | .t (.sl es)=>if l=0/\h=n/\m=n/\es.all (·.length=sz)then .t (.slc es)else .lb
 | _=> .lb
def aeval (p:Nat) (s:St):AOp->Option Eff
 | .mv x=>do
   let v<- evl G s x
   some { val:=v }
 | .pick c a b=>do
   let t<- evBool G s c
   let v<- evl G s (if t then a else b)
   some { val:=v }
 | .allocL cells=>some { val:=.lb,loc:=some cells }
 | .allocH cells=>some { val:=.mp (s.bas+p) 0 0,hp:=[(s.bas+p,.rows cells.length [cells] false)] }
 | .allocB=>some { val:=.mp (s.bas+p) 0 0,hp:=[(s.bas+p,.raw (.bld none))] }
 | .boxL n x=>do
   let v<- evl G s x
   let cs<- v.cells
   if cs.length=n then some { val:=.lb,loc:=some cs }else none
 | .boxH n x=>do
   let v<- evl G s x
   let cs<- v.cells
   if cs.length=n then some { val:=.mp (s.bas+p) 0 0,hp:=[(s.bas+p,.rows n [cs] false)] }else none
 | .build zero parts=>do
   let cs<- fillParts G zero s parts
   some { val:=.agg cs }
 | .bslice sz len zero parts=>do
   let rs<- fillRows G (List.replicate len zero) sz s parts
   some { val:=.ms (s.bas+p) 0 len,hp:=[(s.bas+p,.rows sz rs false)] }
 | .loadL ag n a=>do
   let(b,off)<- refL s a
   let cs<- s.loc b
   let r<- rd cs off n
   let v<- wrapAg ag r
   some { val:=v }
 | .load ag n a=>do
   match <- evl G s a with
   | .mp k i off=>match s.heap k with
     | some (.rows _ rs _)=>do
       let row<- rs[i]?
       let r<- rd row off n
       let v<- wrapAg ag r
       some { val:=v }
     | _=>none
   | .t (.ip cs)=>do
     let r<- rd cs 0 n
     let v<- wrapAg ag (r.map V.t)
     some { val:=v }
   | _=>none
 | .storeL n a x=>do
   let(b,off)<- refL s a
   let cs<- s.loc b
   let v<- evl G s x
   let new<- v.cells
   if new.length=n then
    let cs'<- wr cs off new
    some { wloc:=some (b,cs') }
   else none
 | .store n a x=>do
   match <- evl G s a with
   | .mp k i off=>match s.heap k with
     | some (.rows sz rs false)=>do
       let row<- rs[i]?
       let v<- evl G s x
       let new<- v.cells
       if new.length=n then
        let row'<- wr row off new
        some { hp:=[(k,.rows sz (rs.set i row') false)] }
       else none
     | _=>none
   | _=>none
 | .nilchk x=>do
   match <- evl G s x with
   | .mp k i off=>match s.heap k with
     | some (.rows _ _ _)=>some { val:=.mp k i off }
     | _=>none
   | .t (.ip cs)=>some { val:=.t (.ip cs) }
   | .fn f a b=>some { val:=.fn f a b }
   | .t (.fn f a b)=>some { val:=.t (.fn f a b) }
   | .t (.fa f c)=>some { val:=.t (.fa f c) }
   | _=>none
 | .bin op x y=>do
   match <- evl G s x,<- evl G s y with
   | .t a,.t b=>do
     let r<- binT op a b
     some { val:=.t r }
   | _,_=>none
 | .eqb neg x y=>do
   let a<- evBool G s x
   let b<- evBool G s y
   some { val:=.t (.bool ((a==b) != neg)) }
 | .eqa neg ks x y=>do
   match <- evl G s x,<- evl G s y with
   | .agg a,.agg b=>do
     let r<- eqCells ks a b
     some { val:=.t (.bool (r != neg)) }
   | _,_=>none
 | .mx mn x y=>do
   match <- evl G s x,<- evl G s y with
   | .t a,.t b=>do
     let r<- mxT mn a b
     some { val:=.t r }
   | _,_=>none
 | .un op x=>do
   match <- evl G s x with
   | .t a=>do
     let r<- unT op a
     some { val:=.t r }
   | _=>none
 | .conv k x=>do
   let n<- evInt G s x
   some { val:=.t (.int k (k.wrap n)) }
 | .mkfn f first cap=>do
   let a<- evls G s first
   let b<- evls G s cap
   let v<- mkfnV f a b
   some { val:=v }
 | .mkfnT f x=>do
   let v<- evl G s x
   match v with
   | .mp k i off=>
     match s.heap k with
     | some (.rows sz [row] _)=>if i=0/\off=0 then(trees row).bind fun ts=>some ({ val:=.t (.fn f [] [.ip ts]),hp:=[(k,.rows sz [row] true)] }:Eff)else none
     | _=>none
   | _=>none
 | .mkslice sz bytes zero l c=>do
   let n<- evInt G s l
   let m<- evInt G s c
   if 0<=n/\n<=m/\m<=2^32/\bytes<=2^12/\zero.length=sz then
    some { val:=.ms (s.bas+p) 0 n.toNat,hp:=[(s.bas+p,.rows sz (List.replicate n.toNat zero) false)] }
   else none
 | .slice sz x lo hi mx=>do
   let v<- evl G s x
   let n<- lenOf s v
   let h<- evOpt G s n hi
   let l<- evOpt G s 0 lo
   match mx with
   | none=>
     if 0<=l/\l<=h/\h<=n then
      match v with
      | .t .nils=>some { val:=.t .nils }
      | .t (.sl es)=>if es.all (·.length=sz)then some { val:=.t (.sl ((es.drop l.toNat).take (h-l).toNat)) }else none
      | .ms k i _=>match s.heap k with
        | some (.rows sz' _ _)=>if sz'=sz then some { val:=.ms k (i+l.toNat) (h-l).toNat }else none
        | _=>none
      | _=>none
     else
      match v with
      | .ms k i _=>match s.heap k with
        | some (.rows sz' rs _)=>if sz'=sz/\0<=l/\l<=h/\(i:Int)+h<=rs.length then some { val:=.ms k (i+l.toNat) (h-l).toNat }else none
        | _=>none
      | _=>none
   | some m=>do
     let m<- evInt G s m
     if l=0/\h=0/\m=0/\hi.isSome then
      match v with
      | .t .nils=>some { val:=.t .nils }
      | .t (.sl [])=>some { val:=.t (.slc []) }
      | .t (.sl (_::_))=>some { val:=.t .nils }
      | .ms _ _ _=>some { val:=.t .nils }
      | _=>none
     else if 0<=l/\l<=h/\h<=m/\m<=n/\hi.isSome then some { val:=slice3 sz v l h m n }else none
 | .slstr x lo hi=>do
   match <- evl G s x with
   | .t (.str b)=>do
     let h<- evOpt G s b.size hi
     let l<- evOpt G s 0 lo
     if 0<=l/\l<=h/\h<=b.size then some { val:=.t (.str (b.extract l.toNat h.toNat)) }else none
   | _=>none
 | .faddrL off x=>do
   let(b,o)<- refL s x
   let _<- s.loc b
   some { val:=.lb,adr:=some (b,o+off) }
 | .faddr off x=>do
   match <- evl G s x with
   | .mp k i o=>match s.heap k with
     | some (.rows _ _ _)=>some { val:=.mp k i (o+off) }
     | _=>none
   | .t (.ip cs)=>some { val:=.t (.ip (cs.drop off)) }
   | _=>none
 | .field ag off n x=>do
   match <- evl G s x with
   | .agg cs=>do
     let r<- rd cs off n
     let v<- wrapAg ag r
     some { val:=v }
   | _=>none
 | .iaddrS sz x i=>do
   let n<- evInt G s i
   match <- evl G s x with
   | .t (.sl es)=>
     if 0<=n then(es[n.toNat]?).bind fun row=>if row.length=sz then some { val:=.t (.ip row) }else none
     else none
   | .ms k j len=>match s.heap k with
     | some (.rows sz' _ _)=>if 0<=n/\n<len/\sz'=sz then some { val:=.mp k (j+n.toNat) 0 }else none
     | _=>none
   | _=>none
 | .iaddrAL len sz x i=>do
   let n<- evInt G s i
   let(b,o)<- refL s x
   let _<- s.loc b
   if 0<=n/\n<len then some { val:=.lb,adr:=some (b,o+n.toNat*sz) }else none
 | .iaddrA len sz x i=>do
   let n<- evInt G s i
   if 0<=n/\n<len then
    match <- evl G s x with
    | .mp k j o=>match s.heap k with
      | some (.rows _ _ _)=>some { val:=.mp k j (o+n.toNat*sz) }
      | _=>none
    | .t (.ip cs)=>some { val:=.t (.ip (cs.drop (n.toNat*sz))) }
    | _=>none
   else none
 | .idxA ag len sz x i=>do
   let n<- evInt G s i
   match <- evl G s x with
   | .agg cs=>
     if 0<=n/\n<len then(rd cs (n.toNat*sz) sz).bind fun r=>(wrapAg ag r).bind fun v=>some { val:=v }
     else none
   | _=>none
 | .idxS x i=>do
   let n<- evInt G s i
   match <- evl G s x with
   | .t (.str b)=>
     if 0<=n then(b[n.toNat]?).bind fun c=>some { val:=.t (.int .u8 c.toNat) }
     else none
   | _=>none
 | .bstr x=>do
   let v<- evl G s x
   let rs<- rowsOf s v
   let l<- bytesOf rs
   some { val:=.t (.str ⟨l.toArray⟩) }
 | .extr x i=>do
   match <- evl G s x with
   | .tup cs=>do
     let v<- cs[i]?
     some { val:=v }
   | _=>none
 | .len x=>do
   let v<- evl G s x
   let n<- lenOf s v
   some { val:=.t (.int .i64 n) }
 | .slen x=>do
   match <- evl G s x with
   | .t (.str b)=>some { val:=.t (.int .i64 b.size) }
   | _=>none
 | .lenA n=>some { val:=.t (.int .i64 n) }
 | .capN x=>do
   match <- evl G s x with
   | .t .nils=>some { val:=.t (.int .i64 0) }
   | _=>none
 | .appz sz bytes zero x l=>do
   let n<- evInt G s l
   match <- evl G s x with
   | .t .nils=>
     if 1<=n/\n<=2^32/\bytes<=2^12/\zero.length=sz then
      some { val:=.ms (s.bas+p) 0 n.toNat,hp:=[(s.bas+p,.rows sz (List.replicate n.toNat zero) false)] }
     else none
   | _=>none
 | .stop=>none
 | .append sz bytes x y=>do
   let u<- evl G s x
   let v<- evl G s y
   let a<- rowsOf s u
   let b<- rowsOf s v
   if(a.length+b.length<=2^32/\bytes<=2^12)/\b.all (·.length=sz)/\a.all (·.length=sz)then
    if b.isEmpty then some { val:=u }
    else
     match u with
     | .t .nils=>some { val:=.ms (s.bas+p) 0 b.length,hp:=[(s.bas+p,.rows sz b false)] }
     | .t (.slc _)=>((a++b).mapM trees).bind fun ts=>some { val:=.t (.sl ts) }
     | .ms k i _=>match s.heap k with
       | some (.rows sz' rs false)=>
         if sz'=sz/\i=0 then some { val:=.ms (s.bas+p) 0 (a.length+b.length),hp:=[(k,.dead),(s.bas+p,.rows sz (appRows a b rs) false)] }else none
       | _=>none
     | _=>none
   else none
 | .copy sz x y=>do
   let u<- evl G s x
   let v<- evl G s y
   let b<- rowsOf s v
   match u with
   | .t .nils=>some { val:=.t (.int .i64 0) }
   | .ms k i len=>match s.heap k with
     | some (.rows sz' rs false)=>
       if sz'=sz/\b.all (·.length=sz)then
        (wr rs i (b.take len)).bind fun rs'=>some { val:=.t (.int .i64 (min b.length len:Nat)),hp:=[(k,.rows sz rs' false)] }
       else none
     | _=>none
   | _=>none
 | .clear sz zero x=>do
   let u<- evl G s x
   match u with
   | .t .nils=>some { val:=.tup [] }
   | .ms k i len=>match s.heap k with
     | some (.rows sz' rs false)=>
       if sz'=sz/\zero.length=sz then
        (wr rs i (List.replicate len zero)).bind fun rs'=>some { val:=.tup [],hp:=[(k,.rows sz rs' false)] }
       else none
     | _=>none
   | _=>none
 | .mkmap=>some { val:=.mm (s.bas+p),hp:=[(s.bas+p,.map [])] }
 | .lookup kd zero ok m k=>do
   let x<- evl G s k
   let key<- keyOf kd x
   let es<- (match <- evl G s m with
    | .t .nilm=>some []
    | .mm j=>match s.heap j with
      | some (.map es)=>some es
      | _=>none
    | _=>none)
   let r<- mapFind key es
   if ok then some { val:=.tup [r.getD zero,.t (.bool r.isSome)] }else some { val:=r.getD zero }
 | .mapupd kd m k v=>do
   let x<- evl G s k
   let key<- keyOf kd x
   let u<- evl G s v
   match <- evl G s m with
   | .mm j=>match s.heap j with
     | some (.map es)=>do
       let es'<- mapPut key u es
       if u.one then some { hp:=[(j,.map es')] }else none
     | _=>none
   | _=>none
 | .call _ _ _=>none
 | .fcall _ _=>none
end
def toT (h:Nat->Option O):Nat->V->Option T
 | _,.t x=>some x.norm
 | d+1,.ms k i len=>match h k with
   | some (.rows _ rs _)=>do
     let r<- rd rs i len
     let es<- r.mapM (fun row=>row.mapM (toT h d))
     some (.sl es)
   | _=>none
 | d+1,.mp k i off=>match h k with
   | some (.rows _ rs _)=>do
     let row<- rs[i]?
     let cs<- (row.drop off).mapM (toT h d)
     some (.ip cs)
   | _=>none
 | d+1,.fn f a b=>do
   let a'<- a.mapM (toT h d)
   let b'<- b.mapM (toT h d)
   some (.fn f a' b')
 | _+1,.mm k=>match h k with
   | some (.map _)=>some .opq
   | _=>none
 | _,_=>none
def toT1 (h:Nat->Option O):V->Option V
 | .agg cs=>(cs.mapM (toT h 1000)).map fun ts=> .agg (ts.map V.t)
 | v=>(toT h 1000 v).map V.t
def reify (h:Nat->Option O):V->Option V
 | .tup cs=>(cs.mapM (toT1 h)).map V.tup
 | v=>toT1 h v
def reach (h:Nat->Option O):Nat->V->List Nat
 | d+1,.ms k _ _=>k::(match h k with | some (.rows _ rs _)=>rs.flatMap (·.flatMap (reach h d)) | _=>[])
 | d+1,.mp k _ _=>k::(match h k with | some (.rows _ rs _)=>rs.flatMap (·.flatMap (reach h d)) | _=>[])
 | d+1,.fn _ a b=>a.flatMap (reach h d)++b.flatMap (reach h d)
 | _,_=>[]
def reach1 (h:Nat->Option O):V->List Nat
 | .agg cs=>cs.flatMap (reach h 1000)
 | v=>reach h 1000 v
def T.scalar:T->Bool
 | .sl []=>true
 | .sl _ | .ip _ | .fn _ _ _ | .fa _ _ | .slc _=>false
 | _=>true
def V.scalar1:V->Bool
 | .t x=>x.scalar
 | _=>false
def V.scalar2:V->Bool
 | .agg cs=>cs.all V.scalar1
 | v=>v.scalar1
def V.scalar:V->Bool
 | .tup cs=>cs.all V.scalar2
 | v=>v.scalar2
def freezes (h:Nat->Option O) (l:List Nat):List (Nat×O):=
 l.filterMap fun k=>match h k with
  | some (.rows sz rs _)=>some (k,.rows sz rs true)
  | _=>none
def St.begin (s:St) (n:Nat):St:=
 { s with adr:=fun _=>none,used:=fun _=>false,bas:=s.nxt,nxt:=s.nxt+n }
def initEnv (args:List V):Nat->V:=fun t=>args.getD t .undef
def St.init (args:List V) (h:Nat->Option O) (n:Nat):St:=
 { env:=initEnv args,loc:=fun _=>none,adr:=fun _=>none,used:=fun _=>false,heap:=h,nxt:=n,bas:=n }
def resOf (s:St):Res->Option V
 | .s t=>match s.env t with
   | .undef=>none
   | .lb=>none
   | .tup _=>none
   | v=>some v
 | .l t ag n=>do
   let cs<- s.loc t
   let r<- rd cs 0 n
   wrapAg ag r
 | .h t ag n=>match s.env t with
   | .mp k i off=>match s.heap k with
     | some (.rows _ rs _)=>do
       let row<- rs[i]?
       let r<- rd row off n
       wrapAg ag r
     | _=>none
   | _=>none
def resAll (s:St) (rs:List Res):Option V:=do
 let vs<- rs.mapM (resOf s)
 match vs with
 | [v]=>some v
 | vs=>some (.tup vs)
def fnOf:V->Option (Nat×List V×List V)
 | .fn f a b=>some (f,a,b)
 | .t (.fn f a b)=>some (f,a.map V.t,b.map V.t)
 | .t (.fa f c)=>some (f,[.agg (c.map V.t)],[])
 | _=>none
def intsOf:List (List V)->Option (List Int)
 | []=>some []
 | [.t (.int .i64 z)]::r=>(intsOf r).map (z:: ·)
 | _=>none
def ofInts (l:List Int):List (List V):=l.map fun z=>[.t (.int .i64 z)]
def bldAdd (h:Nat->Option O) (n k:Nat) (new:List UInt8):Option ((Nat->Option O)×Nat):=match h k with
 | some (.raw (.bld none))=>if new.length<=140737488355328 then
    if new=[]then some (h,n)else some (upd (upd h n (some (.raw (.buf new)))) k (some (.raw (.bld (some n)))),n+1)else none
 | some (.raw (.bld (some g)))=>match h g with
   | some (.raw (.buf l))=>if l.length+new.length<=140737488355328 then some (upd (upd (upd h g (some .dead)) n (some (.raw (.buf (l++new))))) k (some (.raw (.bld (some n)))),n+1)else none
   | _=>none
 | _=>none
def extSem (e:Ext) (args:List V) (h:Nat->Option O) (n:Nat):Option (V×(Nat->Option O)×Nat):=match e,args with
 | .sortI,[.t .nils]=>some (.tup [],h,n)
 | .sortI,[.ms k 0 len]=>match h k with
   | some (.rows 1 rs false)=>(intsOf rs).bind fun zs=>if zs.length=len/\len<1099511627776 then some (.tup [],upd h k (some (.rows 1 (ofInts (zs.mergeSort fun x y=>decide (x<=y))) false)),n)else none
   | _=>none
 | .compactI,[.t .nils]=>some (.t (.sl []),h,n)
 | .compactI,[.ms k 0 len]=>match h k with
   | some (.rows 1 rs false)=>(intsOf rs).bind fun zs=>if zs.length=len/\len<1099511627776 then some (.t (.sl ((Go.Lib.compact zs).map fun z=>[.int .i64 z])),upd h k (some (.rows 1 (ofInts (Go.Lib.compact zs++List.replicate (zs.length-(Go.Lib.compact zs).length) 0)) true)),n)else none
   | _=>none
 | .cloneI,[.t .nils]=>some (.t (.sl []),h,n)
 | .cloneI,[.t (.sl [])]=>some (.t (.sl []),h,n)
 | .cloneI,[.t (.sl es)]=>(intsOf (es.map (·.map V.t))).bind fun zs=>if zs.length<1099511627776 then some (.ms n 0 zs.length,upd h n (some (.rows 1 (ofInts zs) false)),n+1)else none
 | .bldS,[.mp k 0 0,.t (.str s)]=>(bldAdd h n k s.data.toList).map fun(h',n')=>(.tup [.t (.int .i64 s.size),.t .nili],h',n')
 | .bldB,[.mp k 0 0,.t (.int .u8 z)]=>if 0<=z/\z<256 then(bldAdd h n k [UInt8.ofNat z.toNat]).map fun(h',n')=>(.t .nili,h',n')else none
 | .bldG,[.mp k 0 0]=>match h k with
   | some (.raw (.bld none))=>some (.t (.str ⟨#[]⟩),upd h k (some .dead),n)
   | some (.raw (.bld (some g)))=>match h g with
     | some (.raw (.buf l))=>some (.t (.str ⟨l.toArray⟩),upd (upd h g (some .dead)) k (some .dead),n)
     | _=>none
   | _=>none
 | _,_=>none
def strsOf:List (List T)->Option (List ByteArray)
 | []=>some []
 | [.str s]::r=>(strsOf r).map (s:: ·)
 | _=>none
def itoaS (z:Int):ByteArray:=⟨(Go.Lib.itoa z).toArray⟩
def joinB (l:List ByteArray) (sep:ByteArray):ByteArray:=⟨(Go.Lib.join (l.map (·.data.toList)) sep.data.toList).toArray⟩
def extPure (e:Ext) (args:List V):Option V:=match e,args with
 | .itoa,[.t (.int .i64 z)]=>if -9223372036854775808<=z/\z<=9223372036854775807 then some (.t (.str (itoaS z)))else none
 | .cloneT _,[.t .nils]=>some (.t (.sl []))
 | .cloneT sz,[.t (.sl es)]=>if es.length<4294967296/\es.all (fun e=>decide (e.length=sz))=true then some (.t (.sl es))else none
 | .joinS,[.t (.sl es),.t (.str sep)]=>(strsOf es).bind fun l=>if l.length<=140737488355328/\(joinB l sep).size<=140737488355328 then some (.t (.str (joinB l sep)))else none
 | _,_=>none
def wants (s:St):Option (Nat×Bool)->Option Bool
 | none=>some true
 | some (g,want)=>match s.env g with
   | .t (.bool b)=>some (b==want)
   | .undef=>some false
   | _=>none
def V.isTr:V->Bool
 | .t _=>true
 | _=>false
def ownR (key:Nat) (r:V) (h:Nat->Option O):Option Eff:=
 match r with
 | .t .nils=>some { val:=.t .nils }
 | .t (.sl [])=>some { val:=.t (.sl []) }
 | .ms k i n=>match h k with
   | some (.rows sz rs false)=>if i=0/\n=rs.length/\rs.all (fun row=>row.all V.isTr)=true then some { val:=.ms key 0 n,hp:=[(key,.rows sz rs false)] }else none
   | _=>none
 | _=>none
def fillEnv:(Nat->V)->List Nat->List V->Nat->V
 | env,t::ts,v::vs=>fillEnv (upd env t v) ts vs
 | env,_,_=>env
def roundSt (h:Nat->Option O) (n:Nat) (k:Nat) (env:Nat->V) (ps:List Nat) (bd:C) (vs:List V):St:=
 { env:=fillEnv env ps vs,loc:=fun _=>none,adr:=fun _=>none,used:=fun _=>false,heap:=upd h k (some (.loop env ps bd .enter)),nxt:=n,bas:=n }
inductive Task where
 | code (c:C) (s:St)
 | loop (b:C) (s:St)
 | ops (draw:Bool) (p:Nat) (l:List ROp) (s:St)
 | pcall (f:Nat) (args:List V)
 | rcall (f:Nat) (args:List V) (h:Nat->Option O) (n:Nat)
inductive Out where
 | code (e:Ex) (s:St)
 | ops (s:St)
 | val (v:V)
 | vals (v:V) (h:Nat->Option O) (n:Nat)
def St.free (s:St) (dst:Option Nat) (e:Eff):Prop:= ∀d,dst=some d->s.used d=false/\ ∀b o,e.adr=some (b,o)->b≠d
def AOp.opds:AOp->List Opd
 | .mv x | .boxL _ x | .boxH _ x | .loadL _ _ x | .load _ _ x | .nilchk x | .un _ x | .conv _ x | .faddrL _ x | .faddr _ x | .field _ _ _ x | .extr x _ | .len x | .slen x | .capN x | .bstr x | .clear _ _ x | .mkfnT _ x=>[x]
 | .pick c a b=>[c,a,b]
 | .allocL _ | .allocH _ | .allocB | .lenA _ | .mkmap | .stop=>[]
 | .build _ ps=>ps.map (·.2.2)
 | .bslice _ _ _ ps=>ps.map (·.2)
 | .storeL _ a v | .store _ a v | .bin _ a v | .mx _ a v | .eqb _ a v | .eqa _ _ a v | .mkslice _ _ _ a v | .appz _ _ _ a v | .iaddrS _ a v | .iaddrAL _ _ a v | .iaddrA _ _ a v | .idxA _ _ _ a v | .idxS a v | .append _ _ a v | .copy _ a v | .lookup _ _ _ a v=>[a,v]
 | .mkfn _ a b=>a++b
 | .slice _ x l h m=>x::(l.toList++h.toList++m.toList)
 | .slstr x l h=>x::(l.toList++h.toList)
 | .mapupd _ a b v=>[a,b,v]
 | .call _ f as=>f::as
 | .fcall f as=>f::as
def V.top:V->List Nat
 | .ms k _ _=>[k]
 | .mp k _ _=>[k]
 | .mm k=>[k]
 | _=>[]
def AOp.looks:AOp->Bool
 | .load _ _ _ | .nilchk _ | .faddr _ _ | .iaddrS _ _ _ | .slice _ _ _ _ _ | .len _=>true
 | _=>false
def AOp.wopd:AOp->List Opd
 | .store _ a _=>[a]
 | .append _ _ a _=>[a]
 | _=>[]
def topsL (G:Nat->List T) (s:St) (l:List Opd):List Nat:=l.flatMap fun x=>match evl G s x with | some v=>v.top | none=>[]
def sep (G:Nat->List T) (s:St) (a b:ROp):Bool:=
 if a.op.looks then(topsL G s a.op.opds).all fun k=> !(topsL G s b.op.wopd).contains k
 else(topsL G s b.op.opds).all fun k=> !(topsL G s a.op.wopd).contains k
def sepAll (G:Nat->List T) (s:St) (l:List ROp) (ck:List (Nat×Nat)):Bool:=
 ck.all fun x=>match l[x.1]?,l[x.2]? with
  | some a,some b=>sep G s a b
  | _,_=>false
inductive Big (Γ:Nat->Option F) (G:Nat->List T):Task->Out->Prop where
 | skip {s:St}:Big Γ G (.code .skip s) (.code .normal s)
 | ret {s:St}:Big Γ G (.code .ret s) (.code .ret s)
 | exit {s:St} {id:Nat}:Big Γ G (.code (.exit id) s) (.code (.exit id) s)
 | region {s s':St} {d:Bool} {l:List ROp} (h:Big Γ G (.ops d 0 l (s.begin l.length)) (.ops s')):Big Γ G (.code (.region d l) s) (.code .normal s')
 | regionD {s s':St} {ck:List (Nat×Nat)} {l:List ROp} (h:Big Γ G (.ops true 0 l (s.begin l.length)) (.ops s')) (hc:sepAll G s' l ck=true):
    Big Γ G (.code (.regionD ck l) s) (.code .normal s')
 | seqN {s s1 s2:St} {a b:C} {e:Ex} (h1:Big Γ G (.code a s) (.code .normal s1)) (h2:Big Γ G (.code b s1) (.code e s2)):
    Big Γ G (.code (.seq a b) s) (.code e s2)
 | seqX {s s1:St} {a b:C} {e:Ex} (h1:Big Γ G (.code a s) (.code e s1)) (he:e≠ .normal):Big Γ G (.code (.seq a b) s) (.code e s1)
 | cond {s s1:St} {c:Opd} {a b:C} {e:Ex} {t:Bool} (hc:evBool G s c=some t) (h:Big Γ G (.code (if t then a else b) s) (.code e s1)):
    Big Γ G (.code (.cond c a b) s) (.code e s1)
 | block {s s1:St} {id:Nat} {b:C} {e:Ex} (h:Big Γ G (.code b s) (.code e s1)):
    Big Γ G (.code (.block id b) s) (.code (if e= .exit id then .normal else e) s1)
 | loop {s s1:St} {b:C} {e:Ex} (h:Big Γ G (.loop b s) (.code e s1)):Big Γ G (.code (.loop b) s) (.code e s1)
 | loopN {s s1 s2:St} {b:C} {e:Ex} (h1:Big Γ G (.code b s) (.code .normal s1)) (h2:Big Γ G (.loop b s1) (.code e s2)):
    Big Γ G (.loop b s) (.code e s2)
 | loopX {s s1:St} {b:C} {e:Ex} (h1:Big Γ G (.code b s) (.code e s1)) (he:e≠ .normal):Big Γ G (.loop b s) (.code e s1)
 | opsNil {d:Bool} {p:Nat} {s:St}:Big Γ G (.ops d p [] s) (.ops s)
 | opsSkip {d:Bool} {p:Nat} {s s':St} {o:ROp} {l:List ROp} (hw:wants s o.guard=some false) (hf:s.free o.dst {})
    (h:Big Γ G (.ops d (p+1) l (s.apply o.dst {})) (.ops s')):Big Γ G (.ops d p (o::l) s) (.ops s')
 | opsEff {d:Bool} {p:Nat} {s s':St} {o:ROp} {l:List ROp} {e:Eff} (hw:wants s o.guard=some true) (hf:s.free o.dst e)
    (he:aeval G p s o.op=some e) (h:Big Γ G (.ops d (p+1) l (s.apply o.dst e)) (.ops s')):Big Γ G (.ops d p (o::l) s) (.ops s')
 | opsPure {d:Bool} {p:Nat} {s s':St} {o:ROp} {l:List ROp} {f:Opd} {args:List Opd} {fv:V} {g:Nat} {a b vs rs:List V} {fn:F} {r:V}
    (hw:wants s o.guard=some true) (hf:s.free o.dst {}) (ho:o.op= .call false f args) (hfv:evl G s f=some fv) (hfn:fnOf fv=some (g,a,b))
    (hg:Γ g=some fn) (hr:fn.raw=false) (hvs:evls G s args=some vs) (hrs:(a++vs++b).mapM (toT1 s.heap)=some rs)
    (hc:Big Γ G (.pcall g rs) (.val r)) (hd:d=true->r.scalar=true\/(a++vs++b).flatMap (reach1 s.heap)=[])
    (h:Big Γ G (.ops d (p+1) l (s.apply o.dst { val:=r,hp:=if r.scalar then []else freezes s.heap ((a++vs++b).flatMap (reach1 s.heap)) })) (.ops s')):
    Big Γ G (.ops d p (o::l) s) (.ops s')
 | opsRaw {d:Bool} {p:Nat} {s s':St} {o:ROp} {l:List ROp} {f:Opd} {args:List Opd} {fv:V} {g:Nat} {a b vs:List V} {fn:F} {r:V} {h':Nat->Option O} {n':Nat}
    (hw:wants s o.guard=some true) (hf:s.free o.dst {}) (ho:o.op= .call true f args) (hfv:evl G s f=some fv) (hfn:fnOf fv=some (g,a,b))
    (hg:Γ g=some fn) (hr:fn.raw=true) (hvs:evls G s args=some vs)
    (hc:Big Γ G (.rcall g (a++vs++b) s.heap s.nxt) (.vals r h' n'))
    (h:Big Γ G (.ops d (p+1) l ({ s with heap:=h',nxt:=n' }.apply o.dst { val:=r })) (.ops s')):Big Γ G (.ops d p (o::l) s) (.ops s')
 | opsFresh {d:Bool} {p:Nat} {s s':St} {o:ROp} {l:List ROp} {f:Opd} {args:List Opd} {fv:V} {g:Nat} {a b vs rs:List V} {fn:F} {r:V} {h':Nat->Option O} {n':Nat} {e:Eff}
    (hw:wants s o.guard=some true) (hf:s.free o.dst {}) (ho:o.op= .fcall f args) (hfv:evl G s f=some fv) (hfn:fnOf fv=some (g,a,b))
    (hg:Γ g=some fn) (hr:fn.raw=true) (hvs:evls G s args=some vs) (hrs:(a++vs++b).mapM (toT1 s.heap)=some rs) (hd:(a++vs++b).flatMap (reach1 s.heap)=[])
    (hc:Big Γ G (.rcall g rs (fun _=>none) 0) (.vals r h' n')) (he:ownR (s.bas+p) r h'=some e)
    (h:Big Γ G (.ops d (p+1) l (s.apply o.dst e)) (.ops s')):Big Γ G (.ops d p (o::l) s) (.ops s')
 | rangeF {s:St} {x:Opd} {ps:List Nat} {bd bd':C} {fv:V} {g:Nat} {a b:List V} {fn:F} {r:V} {h':Nat->Option O} {n':Nat} {env':Nat->V} {ps':List Nat} {st:LSt} {e:Ex}
    (hfv:evl G s x=some fv) (hfn:fnOf fv=some (g,a,b)) (hg:Γ g=some fn) (hr:fn.raw=true)
    (hc:Big Γ G (.rcall g (a++[.yl s.nxt]++b) (upd s.heap s.nxt (some (.loop s.env ps bd .ready))) (s.nxt+1)) (.vals r h' n'))
    (hl:h' s.nxt=some (.loop env' ps' bd' st)) (he:st.ends=some e):
    Big Γ G (.code (.rangeF x ps bd) s) (.code e { s with heap:=upd h' s.nxt (some .dead),nxt:=n' })
 | opsYield {d:Bool} {p:Nat} {s s' s1 s2:St} {o:ROp} {l:List ROp} {f:Opd} {args:List Opd} {k:Nat} {vs:List V} {env env1 env':Nat->V} {ps ps1 ps':List Nat} {ca cb bd1 bd':C} {e:Ex}
    (hw:wants s o.guard=some true) (hf:s.free o.dst {}) (ho:o.op= .call true f args) (hfv:evl G s f=some (.yl k))
    (hk:s.heap k=some (.loop env ps (.round ca cb) .ready)) (hvs:evls G s args=some vs) (hlen:vs.length=ps.length)
    (hca:Big Γ G (.code ca (roundSt s.heap s.nxt k env ps (.round ca cb) vs)) (.code .normal s1)) (hk1:s1.heap k=some (.loop env1 ps1 bd1 .enter))
    (hcb:Big Γ G (.code cb { s1 with heap:=upd s1.heap k (some (.loop env1 ps1 bd1 .busy)) }) (.code e s2)) (hk2:s2.heap k=some (.loop env' ps' bd' .busy))
    (h:Big Γ G (.ops d (p+1) l ({ s with heap:=upd s2.heap k (some (.loop env' ps' bd' e.toL)),nxt:=s2.nxt }.apply o.dst { val:=.t (.bool (decide (e=Ex.normal))) })) (.ops s')):
    Big Γ G (.ops d p (o::l) s) (.ops s')
 | pcall {g:Nat} {args:List V} {fn:F} {s':St} {e:Ex} {v r:V} (hg:Γ g=some fn) (hr:fn.raw=false)
    (h:Big Γ G (.code fn.body (.init args (fun _=>none) 0)) (.code e s')) (he: ∀id,e≠ .exit id)
    (hv:resAll s' fn.results=some v) (hre:reify s'.heap v=some r):Big Γ G (.pcall g args) (.val r)
 | pext {g:Nat} {args:List V} {fn:F} {e:Ext} {r:V} (hg:Γ g=some fn) (hr:fn.raw=false) (hb:fn.body= .ext e) (h:extPure e args=some r):Big Γ G (.pcall g args) (.val r)
 | rcall {g:Nat} {args:List V} {fn:F} {s':St} {e:Ex} {v:V} {hp:Nat->Option O} {n:Nat} (hg:Γ g=some fn) (hr:fn.raw=true)
    (h:Big Γ G (.code fn.body (.init args hp n)) (.code e s')) (he: ∀id,e≠ .exit id)
    (hv:resAll s' fn.results=some v):Big Γ G (.rcall g args hp n) (.vals v s'.heap s'.nxt)
 | rext {g:Nat} {args:List V} {fn:F} {e:Ext} {r:V} {hp h':Nat->Option O} {n n':Nat} (hg:Γ g=some fn) (hr:fn.raw=true) (hb:fn.body= .ext e)
    (h:extSem e args hp n=some (r,h',n')):Big Γ G (.rcall g args hp n) (.vals r h' n')
end Rg
end
