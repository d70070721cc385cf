/- Part of the proof of laws of relyguardtop. No condition. -/
import Derived.Calls
import Derived.Laws.Sem
import Derived.Laws.World
import Derived.Lib.SlicesCompact
import Derived.Lib.ItoaNum
import Derived.Lib.Join
import Derived.Lib.IndexMore
import Derived.Laws.CopyRow
set_option linter.unusedVariables false
set_option linter.unusedSimpArgs false
section
namespace Rg
open Go
inductive T where
 | int (k:IntKind) (n:Int)
 | bool (b:Bool)
 | str (s:ByteArray)
 | nilp | nils | nilm | nilf | nili
 | sl (es:List (List T))
 | ip (cs:List T)
 | fn (f:Nat) (first cap:List T)
 | fa (f:Nat) (cs:List T)
 | opq
 | slc (es:List (List T))
 deriving Inhabited
inductive V where
 | t (x:T)
 | ms (k i len:Nat)
 | mp (k i off:Nat)
 | mm (k:Nat)
 | yl (k:Nat)
 | ifc (t:Nat) (x:V)
 | fn (f:Nat) (first cap:List V)
 | agg (cs:List V)
 | tup (cs:List V)
 | undef
 | lb
 deriving Inhabited
inductive Opd where
 | s (t:Nat)
 | c (v:V)
 | g (k:Nat)
 | m (mt:List (Nat×Nat)) (t:Nat)
 deriving Inhabited
inductive AOp where
 | mv (x:Opd)
 | pick (c a b:Opd)
 | allocL (cells:List V)
 | allocH (cells:List V)
 | allocB
 | boxL (n:Nat) (x:Opd)
 | boxH (n:Nat) (x:Opd)
 | build (zero:List V) (parts:List (Nat×Nat×Opd))
 | bslice (sz len:Nat) (zero:List V) (parts:List (Nat×Opd))
 | lit (sz len:Nat) (zero:List V) (parts:List (Nat×Opd))
 | loadL (ag:Bool) (n:Nat) (a:Opd)
 | load (ag:Bool) (n:Nat) (a:Opd)
 | storeL (n:Nat) (a v:Opd)
 | store (n:Nat) (a v:Opd)
 | nilchk (x:Opd)
 | bin (op:BinOp) (x y:Opd)
 | eqb (neg:Bool) (x y:Opd)
 | eqa (neg:Bool) (ks:List Nat) (x y:Opd)
 | mx (mn:Bool) (x y:Opd)
 | un (op:UnOp) (x:Opd)
 | conv (k:IntKind) (x:Opd)
 | mkfn (f:Nat) (first cap:List Opd)
 | mkfnT (f:Nat) (x:Opd)
 | mkslice (sz bytes:Nat) (zero:List V) (l c:Opd)
 | slice (sz:Nat) (x:Opd) (lo hi mx:Option Opd)
 | slstr (x:Opd) (lo hi:Option Opd)
 | faddrL (off:Nat) (x:Opd)
 | faddr (off:Nat) (x:Opd)
 | field (ag:Bool) (off n:Nat) (x:Opd)
 | iaddrS (sz:Nat) (x i:Opd)
 | iaddrAL (len sz:Nat) (x i:Opd)
 | iaddrA (len sz:Nat) (x i:Opd)
 | idxA (ag:Bool) (len sz:Nat) (x i:Opd)
 | idxS (x i:Opd)
 | bstr (x:Opd)
 | extr (x:Opd) (i:Nat)
 | len (x:Opd)
 | slen (x:Opd)
 | lenA (n:Nat)
 | capN (x:Opd)
 | appz (sz bytes:Nat) (zero:List V) (x l:Opd)
 | stop
 | boxA (n:Nat) (x:Opd)
 | allocA (cells:List V)
 | storeA (n:Nat) (a v:Opd)
 | slicA (len:Nat) (x:Opd) (lo hi:Option Opd)
 | mkif (k:Nat) (x:Opd)
 | tassert (k:Nat) (zero:V) (ok:Bool) (x:Opd)
 | append (sz bytes:Nat) (x y:Opd)
 | copy (sz:Nat) (x y:Opd)
 | clear(sz:Nat) (zero:List V) (x:Opd)
 | mkmap
 | lookup (kd:Nat) (zero:V) (ok:Bool) (m k:Opd)
 | mapupd (kd:Nat) (m k v:Opd)
 | call (raw:Bool) (f:Opd) (args:List Opd)
 | fcall (f:Opd) (args:List Opd)
 deriving Inhabited
structure ROp where
 guard:Option (Nat×Bool)
 dst:Option Nat
 op:AOp
 deriving Inhabited
inductive Ext where
 | sortI
 | compactI
 | cloneI
 | cloneT (sz:Nat)
 | itoa
 | joinS
 | bldS
 | bldB
 | bldG
 | cutS
 deriving Inhabited
inductive C where
 | skip
 | region (draw:Bool) (ops:List ROp)
 | regionD (ck:List (Nat×Nat)) (ops:List ROp)
 | seq (a b:C)
 | cond (c:Opd) (a b:C)
 | block (id:Nat) (b:C)
 | loop (b:C)
 | exit (id:Nat)
 | ret
 | ext (e:Ext)
 | rangeF (g:Opd) (ps:List Nat) (b:C)
 | round (a b:C)
 deriving Inhabited
inductive Ex where
 | normal
 | exit (id:Nat)
 | ret
 deriving DecidableEq
inductive LSt where
 | ready
 | enter
 | busy
 | done (e:Ex)
def LSt.ends:LSt->Option Ex
 | .ready=>some .normal
 | .enter=>none
 | .busy=>none
 | .done e=>some e
def Ex.toL:Ex->LSt
 | .normal=> .ready
 | e=> .done e
inductive Bx where
 | bld (g:Option Nat)
 | mid
 | buf (l:List UInt8)
inductive O where
 | rows (sz:Nat) (rs:List (List V)) (frz:Bool)
 | map (es:List (T×V))
 | loop (env:Nat->V) (ps:List Nat) (b:C) (st:LSt)
 | raw (b:Bx)
 | dead
 deriving Inhabited
structure St where
 env:Nat->V
 loc:Nat->Option (List V)
 adr:Nat->Option (Nat×Nat)
 used:Nat->Bool
 heap:Nat->Option O
 nxt:Nat
 bas:Nat
inductive Res where
 | s (t:Nat)
 | l (t:Nat) (ag:Bool) (n:Nat)
 | h (t:Nat) (ag:Bool) (n:Nat)
 deriving Inhabited
structure F where
 nslots:Nat
 raw:Bool
 results:List Res
 body:C
 deriving Inhabited
def upd {α:Type} (f:Nat->α) (i:Nat) (v:α):Nat->α:=fun j=>if j=i then v else f j
@[simp]theorem zaz {α:Type} (f:Nat->α) (i:Nat) (v:α):upd f i v i=v:=by simp[upd]
theorem zad {α:Type} (f:Nat->α) {i j:Nat} (v:α) (h:j≠i):upd f i v j=f j:=by simp[upd,h]
def V.cells:V->Option (List V)
 | .agg cs=>some cs
 | .tup _ | .undef | .lb=>none
 | v=>some [v]
def V.isCell:V->Bool
 | .agg _ | .tup _ | .undef | .lb=>false
 | _=>true
def V.one:V->Bool
 | .tup _ | .undef | .lb=>false
 | _=>true
section
variable (G:Nat->List T)
def evl (s:St):Opd->Option V
 | .s t=>match s.env t with
   | .undef=>none
   | .lb=>none
   | v=>some v
 | .c v=>some v
 | .g k=>some (.t (.ip (G k)))
 | .m mt t=>match s.env t with
   | .ifc k x=>(mt.lookup k).map fun g=> .fn g [x] []
   | _=>none
def zd8 (s:St):Opd->Option (Nat×Nat)
 | .s t=>match s.adr t with
   | some r=>some r
   | none=>match s.env t with
     | .lb=>some (t,0)
     | _=>none
 | _=>none
def zgE (s:St):List Opd->Option (List V)
 | []=>some []
 | x::xs=>do
   let v<- evl G s x
   let vs<- zgE s xs
   some (v::vs)
def zex (s:St) (x:Opd):Option Int:=
 match evl G s x with
 | some (.t (.int _ n))=>some n
 | _=>none
def zd5 (s:St) (x:Opd):Option Bool:=
 match evl G s x with
 | some (.t (.bool b))=>some b
 | _=>none
def rd {α:Type} (cs:List α) (off n:Nat):Option (List α):=
 if off+n<=cs.length then some ((cs.drop off).take n)else none
def zb9 (ag:Bool) (r:List V):Option V:=
 if ag then some (.agg r)else match r with
  | [v]=>some v
  | _=>none
def wr {α:Type} (cs:List α) (off:Nat) (new:List α):Option (List α):=
 if off+new.length<=cs.length then some (cs.take off++new++cs.drop (off+new.length))else none
def zvs (op:BinOp) (x y:T):Option T:=
 match x,y with
 | .int k a,.int k' b=>
   match op with
   | .shl=>if b<0 then none else some (.int k (k.wrap (a*2^min b.toNat k.bits)))
   | .shr=>if b<0 then none else some (.int k (a.fdiv (2^min b.toNat k.bits)))
   | _=>
     if k=k' then
      match op with
      | .add=>some (.int k (k.wrap (a+b)))
      | .sub=>some (.int k (k.wrap (a-b)))
      | .mul=>some (.int k (k.wrap (a*b)))
      | .quo=>if b=0 then none else some (.int k (k.wrap (a.tdiv b)))
      | .rem=>if b=0 then none else some (.int k (a.tmod b))
      | .and=>some (.int k (k.wrap (BitVec.ofInt k.bits a&&& BitVec.ofInt k.bits b).toNat))
      | .or=>some (.int k (k.wrap (BitVec.ofInt k.bits a ||| BitVec.ofInt k.bits b).toNat))
      | .xor=>some (.int k (k.wrap (BitVec.ofInt k.bits a^^^ BitVec.ofInt k.bits b).toNat))
      | .andNot=>some (.int k (k.wrap (BitVec.ofInt k.bits a&&& ~~~BitVec.ofInt k.bits b).toNat))
      | .eql=>some (.bool (a==b))
      | .neq=>some (.bool (a != b))
      | .lss=>some (.bool (a<b))
      | .leq=>some (.bool (a<=b))
      | .gtr=>some (.bool (a>b))
      | .geq=>some (.bool (a>=b))
      | _=>none
     else none
 | .str a,.str b=>
   match op with
   | .add=>if((a.size+b.size:Nat):Int)<=2^40 then some (.str (a++b))else none
   | .eql=>some (.bool (a.toList==b.toList))
   | .neq=>some (.bool !(a.toList==b.toList))
   | .lss=>some (.bool (Op.bytesLess a.toList b.toList))
   | .leq=>some (.bool (Op.bytesLess a.toList b.toList||a.toList==b.toList))
   | .gtr=>some (.bool !(Op.bytesLess a.toList b.toList||a.toList==b.toList))
   | .geq=>some (.bool !(Op.bytesLess a.toList b.toList))
   | _=>none
 | _,_=>none
def mxT (mn:Bool) (x y:T):Option T:=
 match x,y with
 | .int k a,.int k' b=>if k=k' then some (.int k (if mn then(if b<a then b else a)else(if b>a then b else a)))else none
 | _,_=>none
def unT (op:UnOp) (x:T):Option T:=
 match op,x with
 | .neg,.int k n=>some (.int k (k.wrap (0-n)))
 | .xor,.int k n=>some (.int k (k.wrap (BitVec.ofInt k.bits (if k.signed then -1 else k.max)^^^ BitVec.ofInt k.bits n).toNat))
 | .not,.bool b=>some (.bool !b)
 | _,_=>none
def zg6 (n:Nat) (x y:V):Option Bool:=
 match x,y with
 | .t (.int k a),.t (.int k' b)=>if n=0/\k=k' then some (a==b)else none
 | .t (.bool a),.t (.bool b)=>if n=1 then some (a==b)else none
 | .t (.str a),.t (.str b)=>if n=2 then some (a.toList==b.toList)else none
 | _,_=>none
def zbh:List Nat->List V->List V->Option Bool
 | [],[],[]=>some true
 | n::ns,x::xs,y::ys=>do
   let b<- zg6 n x y
   let r<- zbh ns xs ys
   some (b&&r)
 | _,_,_=>none
def zdw (s:St):V->Option (List (List V))
 | .t .nils=>some []
 | .t (.sl es)=>some (es.map (·.map V.t))
 | .t (.slc es)=>some (es.map (·.map V.t))
 | .ms k i len=>match s.heap k with
   | some (.rows _ rs _)=>rd rs i len
   | _=>none
 | _=>none
def lenOf (s:St):V->Option Nat
 | .t .nils=>some 0
 | .t (.sl es)=>some es.length
 | .t (.slc es)=>some es.length
 | .ms k _ len=>match s.heap k with
   | some (.rows _ _ _)=>some len
   | _=>none
 | _=>none
structure Eff where
 val:V:=.undef
 adr:Option (Nat×Nat):=none
 loc:Option (List V):=none
 wloc:Option (Nat×List V):=none
 hp:List (Nat×O):=[]
def zbf (h:Nat->Option O):List (Nat×O)->Nat->Option O
 | []=>h
 | (k,o)::r=>zbf (upd h k (some o)) r
def St.apply (s:St) (dst:Option Nat) (e:Eff):St:=
 { s with
   env:=match dst with | some d=>upd s.env d e.val | none=>s.env
   adr:=match dst with | some d=>upd s.adr d e.adr | none=>s.adr
   loc:=
    let l:=match e.wloc with | some (b,cs)=>upd s.loc b (some cs) | none=>s.loc
    match dst with | some d=>upd l d e.loc | none=>l
   used:=match e.adr with | some (b,_)=>upd s.used b true | none=>s.used
   heap:=zbf s.heap e.hp }
def zbY (cs:List V) (s:St):List (Nat×Nat×Opd)->Option (List V)
 | []=>some cs
 | (off,n,x)::r=>do
   let v<- evl G s x
   let new<- v.cells
   if new.length=n then
    let cs<- wr cs off new
    zbY cs s r
   else none
def zcH (rs:List (List V)) (sz:Nat) (s:St):List (Nat×Opd)->Option (List (List V))
 | []=>some rs
 | (i,x)::r=>do
   let v<- evl G s x
   let new<- v.cells
   if new.length=sz/\i<rs.length then zcH (rs.set i new) sz s r else none
def zew (s:St) (d:Nat):Option Opd->Option Int
 | none=>some d
 | some x=>zex G s x
def zsq:V->Option T
 | .t (.int k n)=>some (.int k n)
 | .t (.bool b)=>some (.bool b)
 | .t (.str b)=>some (.str b)
 | _=>none
def zg2:List V->Option (List T)
 | []=>some []
 | x::r=>do
   let t<- zsq x
   let ts<- zg2 r
   some (t::ts)
def T.kindN:T->Nat
 | .int _ _=>0
 | .bool _=>1
 | _=>2
def zjh:List Nat->Nat
 | []=>0
 | k::r=>k+1+4*zjh r
def zj1 (kd:Nat):V->Option T
 | .t (.int k n)=>if kd=0 then some (.int k n)else none
 | .t (.bool b)=>if kd=1 then some (.bool b)else none
 | .t (.str b)=>if kd=2 then some (.str b)else none
 | .agg cs=>(zg2 cs).bind fun ts=>if kd=3+zjh (ts.map T.kindN)then some (.sl [ts])else none
 | _=>none
def zsp:T->T->Option Bool
 | .int k a,.int k' b=>if k=k' then some (a==b)else none
 | .str a,.str b=>some (a==b)
 | .bool a,.bool b=>some (a==b)
 | _,_=>none
def zfw:List T->List T->Option Bool
 | [],[]=>some true
 | x::xs,y::ys=>do
   let b<- zsp x y
   let r<- zfw xs ys
   some (b&&r)
 | _,_=>none
def zeu:T->T->Option Bool
 | .int k a,.int k' b=>if k=k' then some (a==b)else none
 | .str a,.str b=>some (a==b)
 | .bool a,.bool b=>some (a==b)
 | .sl [a],.sl [b]=>zfw a b
 | _,_=>none
def zbo (k:T):List (T×V)->Option (Option V)
 | []=>some none
 | (k',v)::r=>match zeu k k' with
   | none=>none
   | some true=>some (some v)
   | some false=>zbo k r
def zbF (k:T) (v:V):List (T×V)->Option (List (T×V))
 | []=>some [(k,v)]
 | (k',v')::r=>match zeu k k' with
   | none=>none
   | some true=>some ((k,v)::r)
   | some false=>(zbF k v r).map ((k',v'):: ·)
def T.norm:T->T
 | .nils=> .sl []
 | x=>x
def zeF:List V->Option (List T)
 | []=>some []
 | .t x::r=>(zeF r).map (x.norm:: ·)
 | _=>none
def zqq (f:Nat) (a b:List V):Option V:=
 if a.all V.isCell/\b.all V.isCell then some (.fn f a b)
 else match a,b with
  | [.agg cs],[]=>(zeF cs).map fun ts=> .t (.fa f ts)
  | _,_=>none
def zbU {α:Type} (a b rs:List α):List α:=if rs.length<=a.length+b.length then a++b else a++b++rs.drop (a.length+b.length)
def bytesOf:List (List V)->Option (List UInt8)
 | []=>some []
 | [.t (.int .u8 z)]::r=>if 0<=z/\z<256 then(bytesOf r).map (UInt8.ofNat z.toNat:: ·)else none
 | _=>none
def zmn (sz:Nat) (v:V) (l h m:Int) (n:Nat):V:=match v with
 | .t (.sl es)=>if l=0/\h=n/\m=n/\es.all (·.length=sz)then .t (.slc es)else if l=0/\h=m then .t (.sl (es.take h.toNat))else .lb
 | _=> .lb
def zaj (p:Nat) (s:St):AOp->Option Eff
 | .mv x=>do
   let v<- evl G s x
   some { val:=v }
 | .pick c a b=>do
   let t<- zd5 G s c
   let v<- evl G s (if t then a else b)
   some { val:=v }
 | .allocL cells=>some { val:=.lb,loc:=some cells }
 | .allocH cells=>some { val:=.mp (s.bas+p) 0 0,hp:=[(s.bas+p,.rows cells.length [cells] false)] }
 | .allocB=>some { val:=.mp (s.bas+p) 0 0,hp:=[(s.bas+p,.raw (.bld none))] }
 | .boxL n x=>do
   let v<- evl G s x
   let cs<- v.cells
   if cs.length=n then some { val:=.lb,loc:=some cs }else none
 | .boxH n x=>do
   let v<- evl G s x
   let cs<- v.cells
   if cs.length=n then some { val:=.mp (s.bas+p) 0 0,hp:=[(s.bas+p,.rows n [cs] false)] }else none
 | .build zero parts=>do
   let cs<- zbY G zero s parts
   some { val:=.agg cs }
 | .bslice sz len zero parts=>do
   let rs<- zcH G (List.replicate len zero) sz s parts
   some { val:=.ms (s.bas+p) 0 len,hp:=[(s.bas+p,.rows sz rs false)] }
 | .lit sz len zero parts=>do
   let rs<- zcH G (List.replicate len zero) sz s parts
   let ts<- rs.mapM zeF
   some { val:=.t (.sl ts) }
 | .loadL ag n a=>do
   let(b,off)<- zd8 s a
   let cs<- s.loc b
   let r<- rd cs off n
   let v<- zb9 ag r
   some { val:=v }
 | .load ag n a=>do
   match <- evl G s a with
   | .mp k i off=>match s.heap k with
     | some (.rows _ rs _)=>do
       let row<- rs[i]?
       let r<- rd row off n
       let v<- zb9 ag r
       some { val:=v }
     | _=>none
   | .t (.ip cs)=>do
     let r<- rd cs 0 n
     let v<- zb9 ag (r.map V.t)
     some { val:=v }
   | _=>none
 | .storeL n a x=>do
   let(b,off)<- zd8 s a
   let cs<- s.loc b
   let v<- evl G s x
   let new<- v.cells
   if new.length=n then
    let cs'<- wr cs off new
    some { wloc:=some (b,cs') }
   else none
 | .store n a x=>do
   match <- evl G s a with
   | .mp k i off=>match s.heap k with
     | some (.rows sz rs false)=>do
       let row<- rs[i]?
       let v<- evl G s x
       let new<- v.cells
       if new.length=n then
        let row'<- wr row off new
        some { hp:=[(k,.rows sz (rs.set i row') false)] }
       else none
     | _=>none
   | _=>none
 | .nilchk x=>do
   match <- evl G s x with
   | .mp k i off=>match s.heap k with
     | some (.rows _ _ _)=>some { val:=.mp k i off }
     | _=>none
   | .t (.ip cs)=>some { val:=.t (.ip cs) }
   | .fn f a b=>some { val:=.fn f a b }
   | .t (.fn f a b)=>some { val:=.t (.fn f a b) }
   | .t (.fa f c)=>some { val:=.t (.fa f c) }
   | _=>none
 | .bin op x y=>do
   match <- evl G s x,<- evl G s y with
   | .t a,.t b=>do
     let r<- zvs op a b
     some { val:=.t r }
   | _,_=>none
 | .eqb neg x y=>do
   let a<- zd5 G s x
   let b<- zd5 G s y
   some { val:=.t (.bool ((a==b) != neg)) }
 | .eqa neg ks x y=>do
   match <- evl G s x,<- evl G s y with
   | .agg a,.agg b=>do
     let r<- zbh ks a b
     some { val:=.t (.bool (r != neg)) }
   | _,_=>none
 | .mx mn x y=>do
   match <- evl G s x,<- evl G s y with
   | .t a,.t b=>do
     let r<- mxT mn a b
     some { val:=.t r }
   | _,_=>none
 | .un op x=>do
   match <- evl G s x with
   | .t a=>do
     let r<- unT op a
     some { val:=.t r }
   | _=>none
 | .conv k x=>do
   let n<- zex G s x
   some { val:=.t (.int k (k.wrap n)) }
 | .mkfn f first cap=>do
   let a<- zgE G s first
   let b<- zgE G s cap
   let v<- zqq f a b
   some { val:=v }
 | .mkfnT f x=>do
   let v<- evl G s x
   match v with
   | .mp k i off=>
     match s.heap k with
     | some (.rows sz [row] _)=>if i=0/\off=0 then(zeF row).bind fun ts=>some ({ val:=.t (.fn f [] [.ip ts]),hp:=[(k,.rows sz [row] true)] }:Eff)else none
     | _=>none
   | _=>none
 | .boxA n x=>do
   let v<- evl G s x
   let cs<- v.cells
   if cs.length=n/\0<n then some { val:=.mp (s.bas+p) 0 0,hp:=[(s.bas+p,.rows 1 (cs.map fun c=>[c]) false)] }else none
 | .allocA cells=>if 0<cells.length then some { val:=.mp (s.bas+p) 0 0,hp:=[(s.bas+p,.rows 1 (cells.map fun c=>[c]) false)] }else none
 | .storeA n a x=>do
   match <- evl G s a with
   | .mp k 0 0=>match s.heap k with
     | some (.rows 1 rs false)=>do
       let v<- evl G s x
       let new<- v.cells
       if new.length=n/\rs.length=n then some { hp:=[(k,.rows 1 (new.map fun c=>[c]) false)] }else none
     | _=>none
   | _=>none
 | .slicA n x lo hi=>do
   match <- evl G s x with
   | .mp k 0 0=>match s.heap k with
     | some (.rows 1 rs _)=>do
       let h<- zew G s n hi
       let l<- zew G s 0 lo
       if 0<=l/\l<=h/\h<=n/\rs.length=n then some { val:=.ms k l.toNat (h-l).toNat }else none
     | _=>none
   | _=>none
 | .mkif k x=>do
   let v<- evl G s x
   if v.isCell then some { val:=.ifc k v }else none
 | .tassert k zero ok x=>do
   match <- evl G s x with
   | .ifc k' v=>if k'=k then some { val:=if ok then .tup [v,.t (.bool true)]else v }else none
   | .t .nili=>if ok then some { val:=.tup [zero,.t (.bool false)] }else none
   | _=>none
 | .mkslice sz bytes zero l c=>do
   let n<- zex G s l
   let m<- zex G s c
   if 0<=n/\n<=m/\m<=2^32/\bytes<=2^12/\zero.length=sz then
    some { val:=.ms (s.bas+p) 0 n.toNat,hp:=[(s.bas+p,.rows sz (List.replicate n.toNat zero) false)] }
   else none
 | .slice sz x lo hi mx=>do
   let v<- evl G s x
   let n<- lenOf s v
   let h<- zew G s n hi
   let l<- zew G s 0 lo
   match mx with
   | none=>
     if 0<=l/\l<=h/\h<=n then
      match v with
      | .t .nils=>some { val:=.t .nils }
      | .t (.sl es)=>if es.all (·.length=sz)then some { val:=.t (.sl ((es.drop l.toNat).take (h-l).toNat)) }else none
      | .ms k i _=>match s.heap k with
        | some (.rows sz' _ _)=>if sz'=sz then some { val:=.ms k (i+l.toNat) (h-l).toNat }else none
        | _=>none
      | _=>none
     else
      match v with
      | .ms k i _=>match s.heap k with
        | some (.rows sz' rs _)=>if sz'=sz/\0<=l/\l<=h/\(i:Int)+h<=rs.length then some { val:=.ms k (i+l.toNat) (h-l).toNat }else none
        | _=>none
      | _=>none
   | some m=>do
     let m<- zex G s m
     if l=0/\h=0/\m=0/\hi.isSome then
      match v with
      | .t .nils=>some { val:=.t .nils }
      | .t (.sl [])=>some { val:=.t (.slc []) }
      | .t (.sl (_::_))=>some { val:=.t .nils }
      | .ms _ _ _=>some { val:=.t .nils }
      | _=>none
     else if 0<=l/\l<=h/\h<=m/\m<=n/\hi.isSome then some { val:=zmn sz v l h m n }else none
 | .slstr x lo hi=>do
   match <- evl G s x with
   | .t (.str b)=>do
     let h<- zew G s b.size hi
     let l<- zew G s 0 lo
     if 0<=l/\l<=h/\h<=b.size then some { val:=.t (.str (b.extract l.toNat h.toNat)) }else none
   | _=>none
 | .faddrL off x=>do
   let(b,o)<- zd8 s x
   let _<- s.loc b
   some { val:=.lb,adr:=some (b,o+off) }
 | .faddr off x=>do
   match <- evl G s x with
   | .mp k i o=>match s.heap k with
     | some (.rows _ _ _)=>some { val:=.mp k i (o+off) }
     | _=>none
   | .t (.ip cs)=>some { val:=.t (.ip (cs.drop off)) }
   | _=>none
 | .field ag off n x=>do
   match <- evl G s x with
   | .agg cs=>do
     let r<- rd cs off n
     let v<- zb9 ag r
     some { val:=v }
   | _=>none
 | .iaddrS sz x i=>do
   let n<- zex G s i
   match <- evl G s x with
   | .t (.sl es)=>
     if 0<=n then(es[n.toNat]?).bind fun row=>if row.length=sz then some { val:=.t (.ip row) }else none
     else none
   | .t (.slc es)=>
     if 0<=n then(es[n.toNat]?).bind fun row=>if row.length=sz then some { val:=.t (.ip row) }else none
     else none
   | .ms k j len=>match s.heap k with
     | some (.rows sz' _ _)=>if 0<=n/\n<len/\sz'=sz then some { val:=.mp k (j+n.toNat) 0 }else none
     | _=>none
   | _=>none
 | .iaddrAL len sz x i=>do
   let n<- zex G s i
   let(b,o)<- zd8 s x
   let _<- s.loc b
   if 0<=n/\n<len then some { val:=.lb,adr:=some (b,o+n.toNat*sz) }else none
 | .iaddrA len sz x i=>do
   let n<- zex G s i
   if 0<=n/\n<len then
    match <- evl G s x with
    | .mp k j o=>match s.heap k with
      | some (.rows _ _ _)=>some { val:=.mp k j (o+n.toNat*sz) }
      | _=>none
    | .t (.ip cs)=>some { val:=.t (.ip (cs.drop (n.toNat*sz))) }
    | _=>none
   else none
 | .idxA ag len sz x i=>do
   let n<- zex G s i
   match <- evl G s x with
   | .agg cs=>
     if 0<=n/\n<len then(rd cs (n.toNat*sz) sz).bind fun r=>(zb9 ag r).bind fun v=>some { val:=v }
     else none
   | _=>none
 | .idxS x i=>do
   let n<- zex G s i
   match <- evl G s x with
   | .t (.str b)=>
     if 0<=n then(b[n.toNat]?).bind fun c=>some { val:=.t (.int .u8 c.toNat) }
     else none
   | _=>none
 | .bstr x=>do
   let v<- evl G s x
   let rs<- zdw s v
   let l<- bytesOf rs
   some { val:=.t (.str ⟨l.toArray⟩) }
 | .extr x i=>do
   match <- evl G s x with
   | .tup cs=>do
     let v<- cs[i]?
     some { val:=v }
   | _=>none
 | .len x=>do
   let v<- evl G s x
   let n<- lenOf s v
   some { val:=.t (.int .i64 n) }
 | .slen x=>do
   match <- evl G s x with
   | .t (.str b)=>some { val:=.t (.int .i64 b.size) }
   | _=>none
 | .lenA n=>some { val:=.t (.int .i64 n) }
 | .capN x=>do
   match <- evl G s x with
   | .t .nils=>some { val:=.t (.int .i64 0) }
   | _=>none
 | .appz sz bytes zero x l=>do
   let n<- zex G s l
   match <- evl G s x with
   | .t .nils=>
     if 1<=n/\n<=2^32/\bytes<=2^12/\zero.length=sz then
      some { val:=.ms (s.bas+p) 0 n.toNat,hp:=[(s.bas+p,.rows sz (List.replicate n.toNat zero) false)] }
     else none
   | _=>none
 | .stop=>none
 | .append sz bytes x y=>do
   let u<- evl G s x
   let v<- evl G s y
   let a<- zdw s u
   let b<- zdw s v
   if(a.length+b.length<=2^32/\bytes<=2^12)/\b.all (·.length=sz)/\a.all (·.length=sz)then
    if b.isEmpty then some { val:=u }
    else
     match u with
     | .t .nils=>some { val:=.ms (s.bas+p) 0 b.length,hp:=[(s.bas+p,.rows sz b false)] }
     | .t (.slc _)=>((a++b).mapM zeF).bind fun ts=>some { val:=.t (.sl ts) }
     | .ms k i _=>match s.heap k with
       | some (.rows sz' rs false)=>
         if sz'=sz/\i=0 then some { val:=.ms (s.bas+p) 0 (a.length+b.length),hp:=[(k,.dead),(s.bas+p,.rows sz (zbU a b rs) false)] }else none
       | _=>none
     | _=>none
   else none
 | .copy sz x y=>do
   let u<- evl G s x
   let v<- evl G s y
   let b<- zdw s v
   match u with
   | .t .nils=>some { val:=.t (.int .i64 0) }
   | .ms k i len=>match s.heap k with
     | some (.rows sz' rs false)=>
       if sz'=sz/\b.all (·.length=sz)then
        (wr rs i (b.take len)).bind fun rs'=>some { val:=.t (.int .i64 (min b.length len:Nat)),hp:=[(k,.rows sz rs' false)] }
       else none
     | _=>none
   | _=>none
 | .clear sz zero x=>do
   let u<- evl G s x
   match u with
   | .t .nils=>some { val:=.tup [] }
   | .ms k i len=>match s.heap k with
     | some (.rows sz' rs false)=>
       if sz'=sz/\zero.length=sz then
        (wr rs i (List.replicate len zero)).bind fun rs'=>some { val:=.tup [],hp:=[(k,.rows sz rs' false)] }
       else none
     | _=>none
   | _=>none
 | .mkmap=>some { val:=.mm (s.bas+p),hp:=[(s.bas+p,.map [])] }
 | .lookup kd zero ok m k=>do
   let x<- evl G s k
   let key<- zj1 kd x
   let es<- (match <- evl G s m with
    | .t .nilm=>some []
    | .mm j=>match s.heap j with
      | some (.map es)=>some es
      | _=>none
    | _=>none)
   let r<- zbo key es
   if ok then some { val:=.tup [r.getD zero,.t (.bool r.isSome)] }else some { val:=r.getD zero }
 | .mapupd kd m k v=>do
   let x<- evl G s k
   let key<- zj1 kd x
   let u<- evl G s v
   match <- evl G s m with
   | .mm j=>match s.heap j with
     | some (.map es)=>do
       let es'<- zbF key u es
       if u.one then some { hp:=[(j,.map es')] }else none
     | _=>none
   | _=>none
 | .call _ _ _=>none
 | .fcall _ _=>none
end
def toT (h:Nat->Option O):Nat->V->Option T
 | _,.t x=>some x.norm
 | d+1,.ms k i len=>match h k with
   | some (.rows _ rs _)=>do
     let r<- rd rs i len
     let es<- r.mapM (fun row=>row.mapM (toT h d))
     some (.sl es)
   | _=>none
 | d+1,.mp k i off=>match h k with
   | some (.rows _ rs _)=>do
     let row<- rs[i]?
     let cs<- (row.drop off).mapM (toT h d)
     some (.ip cs)
   | _=>none
 | d+1,.fn f a b=>do
   let a'<- a.mapM (toT h d)
   let b'<- b.mapM (toT h d)
   some (.fn f a' b')
 | _+1,.mm k=>match h k with
   | some (.map _)=>some .opq
   | _=>none
 | _,_=>none
def toT1 (h:Nat->Option O):V->Option V
 | .agg cs=>(cs.mapM (toT h 1000)).map fun ts=> .agg (ts.map V.t)
 | v=>(toT h 1000 v).map V.t
def reify (h:Nat->Option O):V->Option V
 | .tup cs=>(cs.mapM (toT1 h)).map V.tup
 | v=>toT1 h v
def reach (h:Nat->Option O):Nat->V->List Nat
 | d+1,.ms k _ _=>k::(match h k with | some (.rows _ rs _)=>rs.flatMap (·.flatMap (reach h d)) | _=>[])
 | d+1,.mp k _ _=>k::(match h k with | some (.rows _ rs _)=>rs.flatMap (·.flatMap (reach h d)) | _=>[])
 | d+1,.fn _ a b=>a.flatMap (reach h d)++b.flatMap (reach h d)
 | _,_=>[]
def zba (h:Nat->Option O):V->List Nat
 | .agg cs=>cs.flatMap (reach h 1000)
 | v=>reach h 1000 v
def T.scalar:T->Bool
 | .sl []=>true
 | .sl _ | .ip _ | .fn _ _ _ | .fa _ _ | .slc _=>false
 | _=>true
def V.scalar1:V->Bool
 | .t x=>x.scalar
 | _=>false
def V.scalar2:V->Bool
 | .agg cs=>cs.all V.scalar1
 | v=>v.scalar1
def V.scalar:V->Bool
 | .tup cs=>cs.all V.scalar2
 | v=>v.scalar2
def freezes (h:Nat->Option O) (l:List Nat):List (Nat×O):=
 l.filterMap fun k=>match h k with
  | some (.rows sz rs _)=>some (k,.rows sz rs true)
  | _=>none
def St.begin (s:St) (n:Nat):St:=
 { s with adr:=fun _=>none,used:=fun _=>false,bas:=s.nxt,nxt:=s.nxt+n }
def zfz (args:List V):Nat->V:=fun t=>args.getD t .undef
def St.init (args:List V) (h:Nat->Option O) (n:Nat):St:=
 { env:=zfz args,loc:=fun _=>none,adr:=fun _=>none,used:=fun _=>false,heap:=h,nxt:=n,bas:=n }
def zer (s:St):Res->Option V
 | .s t=>match s.env t with
   | .undef=>none
   | .lb=>none
   | .tup _=>none
   | v=>some v
 | .l t ag n=>do
   let cs<- s.loc t
   let r<- rd cs 0 n
   zb9 ag r
 | .h t ag n=>match s.env t with
   | .mp k i off=>match s.heap k with
     | some (.rows _ rs _)=>do
       let row<- rs[i]?
       let r<- rd row off n
       zb9 ag r
     | _=>none
   | _=>none
def zeM (s:St) (rs:List Res):Option V:=do
 let vs<- rs.mapM (zer s)
 match vs with
 | [v]=>some v
 | vs=>some (.tup vs)
def zfC:V->Option (Nat×List V×List V)
 | .fn f a b=>some (f,a,b)
 | .t (.fn f a b)=>some (f,a.map V.t,b.map V.t)
 | .t (.fa f c)=>some (f,[.agg (c.map V.t)],[])
 | _=>none
def zd2:List (List V)->Option (List Int)
 | []=>some []
 | [.t (.int .i64 z)]::r=>(zd2 r).map (z:: ·)
 | _=>none
def za9 (l:List Int):List (List V):=l.map fun z=>[.t (.int .i64 z)]
def zia (h:Nat->Option O) (n k:Nat) (new:List UInt8):Option ((Nat->Option O)×Nat):=match h k with
 | some (.raw (.bld none))=>if new.length<=140737488355328 then
    if new=[]then some (h,n)else some (upd (upd h n (some (.raw (.buf new)))) k (some (.raw (.bld (some n)))),n+1)else none
 | some (.raw (.bld (some g)))=>match h g with
   | some (.raw (.buf l))=>if l.length+new.length<=140737488355328 then some (upd (upd (upd h g (some .dead)) n (some (.raw (.buf (l++new))))) k (some (.raw (.bld (some n)))),n+1)else none
   | _=>none
 | _=>none
def zd3 (e:Ext) (args:List V) (h:Nat->Option O) (n:Nat):Option (V×(Nat->Option O)×Nat):=match e,args with
 | .sortI,[.t .nils]=>some (.tup [],h,n)
 | .sortI,[.ms k 0 len]=>match h k with
   | some (.rows 1 rs false)=>(zd2 rs).bind fun zs=>if zs.length=len/\len<1099511627776 then some (.tup [],upd h k (some (.rows 1 (za9 (zs.mergeSort fun x y=>decide (x<=y))) false)),n)else none
   | _=>none
 | .compactI,[.t .nils]=>some (.t (.sl []),h,n)
 | .compactI,[.ms k 0 len]=>match h k with
   | some (.rows 1 rs false)=>(zd2 rs).bind fun zs=>if zs.length=len/\len<1099511627776 then some (.t (.sl ((Go.Lib.compact zs).map fun z=>[.int .i64 z])),upd h k (some (.rows 1 (za9 (Go.Lib.compact zs++List.replicate (zs.length-(Go.Lib.compact zs).length) 0)) true)),n)else none
   | _=>none
 | .cloneI,[.t .nils]=>some (.t (.sl []),h,n)
 | .cloneI,[.t (.sl [])]=>some (.t (.sl []),h,n)
 | .cloneI,[.t (.sl es)]=>(zd2 (es.map (·.map V.t))).bind fun zs=>if zs.length<1099511627776 then some (.ms n 0 zs.length,upd h n (some (.rows 1 (za9 zs) false)),n+1)else none
 | .bldS,[.mp k 0 0,.t (.str s)]=>(zia h n k s.data.toList).map fun(h',n')=>(.tup [.t (.int .i64 s.size),.t .nili],h',n')
 | .bldB,[.mp k 0 0,.t (.int .u8 z)]=>if 0<=z/\z<256 then(zia h n k [UInt8.ofNat z.toNat]).map fun(h',n')=>(.t .nili,h',n')else none
 | .bldG,[.mp k 0 0]=>match h k with
   | some (.raw (.bld none))=>some (.t (.str ⟨#[]⟩),upd h k (some .dead),n)
   | some (.raw (.bld (some g)))=>match h g with
     | some (.raw (.buf l))=>some (.t (.str ⟨l.toArray⟩),upd (upd h g (some .dead)) k (some .dead),n)
     | _=>none
   | _=>none
 | _,_=>none
def zhK:List (List T)->Option (List ByteArray)
 | []=>some []
 | [.str s]::r=>(zhK r).map (s:: ·)
 | _=>none
def zBL (z:Int):ByteArray:=⟨(Go.Lib.itoa z).toArray⟩
def zn7 (l:List ByteArray) (sep:ByteArray):ByteArray:=⟨(Go.Lib.join (l.map (·.data.toList)) sep.data.toList).toArray⟩
def zev (e:Ext) (args:List V):Option V:=match e,args with
 | .itoa,[.t (.int .i64 z)]=>if -9223372036854775808<=z/\z<=9223372036854775807 then some (.t (.str (zBL z)))else none
 | .cloneT _,[.t .nils]=>some (.t (.sl []))
 | .cloneT sz,[.t (.sl es)]=>if es.length<4294967296/\es.all (fun e=>decide (e.length=sz))=true then some (.t (.sl es))else none
 | .cloneT sz,[.t (.slc es)]=>if es.length<4294967296/\es.all (fun e=>decide (e.length=sz))=true then some (.t (.sl es))else none
 | .joinS,[.t (.sl es),.t (.str sep)]=>(zhK es).bind fun l=>if l.length<=140737488355328/\(zn7 l sep).size<=140737488355328 then some (.t (.str (zn7 l sep)))else none
 | .cutS,[.t (.str s),.t (.str sep)]=>if s.size<4294967281 then some (.tup [.t (.str ⟨(Go.Lib.cut s.data.toList sep.data.toList).1.toArray⟩),.t (.str ⟨(Go.Lib.cut s.data.toList sep.data.toList).2.1.toArray⟩),.t (.bool (Go.Lib.cut s.data.toList sep.data.toList).2.2)])else none
 | _,_=>none
def zcs (s:St):Option (Nat×Bool)->Option Bool
 | none=>some true
 | some (g,want)=>match s.env g with
   | .t (.bool b)=>some (b==want)
   | .undef=>some false
   | _=>none
def V.isTr:V->Bool
 | .t _=>true
 | _=>false
def zqm (key:Nat) (r:V) (h:Nat->Option O):Option Eff:=
 match r with
 | .t .nils=>some { val:=.t .nils }
 | .t (.sl [])=>some { val:=.t (.sl []) }
 | .ms k i n=>match h k with
   | some (.rows sz rs false)=>if i=0/\n=rs.length/\rs.all (fun row=>row.all V.isTr)=true then some { val:=.ms key 0 n,hp:=[(key,.rows sz rs false)] }else none
   | _=>none
 | .mp k i off=>match h k with
   | some (.rows sz rs false)=>if i=0/\off=0/\rs.all (fun row=>row.all V.isTr)=true then some { val:=.mp key 0 0,hp:=[(key,.rows sz rs false)] }else none
   | _=>none
 | _=>none
def zhB:(Nat->V)->List Nat->List V->Nat->V
 | env,t::ts,v::vs=>zhB (upd env t v) ts vs
 | env,_,_=>env
def zht (h:Nat->Option O) (n:Nat) (k:Nat) (env:Nat->V) (ps:List Nat) (bd:C) (vs:List V):St:=
 { env:=zhB env ps vs,loc:=fun _=>none,adr:=fun _=>none,used:=fun _=>false,heap:=upd h k (some (.loop env ps bd .enter)),nxt:=n,bas:=n }
inductive Task where
 | code (c:C) (s:St)
 | loop (b:C) (s:St)
 | ops (draw:Bool) (p:Nat) (l:List ROp) (s:St)
 | pcall (f:Nat) (args:List V)
 | rcall (f:Nat) (args:List V) (h:Nat->Option O) (n:Nat)
inductive Out where
 | code (e:Ex) (s:St)
 | ops (s:St)
 | val (v:V)
 | vals (v:V) (h:Nat->Option O) (n:Nat)
def St.free (s:St) (dst:Option Nat) (e:Eff):Prop:= ∀d,dst=some d->s.used d=false/\ ∀b o,e.adr=some (b,o)->b≠d
def AOp.opds:AOp->List Opd
 | .mv x | .boxL _ x | .boxH _ x | .loadL _ _ x | .load _ _ x | .nilchk x | .un _ x | .conv _ x | .faddrL _ x | .faddr _ x | .field _ _ _ x | .extr x _ | .len x | .slen x | .capN x | .bstr x | .clear _ _ x | .mkfnT _ x | .boxA _ x | .mkif _ x | .tassert _ _ _ x=>[x]
 | .pick c a b=>[c,a,b]
 | .allocL _ | .allocH _ | .allocA _ | .allocB | .lenA _ | .mkmap | .stop=>[]
 | .build _ ps=>ps.map (·.2.2)
 | .bslice _ _ _ ps=>ps.map (·.2)
 | .lit _ _ _ ps=>ps.map (·.2)
 | .storeL _ a v | .store _ a v | .storeA _ a v | .bin _ a v | .mx _ a v | .eqb _ a v | .eqa _ _ a v | .mkslice _ _ _ a v | .appz _ _ _ a v | .iaddrS _ a v | .iaddrAL _ _ a v | .iaddrA _ _ a v | .idxA _ _ _ a v | .idxS a v | .append _ _ a v | .copy _ a v | .lookup _ _ _ a v=>[a,v]
 | .mkfn _ a b=>a++b
 | .slice _ x l h m=>x::(l.toList++h.toList++m.toList)
 | .slstr x l h=>x::(l.toList++h.toList)
 | .slicA _ x l h=>x::(l.toList++h.toList)
 | .mapupd _ a b v=>[a,b,v]
 | .call _ f as=>f::as
 | .fcall f as=>f::as
def V.top:V->List Nat
 | .ms k _ _=>[k]
 | .mp k _ _=>[k]
 | .mm k=>[k]
 | _=>[]
def AOp.looks:AOp->Bool
 | .load _ _ _ | .nilchk _ | .faddr _ _ | .iaddrS _ _ _ | .slice _ _ _ _ _ | .len _=>true
 | _=>false
def AOp.wopd:AOp->List Opd
 | .store _ a _=>[a]
 | .append _ _ a _=>[a]
 | _=>[]
def zid (G:Nat->List T) (s:St) (l:List Opd):List Nat:=l.flatMap fun x=>match evl G s x with | some v=>v.top | none=>[]
def sep (G:Nat->List T) (s:St) (a b:ROp):Bool:=
 if a.op.looks then(zid G s a.op.opds).all fun k=> !(zid G s b.op.wopd).contains k
 else(zid G s b.op.opds).all fun k=> !(zid G s a.op.wopd).contains k
def zgO (G:Nat->List T) (s:St) (l:List ROp) (ck:List (Nat×Nat)):Bool:=
 ck.all fun x=>match l[x.1]?,l[x.2]? with
  | some a,some b=>sep G s a b
  | _,_=>false
inductive Big (Γ:Nat->Option F) (G:Nat->List T):Task->Out->Prop where
 | skip {s:St}:Big Γ G (.code .skip s) (.code .normal s)
 | ret {s:St}:Big Γ G (.code .ret s) (.code .ret s)
 | exit {s:St} {id:Nat}:Big Γ G (.code (.exit id) s) (.code (.exit id) s)
 | region {s s':St} {d:Bool} {l:List ROp} (h:Big Γ G (.ops d 0 l (s.begin l.length)) (.ops s')):Big Γ G (.code (.region d l) s) (.code .normal s')
 | regionD {s s':St} {ck:List (Nat×Nat)} {l:List ROp} (h:Big Γ G (.ops true 0 l (s.begin l.length)) (.ops s')) (hc:zgO G s' l ck=true):
    Big Γ G (.code (.regionD ck l) s) (.code .normal s')
 | seqN {s s1 s2:St} {a b:C} {e:Ex} (h1:Big Γ G (.code a s) (.code .normal s1)) (h2:Big Γ G (.code b s1) (.code e s2)):
    Big Γ G (.code (.seq a b) s) (.code e s2)
 | seqX {s s1:St} {a b:C} {e:Ex} (h1:Big Γ G (.code a s) (.code e s1)) (he:e≠ .normal):Big Γ G (.code (.seq a b) s) (.code e s1)
 | cond {s s1:St} {c:Opd} {a b:C} {e:Ex} {t:Bool} (hc:zd5 G s c=some t) (h:Big Γ G (.code (if t then a else b) s) (.code e s1)):
    Big Γ G (.code (.cond c a b) s) (.code e s1)
 | block {s s1:St} {id:Nat} {b:C} {e:Ex} (h:Big Γ G (.code b s) (.code e s1)):
    Big Γ G (.code (.block id b) s) (.code (if e= .exit id then .normal else e) s1)
 | loop {s s1:St} {b:C} {e:Ex} (h:Big Γ G (.loop b s) (.code e s1)):Big Γ G (.code (.loop b) s) (.code e s1)
 | loopN {s s1 s2:St} {b:C} {e:Ex} (h1:Big Γ G (.code b s) (.code .normal s1)) (h2:Big Γ G (.loop b s1) (.code e s2)):
    Big Γ G (.loop b s) (.code e s2)
 | loopX {s s1:St} {b:C} {e:Ex} (h1:Big Γ G (.code b s) (.code e s1)) (he:e≠ .normal):Big Γ G (.loop b s) (.code e s1)
 | opsNil {d:Bool} {p:Nat} {s:St}:Big Γ G (.ops d p [] s) (.ops s)
 | opsSkip {d:Bool} {p:Nat} {s s':St} {o:ROp} {l:List ROp} (hw:zcs s o.guard=some false) (hf:s.free o.dst {})
    (h:Big Γ G (.ops d (p+1) l (s.apply o.dst {})) (.ops s')):Big Γ G (.ops d p (o::l) s) (.ops s')
 | opsEff {d:Bool} {p:Nat} {s s':St} {o:ROp} {l:List ROp} {e:Eff} (hw:zcs s o.guard=some true) (hf:s.free o.dst e)
    (he:zaj G p s o.op=some e) (h:Big Γ G (.ops d (p+1) l (s.apply o.dst e)) (.ops s')):Big Γ G (.ops d p (o::l) s) (.ops s')
 | opsPure {d:Bool} {p:Nat} {s s':St} {o:ROp} {l:List ROp} {f:Opd} {args:List Opd} {fv:V} {g:Nat} {a b vs rs:List V} {fn:F} {r:V}
    (hw:zcs s o.guard=some true) (hf:s.free o.dst {}) (ho:o.op= .call false f args) (As:evl G s f=some fv) (Ax:zfC fv=some (g,a,b))
    (hg:Γ g=some fn) (hr:fn.raw=false) (Au:zgE G s args=some vs) (AD:(a++vs++b).mapM (toT1 s.heap)=some rs)
    (hc:Big Γ G (.pcall g rs) (.val r)) (hd:d=true->r.scalar=true\/(a++vs++b).flatMap (zba s.heap)=[])
    (h:Big Γ G (.ops d (p+1) l (s.apply o.dst { val:=r,hp:=if r.scalar then []else freezes s.heap ((a++vs++b).flatMap (zba s.heap)) })) (.ops s')):
    Big Γ G (.ops d p (o::l) s) (.ops s')
 | opsRaw {d:Bool} {p:Nat} {s s':St} {o:ROp} {l:List ROp} {f:Opd} {args:List Opd} {fv:V} {g:Nat} {a b vs:List V} {fn:F} {r:V} {h':Nat->Option O} {n':Nat}
    (hw:zcs s o.guard=some true) (hf:s.free o.dst {}) (ho:o.op= .call true f args) (As:evl G s f=some fv) (Ax:zfC fv=some (g,a,b))
    (hg:Γ g=some fn) (hr:True) (Au:zgE G s args=some vs)
    (hc:Big Γ G (.rcall g (a++vs++b) s.heap s.nxt) (.vals r h' n'))
    (h:Big Γ G (.ops d (p+1) l ({ s with heap:=h',nxt:=n' }.apply o.dst { val:=r })) (.ops s')):Big Γ G (.ops d p (o::l) s) (.ops s')
 | opsFresh {d:Bool} {p:Nat} {s s':St} {o:ROp} {l:List ROp} {f:Opd} {args:List Opd} {fv:V} {g:Nat} {a b vs rs:List V} {fn:F} {r:V} {h':Nat->Option O} {n':Nat} {e:Eff}
    (hw:zcs s o.guard=some true) (hf:s.free o.dst {}) (ho:o.op= .fcall f args) (As:evl G s f=some fv) (Ax:zfC fv=some (g,a,b))
    (hg:Γ g=some fn) (hr:True) (Au:zgE G s args=some vs) (AD:(a++vs++b).mapM (toT1 s.heap)=some rs) (hd:(a++vs++b).flatMap (zba s.heap)=[])
    (hc:Big Γ G (.rcall g rs (fun _=>none) 0) (.vals r h' n')) (he:zqm (s.bas+p) r h'=some e)
    (h:Big Γ G (.ops d (p+1) l (s.apply o.dst e)) (.ops s')):Big Γ G (.ops d p (o::l) s) (.ops s')
 | rangeF {s:St} {x:Opd} {ps:List Nat} {bd bd':C} {fv:V} {g:Nat} {a b:List V} {fn:F} {r:V} {h':Nat->Option O} {n':Nat} {env':Nat->V} {ps':List Nat} {st:LSt} {e:Ex}
    (As:evl G s x=some fv) (Ax:zfC fv=some (g,a,b)) (hg:Γ g=some fn) (hr:True)
    (hc:Big Γ G (.rcall g (a++[.yl s.nxt]++b) (upd s.heap s.nxt (some (.loop s.env ps bd .ready))) (s.nxt+1)) (.vals r h' n'))
    (hl:h' s.nxt=some (.loop env' ps' bd' st)) (he:st.ends=some e):
    Big Γ G (.code (.rangeF x ps bd) s) (.code e { s with heap:=upd h' s.nxt (some .dead),nxt:=n' })
 | opsYield {d:Bool} {p:Nat} {s s' s1 s2:St} {o:ROp} {l:List ROp} {f:Opd} {args:List Opd} {k:Nat} {vs:List V} {env env1 env':Nat->V} {ps ps1 ps':List Nat} {ca cb bd1 bd':C} {e:Ex}
    (hw:zcs s o.guard=some true) (hf:s.free o.dst {}) (ho:o.op= .call true f args) (As:evl G s f=some (.yl k))
    (hk:s.heap k=some (.loop env ps (.round ca cb) .ready)) (Au:zgE G s args=some vs) (Ac:vs.length=ps.length)
    (Bi:Big Γ G (.code ca (zht s.heap s.nxt k env ps (.round ca cb) vs)) (.code .normal s1)) (A3:s1.heap k=some (.loop env1 ps1 bd1 .enter))
    (RK:Big Γ G (.code cb { s1 with heap:=upd s1.heap k (some (.loop env1 ps1 bd1 .busy)) }) (.code e s2)) (AF:s2.heap k=some (.loop env' ps' bd' .busy))
    (h:Big Γ G (.ops d (p+1) l ({ s with heap:=upd s2.heap k (some (.loop env' ps' bd' e.toL)),nxt:=s2.nxt }.apply o.dst { val:=.t (.bool (decide (e=Ex.normal))) })) (.ops s')):
    Big Γ G (.ops d p (o::l) s) (.ops s')
 | pcall {g:Nat} {args:List V} {fn:F} {s':St} {e:Ex} {v r:V} (hg:Γ g=some fn) (hr:fn.raw=false)
    (h:Big Γ G (.code fn.body (.init args (fun _=>none) 0)) (.code e s')) (he: ∀id,e≠ .exit id)
    (hv:zeM s' fn.results=some v) (Bh:reify s'.heap v=some r):Big Γ G (.pcall g args) (.val r)
 | pext {g:Nat} {args:List V} {fn:F} {e:Ext} {r:V} (hg:Γ g=some fn) (hr:fn.raw=false) (hb:fn.body= .ext e) (h:zev e args=some r):Big Γ G (.pcall g args) (.val r)
 | rcall {g:Nat} {args:List V} {fn:F} {s':St} {e:Ex} {v:V} {hp:Nat->Option O} {n:Nat} (hg:Γ g=some fn) (hr:fn.raw=true)
    (h:Big Γ G (.code fn.body (.init args hp n)) (.code e s')) (he: ∀id,e≠ .exit id)
    (hv:zeM s' fn.results=some v):Big Γ G (.rcall g args hp n) (.vals v s'.heap s'.nxt)
 | rpure {g:Nat} {args rs:List V} {fn:F} {r:V} {hp:Nat->Option O} {n:Nat} (hg:Γ g=some fn) (hr:fn.raw=false) (AD:args.mapM (toT1 hp)=some rs) (hc:Big Γ G (.pcall g rs) (.val r)):
    Big Γ G (.rcall g args hp n) (.vals r (zbf hp (if r.scalar then []else freezes hp (args.flatMap (zba hp)))) n)
 | rext {g:Nat} {args:List V} {fn:F} {e:Ext} {r:V} {hp h':Nat->Option O} {n n':Nat} (hg:Γ g=some fn) (hr:fn.raw=true) (hb:fn.body= .ext e)
    (h:zd3 e args hp n=some (r,h',n')):Big Γ G (.rcall g args hp n) (.vals r h' n')
end Rg
end
section
namespace Rg
open Go
inductive RepT (w:World) (A:Nat->Prop) (nm:Nat->Nat):Value->T->Prop where
 | int (k:IntKind) (n:Int):RepT w A nm (.int k n) (.int k n)
 | bool (b:Bool):RepT w A nm (.bool b) (.bool b)
 | str (s:ByteArray):RepT w A nm (.string s) (.str s)
 | nilp:RepT w A nm (.pointer none) .nilp
 | nils (a:Option Addr):RepT w A nm (.slice a 0 0) .nils
 | nilm:RepT w A nm (.map none) .nilm
 | nilf:RepT w A nm .nilFunc .nilf
 | nili:RepT w A nm .nilIface .nili
 | sl0 (a:Option Addr) (cap:Nat):RepT w A nm (.slice a 0 cap) (.sl [])
 | sl (r off cap sz:Nat) (es:List (List T)) (vf:Nat->Nat->Value) (h0:0<es.length) (hc:es.length<=cap) (hA:A r)
    (hs: ∀(i:Nat) (e:List T),es[i]? =some e->e.length=sz)
    (hv: ∀(i:Nat) (e:List T) (j:Nat) (x:T),es[i]? =some e->e[j]? =some x->w.cell? ⟨r,off+i*sz+j,none⟩=some (vf i j))
    (hr: ∀(i:Nat) (e:List T) (j:Nat) (x:T),es[i]? =some e->e[j]? =some x->RepT w A nm (vf i j) x):
    RepT w A nm (.slice (some ⟨r,off,none⟩) es.length cap) (.sl es)
 | ip (r off:Nat) (cs:List T) (vf:Nat->Value) (hA:A r)
    (hv: ∀(j:Nat) (x:T),cs[j]? =some x->w.cell? ⟨r,off+j,none⟩=some (vf j))
    (hr: ∀(j:Nat) (x:T),cs[j]? =some x->RepT w A nm (vf j) x):
    RepT w A nm (.pointer (some ⟨r,off,none⟩)) (.ip cs)
 | fn (f:Nat) (a b:List T) (va vb:Array Value) (fa fb:Nat->Value) (ha:va.size=a.length) (hb:vb.size=b.length)
    (Bu: ∀(j:Nat) (x:T),a[j]? =some x->va[j]? =some (fa j)) (Cu: ∀(j:Nat) (x:T),a[j]? =some x->RepT w A nm (fa j) x)
    (Di: ∀(j:Nat) (x:T),b[j]? =some x->vb[j]? =some (fb j)) (Eb: ∀(j:Nat) (x:T),b[j]? =some x->RepT w A nm (fb j) x):
    RepT w A nm (.func (.func (nm f)) va vb) (.fn f a b)
 | fa (f:Nat) (c:List T) (vc:Array Value) (fc:Nat->Value) (hc:vc.size=c.length)
    (Fc: ∀(j:Nat) (x:T),c[j]? =some x->vc[j]? =some (fc j)) (Iy: ∀(j:Nat) (x:T),c[j]? =some x->RepT w A nm (fc j) x):
    RepT w A nm (.func (.func (nm f)) #[.agg vc] #[]) (.fa f c)
 | opq (v:Value) (h:v.oneCell'=true):RepT w A nm v .opq
 | slc (a:Option Addr) (es:List (List T)) (h:RepT w A nm (.slice a es.length es.length) (.sl es)):RepT w A nm (.slice a es.length es.length) (.slc es)
theorem cell?_eq {w w':World} {r off:Nat} (h:w'.heap[r]? =w.heap[r]?):w'.cell? ⟨r,off,none⟩=w.cell? ⟨r,off,none⟩:=by
 simp only[World.cell?,h]
theorem RepT.mono {w w':World} {A A':Nat->Prop} {nm:Nat->Nat} {v:Value} {x:T} (h:RepT w A nm v x)
 (hw: ∀r,A r->w'.heap[r]? =w.heap[r]?) (hA: ∀r,A r->A' r):RepT w' A' nm v x:=by
 induction h with
 | int k n=>exact .int k n
 | bool b=>exact .bool b
 | str s=>exact .str s
 | nilp=>exact .nilp
 | nils a=>exact .nils a
 | nilm=>exact .nilm
 | nilf=>exact .nilf
 | nili=>exact .nili
 | sl0 a cap=>exact .sl0 a cap
 | sl r off cap sz es vf h0 hc S0 hs hv _ ih=>
   exact .sl r off cap sz es vf h0 hc (hA r S0) hs (fun i e j x h1 h2=>by rw[cell?_eq (hw r S0)];exact hv i e j x h1 h2) ih
 | ip r off cs vf S0 hv _ ih=>
   exact .ip r off cs vf (hA r S0) (fun j x h1=>by rw[cell?_eq (hw r S0)];exact hv j x h1) ih
 | fn f a b va vb fa fb ha hb Bu _ Di _ iha ihb=>exact .fn f a b va vb fa fb ha hb Bu iha Di ihb
 | fa f c vc fc hc Fc _ ih=>exact .fa f c vc fc hc Fc ih
 | opq v h=>exact .opq v h
 | slc a es _ ih=>exact .slc a es ih
theorem RepT.one {w:World} {A:Nat->Prop} {nm:Nat->Nat} {v:Value} {x:T} (h:RepT w A nm v x):v.oneCell'=true:=by
 cases h<;>first | rfl | assumption
theorem RepT.scalar {w w':World} {A A':Nat->Prop} {nm:Nat->Nat} {v:Value} {x:T} (h:RepT w A nm v x) (hx:x.scalar=true):RepT w' A' nm v x:=by
 cases h with
 | sl r off cap sz es vf h0 hc hA hs hv hr=>
   cases es with
   | nil=>simp at h0
   | cons e es=>simp[T.scalar]at hx
 | opq _ h=>exact .opq _ h
 | _=>first | (simp[T.scalar]at hx;done) | constructor
theorem RepT.norm {w:World} {A:Nat->Prop} {nm:Nat->Nat} {v:Value} {x:T} (h:RepT w A nm v x):RepT w A nm v x.norm:=by
 cases h with
 | nils a=>exact .sl0 a 0
 | sl0 a cap=>exact .sl0 a cap
 | sl r off cap sz es vf h0 hc hA hs hv hr=>exact .sl r off cap sz es vf h0 hc hA hs hv hr
 | ip r off cs vf hA hv hr=>exact .ip r off cs vf hA hv hr
 | fn f a b va vb fa fb ha hb Bu Cu Di Eb=>exact .fn f a b va vb fa fb ha hb Bu Cu Di Eb
 | fa f c vc fc hc Fc Iy=>exact .fa f c vc fc hc Fc Iy
 | opq _ h=>exact .opq _ h
 | slc a es h=>exact .slc a es h
 | _=>constructor
theorem RepT.slc_inv {w:World} {A:Nat->Prop} {nm:Nat->Nat} {a:Option Addr} {n c:Nat} {es:List (List T)} (h:RepT w A nm (.slice a n c) (.slc es)):n=es.length/\c=es.length:=by
 cases h;exact⟨rfl,rfl⟩
def O.live:O->Bool
 | .dead=>false
 | _=>true
inductive RepC (w:World) (A:Nat->Prop) (nm:Nat->Nat) (μ:Nat->Nat) (H:Nat->Option O):Value->V->Prop where
 | t {v:Value} {x:T} (h:RepT w A nm v x):RepC w A nm μ H v (.t x)
 | ms (k i len cap sz:Nat) (rs:List (List V)) (frz:Bool) (a:Option Addr) (hk:H k=some (.rows sz rs frz)) (hi:i+len<=rs.length) (hc:rs.length<=i+cap)
    (ha:cap=0\/(a=some ⟨μ k,i*sz,none⟩/\ ∃e n,w.shape? (μ k)=some (e,n)/\(i+cap)*sz<=n)):
    RepC w A nm μ H (.slice a len cap) (.ms k i len)
 | mp (k i off sz:Nat) (rs:List (List V)) (frz:Bool) (hk:H k=some (.rows sz rs frz)) (hi:i<rs.length):
    RepC w A nm μ H (.pointer (some ⟨μ k,i*sz+off,none⟩)) (.mp k i off)
 | mb (k:Nat) (x:Bx) (hk:H k=some (.raw x)):RepC w A nm μ H (.pointer (some ⟨μ k,0,none⟩)) (.mp k 0 0)
 | mm (k:Nat) (es:List (T×V)) (hk:H k=some (.map es)):RepC w A nm μ H (.map (some (μ k))) (.mm k)
 | yl (k:Nat) (env:Nat->V) (ps:List Nat) (b:C) (st:LSt) (hk:H k=some (.loop env ps b st)):RepC w A nm μ H (.func (.yield (μ k)) #[] #[]) (.yl k)
 | dyl {v:Value} (k:Nat) (hk:H k=some .dead) (hv:v.oneCell'=true):RepC w A nm μ H v (.yl k)
 | dms {v:Value} (k i len:Nat) (hk:H k=some .dead) (hv:v.oneCell'=true):RepC w A nm μ H v (.ms k i len)
 | dmp {v:Value} (k i off:Nat) (hk:H k=some .dead) (hv:v.oneCell'=true):RepC w A nm μ H v (.mp k i off)
 | dmm {v:Value} (k:Nat) (hk:H k=some .dead) (hv:v.oneCell'=true):RepC w A nm μ H v (.mm k)
 | ifc (k t:Nat) (x:V) (v:Value) (hk:nm k=10000000+t) (hx:RepC w A nm μ H v x):RepC w A nm μ H (.iface t v) (.ifc k x)
 | fn (f:Nat) (a b:List V) (va vb:Array Value) (fa fb:Nat->Value) (ha:va.size=a.length) (hb:vb.size=b.length)
    (Bu: ∀(j:Nat) (x:V),a[j]? =some x->va[j]? =some (fa j)) (Cu: ∀(j:Nat) (x:V),a[j]? =some x->RepC w A nm μ H (fa j) x)
    (Di: ∀(j:Nat) (x:V),b[j]? =some x->vb[j]? =some (fb j)) (Eb: ∀(j:Nat) (x:V),b[j]? =some x->RepC w A nm μ H (fb j) x):
    RepC w A nm μ H (.func (.func (nm f)) va vb) (.fn f a b)
def Bx.le:Bx->Bx->Prop
 | .buf l,.buf l'=>l'=l
 | .buf _,_=>False
 | _,.buf _=>False
 | _,_=>True
theorem Bx.le_refl (x:Bx):Bx.le x x:=by cases x<;>simp[Bx.le]
theorem Bx.le_trans {a b c:Bx} (h1:Bx.le a b) (h2:Bx.le b c):Bx.le a c:=by cases a<;>cases b<;>cases c<;>simp_all [Bx.le]
def O.le:O->O->Prop
 | _,.dead=>True
 | .rows sz rs _,.rows sz' rs' _=>sz'=sz/\rs'.length=rs.length
 | .map _,.map _=>True
 | .loop _ _ _ _,.loop _ _ _ _=>True
 | .raw x,.raw y=>Bx.le x y
 | _,_=>False
theorem O.le_refl (o:O):O.le o o:=by cases o<;>simp[O.le,Bx.le_refl]
theorem O.le_trans {a b c:O} (h1:O.le a b) (h2:O.le b c):O.le a c:=by
 cases a<;>cases b<;>cases c<;>first | exact Bx.le_trans h1 h2 | simp_all [O.le]
structure Evo (w:World) (A:Nat->Prop) (μ:Nat->Nat) (H:Nat->Option O) (w':World) (A':Nat->Prop) (μ':Nat->Nat) (H':Nat->Option O):Prop where
 blk: ∀r,A r->w'.heap[r]? =w.heap[r]?
 sub: ∀r,A r->A' r
 hp: ∀k o,H k=some o-> ∃o',H' k=some o'/\O.le o o'/\(o'.live=true->μ' k=μ k)
 shp: ∀r s,w.shape? r=some s->w'.shape? r=some s
theorem Evo.refl (w:World) (A:Nat->Prop) (μ:Nat->Nat) (H:Nat->Option O):Evo w A μ H w A μ H:=
 ⟨fun _ _=>rfl,fun _ h=>h,fun _ o h=>⟨o,h,O.le_refl o,fun _=>rfl⟩,fun _ _ h=>h⟩
theorem RepC.one {w:World} {A:Nat->Prop} {nm μ:Nat->Nat} {H:Nat->Option O} {v:Value} {x:V} (h:RepC w A nm μ H v x):v.oneCell'=true:=by
 cases h<;>first | rfl | assumption | (rename_i h;exact h.one)
theorem RepC.evo {w w':World} {A A':Nat->Prop} {nm μ μ':Nat->Nat} {H H':Nat->Option O} {v:Value} {x:V} (h:RepC w A nm μ H v x)
 (e:Evo w A μ H w' A' μ' H'):RepC w' A' nm μ' H' v x:=by
 induction h with
 | t h=>exact .t (h.mono e.blk e.sub)
 | ms k i len cap sz rs frz a hk hi hc ha=>
   obtain⟨o',Ah,A5,FV⟩:=e.hp k _ hk
   cases o' with
   | rows sz' rs' frz'=>
     obtain⟨rfl,hl⟩:=A5;refine .ms k i len cap sz' rs' frz' a Ah (by omega) (by omega) ?_;rcases ha with ha | ⟨rfl,e1,n,hs,hn⟩
     ·exact .inl ha
     ·exact .inr ⟨by rw[FV rfl],e1,n,by rw[FV rfl];exact e.shp _ _ hs,hn⟩
   | map es=>simp[O.le]at A5
   | loop _ _ _ _=>simp[O.le]at A5
   | raw _=>simp[O.le]at A5
   | dead=>exact .dms k i len Ah rfl
 | mp k i off sz rs frz hk hi=>
   obtain⟨o',Ah,A5,FV⟩:=e.hp k _ hk
   cases o' with
   | rows sz' rs' frz'=>
     obtain⟨rfl,hl⟩:=A5;rw[<- FV rfl]
     exact .mp k i off sz' rs' frz' Ah (by omega)
   | map es=>simp[O.le]at A5
   | loop _ _ _ _=>simp[O.le]at A5
   | raw _=>simp[O.le]at A5
   | dead=>exact .dmp k i off Ah rfl
 | mb k x hk=>
   obtain⟨o',Ah,A5,FV⟩:=e.hp k _ hk
   cases o' with
   | raw x'=>rw[<- FV rfl];exact .mb k x' Ah
   | dead=>exact .dmp k 0 0 Ah rfl
   | _=>simp[O.le]at A5
 | mm k es hk=>
   obtain⟨o',Ah,A5,FV⟩:=e.hp k _ hk
   cases o' with
   | rows sz' rs' frz'=>simp[O.le]at A5
   | map es'=>rw[<- FV rfl];exact .mm k es' Ah
   | loop _ _ _ _=>simp[O.le]at A5
   | raw _=>simp[O.le]at A5
   | dead=>exact .dmm k Ah rfl
 | yl k env ps b st hk=>
   obtain⟨o',Ah,A5,FV⟩:=e.hp k _ hk
   cases o' with
   | rows sz' rs' frz'=>simp[O.le]at A5
   | map es'=>simp[O.le]at A5
   | loop env' ps' b' st'=>rw[<- FV rfl];exact .yl k env' ps' b' st' Ah
   | raw _=>simp[O.le]at A5
   | dead=>exact .dyl k Ah rfl
 | dyl k hk hv=>
   obtain⟨o',Ah,A5,_⟩:=e.hp k _ hk;cases o'<;>simp[O.le]at A5
   exact .dyl k Ah hv
 | dms k i len hk hv=>
   obtain⟨o',Ah,A5,_⟩:=e.hp k _ hk;cases o'<;>simp[O.le]at A5
   exact .dms k i len Ah hv
 | dmp k i off hk hv=>
   obtain⟨o',Ah,A5,_⟩:=e.hp k _ hk;cases o'<;>simp[O.le]at A5
   exact .dmp k i off Ah hv
 | dmm k hk hv=>
   obtain⟨o',Ah,A5,_⟩:=e.hp k _ hk;cases o'<;>simp[O.le]at A5
   exact .dmm k Ah hv
 | ifc k t x v hk _ ih=>exact .ifc k t x v hk ih
 | fn f a b va vb fa fb ha hb Bu _ Di _ iha ihb=>exact .fn f a b va vb fa fb ha hb Bu iha Di ihb
def zfk (w:World) (A:Nat->Prop) (nm μ:Nat->Nat) (H:Nat->Option O) (vs:List Value) (cs:List V):Prop:=
 vs.length=cs.length/\ ∀(i:Nat) (c:V),cs[i]? =some c-> ∃v,vs[i]? =some v/\RepC w A nm μ H v c
def zcl (w:World) (A:Nat->Prop) (nm μ:Nat->Nat) (H:Nat->Option O) (v:Value):V->Prop
 | .agg cs=> ∃vs,v= .agg vs/\zfk w A nm μ H vs.toList cs
 | .tup _=>False
 | .undef=>False
 | .lb=>False
 | c=>RepC w A nm μ H v c
def zbl (w:World) (A:Nat->Prop) (nm μ:Nat->Nat) (H:Nat->Option O) (v:Value):V->Prop
 | .tup cs=> ∃vs,v= .tuple vs/\vs.size=cs.length/\ ∀(i:Nat) (c:V),cs[i]? =some c-> ∃u,vs[i]? =some u/\zcl w A nm μ H u c
 | .undef=>v=undef
 | .lb=>True
 | c=>zcl w A nm μ H v c
section
variable {w w' : World} {A A' : Nat->Prop} {nm μ μ' : Nat->Nat} {H H' : Nat->Option O}
theorem zfk.evo {vs:List Value} {cs:List V} (h:zfk w A nm μ H vs cs) (e:Evo w A μ H w' A' μ' H'):zfk w' A' nm μ' H' vs cs:=
 ⟨h.1,fun i c hi=>let⟨v,hv,hr⟩:=h.2 i c hi;⟨v,hv,hr.evo e⟩⟩
theorem zcl.evo {v:Value} {x:V} (h:zcl w A nm μ H v x) (e:Evo w A μ H w' A' μ' H'):zcl w' A' nm μ' H' v x:=by
 cases x with
 | agg cs=>obtain⟨vs,rfl,h⟩:=h;exact⟨vs,rfl,h.evo e⟩
 | tup cs=>exact h.elim
 | undef=>exact h.elim
 | lb=>exact h.elim
 | _=>exact RepC.evo h e
theorem zbl.evo {v:Value} {x:V} (h:zbl w A nm μ H v x) (e:Evo w A μ H w' A' μ' H'):zbl w' A' nm μ' H' v x:=by
 cases x with
 | tup cs=>obtain⟨vs,rfl,hl,h⟩:=h;exact⟨vs,rfl,hl,fun i c hi=>let⟨u,hu,hr⟩:=h i c hi;⟨u,hu,hr.evo e⟩⟩
 | undef=>exact h
 | lb=>exact h
 | agg cs=>exact zcl.evo (x:=.agg cs) h e
 | t x=>exact zcl.evo (x:=.t x) h e
 | ms k i l=>exact zcl.evo (x:=.ms k i l) h e
 | mp k i o=>exact zcl.evo (x:=.mp k i o) h e
 | mm k=>exact zcl.evo (x:=.mm k) h e
 | yl k=>exact zcl.evo (x:=.yl k) h e
 | ifc k x=>exact zcl.evo (x:=.ifc k x) h e
 | fn f a b=>exact zcl.evo (x:=.fn f a b) h e
theorem zcl.toV {v:Value} {x:V} (h:zcl w A nm μ H v x):zbl w A nm μ H v x:=by
 cases x<;>first | exact h | exact h.elim
theorem RepC.toV1 {v:Value} {x:V} (h:RepC w A nm μ H v x):zcl w A nm μ H v x:=by
 cases h<;>first | exact RepC.t ‹_› | (constructor<;>assumption)
theorem RepC.toV {v:Value} {x:V} (h:RepC w A nm μ H v x):zbl w A nm μ H v x:=h.toV1.toV
theorem zbl.cells {v:Value} {x:V} {cs:List V} (h:zbl w A nm μ H v x) (hc:x.cells=some cs):zfk w A nm μ H v.cells.toList cs:=by
 cases x with
 | agg ds=>
   simp only[V.cells,Option.some.injEq]at hc;subst hc;obtain⟨vs,rfl,h⟩:=h
   exact h
 | tup _=>simp[V.cells]at hc
 | undef=>simp[V.cells]at hc
 | lb=>simp[V.cells]at hc
 | t _ | ms _ _ _ | mp _ _ _ | mm _ | yl _ | ifc _ _ | fn _ _ _=>
   simp only[V.cells,Option.some.injEq]at hc;subst hc;have h':RepC w A nm μ H v _:=h;have h1:=h'.one;have AL:v.cells.toList=[v]:=by cases v<;>simp_all [Value.cells,Value.oneCell']
   rw[AL];refine⟨rfl,fun i c hi=> ?_⟩
   cases i with
   | zero=>simp at hi;subst hi;exact⟨v,rfl,h'⟩
   | succ i=>simp at hi
end
structure Nam where
 nm:Nat->Nat
 gm:Nat->Nat
 G:Nat->List T
 GL:Nat->List T
 cr:Code->Nat->C->Prop
 tB:Nat
 tU:Nat
def LSt.rel:LSt->LoopState->Option Code->Prop
 | .ready,st,p=>st= .ready/\p=none
 | .enter,st,_=>st= .ready
 | .busy,st,_=>st= .busy
 | .done .normal,_,_=>False
 | .done (.exit id),st,p=>st= .done/\p=some (.exit id)
 | .done .ret,st,p=>st= .done/\p=some .ret
def ztJ (w:World) (tB tU:Nat) (μ:Nat->Nat) (H:Nat->Option O) (r:Nat):Bx->Prop
 | .bld none=> ∃p,w.heap[r]? =some (.cells #[p,.slice none 0 0] tB (0,0))/\(p= .pointer none\/p= .pointer (some ⟨r,0,none⟩))
 | .bld (some g)=> ∃a len cap,w.heap[r]? =some (.cells #[.pointer (some ⟨r,0,none⟩),.slice a len cap] tB (0,0))/\
    (H g=some .dead\/ ∃l,H g=some (.raw (.buf l))/\a=some ⟨μ g,0,none⟩/\len=l.length/\w.shape? (μ g)=some (tU,cap))
 | .mid=> ∃p v,w.heap[r]? =some (.cells #[p,v] tB (0,0))
 | .buf l=> ∃cur,w.heap[r]? =some (.cells cur tU (0,0))/\l≠[]/\l.length<=cur.size/\cur.size<=maxLen/\cur.toList.take l.length=l.map fun b=>Value.int .u8 b.toNat
theorem ztJ.evo {w w':World} {A A':Nat->Prop} {tB tU:Nat} {μ μ':Nat->Nat} {H H':Nat->Option O} {r:Nat} {x:Bx} (h:ztJ w tB tU μ H r x)
 (e:Evo w A μ H w' A' μ' H') (hr:w'.heap[r]? =w.heap[r]?):ztJ w' tB tU μ' H' r x:=by
 match x,h with
 | .bld none,⟨p,h1,h2⟩=>exact⟨p,by rw[hr];exact h1,h2⟩
 | .bld (some g),⟨a,len,cap,h1,h2⟩=>
   refine⟨a,len,cap,by rw[hr];exact h1,?_⟩;rcases h2 with h2 | ⟨l,h2,h3,h4,h5⟩
   ·obtain⟨o',g1,g2,_⟩:=e.hp g _ h2;cases o'<;>simp[O.le]at g2
    exact .inl g1
   ·obtain⟨o',g1,g2,g3⟩:=e.hp g _ h2
    cases o' with
    | dead=>exact .inl g1
    | raw y=>
      cases y with
      | bld _=>simp[O.le,Bx.le]at g2
      | mid=>simp[O.le,Bx.le]at g2
      | buf l'=>
        simp only[O.le,Bx.le]at g2;subst g2
        exact .inr ⟨l',g1,by rw[g3 rfl];exact h3,h4,by rw[g3 rfl];exact e.shp _ _ h5⟩
    | _=>simp[O.le]at g2
 | .mid,⟨p,v,h1⟩=>exact⟨p,v,by rw[hr];exact h1⟩
 | .buf l,⟨cur,h1,h2⟩=>exact⟨cur,by rw[hr];exact h1,h2⟩
def zgA:T->Option Value
 | .int k n=>some (.int k n)
 | .bool b=>some (.bool b)
 | .str s=>some (.string s)
 | _=>none
def zcB:List T->Option (List Value)
 | []=>some []
 | t::r=>(zgA t).bind fun v=>(zcB r).map (v:: ·)
def zcA:T->Option Value
 | .int k n=>some (.int k n)
 | .bool b=>some (.bool b)
 | .str s=>some (.string s)
 | .sl [ts]=>(zcB ts).map fun l=> .agg l.toArray
 | _=>none
def zq3 (w:World) (A:Nat->Prop) (N:Nam) (μ:Nat->Nat) (H:Nat->Option O) (r:Nat):O->Prop
 | .rows sz rs frz=> ∃c e z,w.heap[r]? =some (.cells c e z)/\(frz=false->z=(0,0))/\rs.length*sz<=c.size/\
    (∀(i:Nat) (row:List V),rs[i]? =some row->row.length=sz)/\
    ∀(i:Nat) (row:List V) (j:Nat) (x:V),rs[i]? =some row->row[j]? =some x-> ∃v,c[i*sz+j]? =some v/\RepC w A N.nm μ H v x
 | .map es=> ∃(ms:Array MapEntry) (n:Nat),w.heap[r]? =some (.map ms n)/\ms.size=es.length/\
    ∀(i:Nat) (k:T) (x:V),es[i]? =some (k,x)-> ∃m,ms[i]? =some m/\zcA k=some m.key/\zcl w A N.nm μ H m.val x
 | .loop env ps b st=> ∃L:Go.Loop,w.heap[r]? =some (.loop L)/\L.params=ps.toArray/\(∃ca cb,b= .round ca cb/\N.cr L.assign L.tmps.size ca)/\(∃ca cb,b= .round ca cb/\N.cr L.body L.tmps.size cb)/\st.rel L.state L.pending/\
    (∀t∈ps,t<L.tmps.size)/\ ∀t,zbl w A N.nm μ H (L.tmps.getD t undef) (env t)
 | .raw x=>ztJ w N.tB N.tU μ H r x
 | .dead=>True
def zxz (w:World) (A:Nat->Prop) (nm μ:Nat->Nat) (H:Nat->Option O) (r:Nat) (cs:List V):Prop:=
 ∃c e,w.heap[r]? =some (.cells c e (0,0))/\zfk w A nm μ H c.toList cs
def MBH (H:Nat->Option O) (μ:Nat->Nat) (r:Nat):Prop:=
 ∃k o,H k=some o/\(∀sz rs,o≠ .rows sz rs true)/\o.live=true/\μ k=r
def MBL (L:Nat->Option (List V)) (lam:Nat->Nat) (r:Nat):Prop:= ∃t,(L t).isSome=true/\lam t=r
structure Ctx where
 w0:World
 X:Nat->Prop
 A0:Nat->Prop
 H0:Nat->Option O
 μ0:Nat->Nat
def zdG (c:Ctx) (A:Nat->Prop) (w:World) (ds:List Deferred):Prop:=
 ∃rs:List Nat,rs.Nodup/\ds=rs.map (fun r=>{ target:=.collected r,args:= #[] })/\ ∀r∈rs,w.heap[r]? =some (Obj.deferred (some []))/\ ¬A r/\c.w0.heap.size<=r
theorem zdG.nil (c:Ctx) (A:Nat->Prop) (w:World):zdG c A w []:=⟨[],by simp,rfl,by simp⟩
theorem zdG.evo {c:Ctx} {A A':Nat->Prop} {w w':World} {ds:List Deferred} (h:zdG c A w ds) (h1: ∀r:Nat,w.heap[r]? =some (Obj.deferred (some []))->w'.heap[r]? =w.heap[r]?)
 (h2: ∀r:Nat,w.heap[r]? =some (Obj.deferred (some []))->A' r->A r):zdG c A' w' ds:=by
 obtain⟨rs,h3,h4,h5⟩:=h;exact⟨rs,h3,h4,fun r hr=>let⟨a,b,d⟩:=h5 r hr;⟨by rw[h1 r a];exact a,fun h=>b (h2 r a h),d⟩⟩
theorem zdG.join {c:Ctx} {A A' B:Nat->Prop} {w w':World} {ds:List Deferred} (h:zdG c A w ds) (h':zdG c A' w' ds) (hB: ∀r,B r->w.heap.size<=r):zdG c (fun r=>A' r\/B r) w' ds:=by
 obtain⟨rs,h1,h2,h3⟩:=h;obtain⟨rs',g1,g2,g3⟩:=h'
 have e:rs'=rs:=by
  rw[h2]at g2
  have hinj: ∀(l l':List Nat),l.map (fun r=>({ target:=.collected r,args:= #[] }:Deferred))=l'.map (fun r=>({ target:=.collected r,args:= #[] }:Deferred))->l'=l:=by
   intro l
   induction l with
   | nil=>intro l' h;cases l' with
     | nil=>rfl
     | cons _ _=>simp at h
   | cons x l ih=>intro l' h;cases l' with
     | nil=>simp at h
     | cons y l'=>
       simp only[List.map_cons,List.cons.injEq,Deferred.mk.injEq,Target.collected.injEq,and_true]at h;rw[h.1,ih l' h.2]
  exact hinj rs rs' g2
 subst e;refine⟨rs',g1,g2,fun r hr=> ?_⟩;obtain⟨a1,a2,a3⟩:=g3 r hr;refine⟨a1,fun h=> ?_,a3⟩;rcases h with h | h
 ·exact a2 h
 ·have:=hB r h;have:=(Array.getElem?_eq_some_iff.1 (h3 r hr).1).1;omega
structure Rel (N:Nam) (c:Ctx) (ns:Nat) (A:Nat->Prop) (μ lam:Nat->Nat) (s:St) (a:Act) (w:World):Prop where
 size:a.tmps.size=ns
 defers:zdG c A w a.defers
 env: ∀t,zbl w A N.nm μ s.heap (a.tmps.getD t undef) (s.env t)
 loc: ∀t cs,s.loc t=some cs->a.tmps.getD t undef= .pointer (some ⟨lam t,0,none⟩)/\zxz w A N.nm μ s.heap (lam t) cs
 adr: ∀t b o,s.adr t=some (b,o)->s.used b=true/\(s.loc b).isSome=true/\a.tmps.getD t undef= .pointer (some ⟨lam b,o,none⟩)
 heap: ∀k o,s.heap k=some o->zq3 w A N μ s.heap (μ k) o
 hinj: ∀k k' o o',s.heap k=some o->s.heap k'=some o'->o.live=true->o'.live=true->μ k=μ k'->k=k'
 linj: ∀t t',(s.loc t).isSome=true->(s.loc t').isSome=true->lam t=lam t'->t=t'
 lh: ∀t k o,(s.loc t).isSome=true->s.heap k=some o->o.live=true->lam t≠μ k
 aH: ∀r,A r-> ¬MBH s.heap μ r
 aL: ∀r,A r-> ¬MBL s.loc lam r
 alt: ∀r,A r->r<w.heap.size
 afz: ∀k sz rs,s.heap k=some (.rows sz rs true)->A (μ k)
 fresh: ∀k,s.nxt<=k->s.heap k=none
 glob: ∀(g j:Nat) (x:T),(N.GL g)[j]? =some x->A (N.gm g)/\(∃e,w.shape? (N.gm g)=some (e,(N.GL g).length))/\ ∃v,w.cell? ⟨N.gm g,j,none⟩=some v/\RepT w A N.nm v x
 cout:w.os=c.w0.os/\w.output=c.w0.output
 csize:c.w0.heap.size<=w.heap.size
 ckeep: ∀r,r<c.w0.heap.size-> ¬c.X r->w.heap[r]? =c.w0.heap[r]?
 cshp: ∀r x,c.w0.shape? r=some x->w.shape? r=some x
 csub: ∀r,c.A0 r->A r
 canew: ∀r,A r->c.A0 r\/c.X r\/c.w0.heap.size<=r
 clive: ∀r,MBH s.heap μ r->c.X r\/c.w0.heap.size<=r
 cloc: ∀t,(s.loc t).isSome=true->c.X (lam t)\/c.w0.heap.size<=lam t
 chp: ∀k o,c.H0 k=some o-> ∃o',s.heap k=some o'/\O.le o o'/\(o'.live=true->μ k=c.μ0 k)
end Rg
end
section
namespace Rg
open Go
theorem zf3 (a:Act) (d t:Nat) (v:Value) (h:d<a.tmps.size):
 (a.put (some d) v).tmps.getD t undef=if t=d then v else a.tmps.getD t undef:=by
 simp only[Act.put]
 by_cases ht:t=d
 ·subst ht;simp[h]
 ·simp[ht,Array.getD_eq_getD_getElem?,Ne.symm ht]
theorem zoS (a:Act) (d:Option Nat) (v:Value):(a.put d v).tmps.size=a.tmps.size:=by
 cases d<;>simp[Act.put]
theorem zkX (a:Act) (d:Option Nat) (v:Value):(a.put d v).defers=a.defers:=by
 cases d<;>rfl
theorem zeE {s:St} {d:Option Nat} {e:Eff} {b:Nat} (h:s.used b=true):(s.apply d e).used b=true:=by
 simp only[St.apply]
 cases e.adr with
 | none=>exact h
 | some x=>simp only[upd];split<;>simp_all
section
variable {N:Nam} {c:Ctx} {ns:Nat} {A:Nat->Prop} {μ lam:Nat->Nat} {s:St} {a:Act} {w:World}
theorem Rel.put (R:Rel N c ns A μ lam s a w) (d:Option Nat) (e:Eff) (v:Value) (hd: ∀x,d=some x->x<ns) (hf:s.free d e)
 (hl:e.loc=none) (Er:e.wloc=none) (hh:e.hp=[]) (hv:zbl w A N.nm μ s.heap v e.val)
 (ha: ∀b o,e.adr=some (b,o)->(s.loc b).isSome=true/\v= .pointer (some ⟨lam b,o,none⟩)):
 Rel N c ns A μ lam (s.apply d e) (a.put d v) w:=by
 have Ar:(s.apply d e).heap=s.heap:=by simp[St.apply,hh,zbf]
 cases d with
 | none=>
   have h1:(s.apply none e).env=s.env:=rfl;have h2:(s.apply none e).adr=s.adr:=rfl;have h3:(s.apply none e).loc=s.loc:=by simp[St.apply,Er]
   refine{ R with env:= ?_,loc:= ?_,adr:= ?_,heap:= ?_,hinj:= ?_,linj:= ?_,lh:= ?_,aH:= ?_,aL:= ?_,afz:=by rw[Ar];exact R.afz,fresh:= ?_,clive:= ?_,cloc:= ?_,chp:= ?_ }
   ·rw[Ar,h1];exact R.env
   ·rw[Ar,h3];exact R.loc
   ·intro t b o h;rw[h2]at h;obtain⟨g1,g2,g3⟩:=R.adr t b o h;exact⟨zeE g1,by rw[h3];exact g2,g3⟩
   ·rw[Ar];exact R.heap
   ·rw[Ar];exact R.hinj
   ·rw[h3];exact R.linj
   ·rw[Ar,h3];exact R.lh
   ·rw[Ar];exact R.aH
   ·rw[h3];exact R.aL
   ·rw[Ar];exact R.fresh
   ·rw[Ar];exact R.clive
   ·rw[h3];exact R.cloc
   ·rw[Ar];exact R.chp
 | some d=>
   have DQ:d<a.tmps.size:=by rw[R.size];exact hd d rfl
   obtain⟨H6,Cv⟩:=hf d rfl;have h1:(s.apply (some d) e).env=upd s.env d e.val:=rfl;have h2:(s.apply (some d) e).adr=upd s.adr d e.adr:=rfl;have h3:(s.apply (some d) e).loc=upd s.loc d none:=by simp[St.apply,Er,hl]
   have Dw: ∀t,((upd s.loc d none) t).isSome=true->t≠d/\(s.loc t).isSome=true:=by
    intro t h
    by_cases ht:t=d
    ·subst ht;simp at h
    ·exact⟨ht,by rwa[zad _ _ ht]at h⟩
   refine{ R with size:=by rw[zoS];exact R.size,defers:=by rw[zkX];exact R.defers,env:= ?_,loc:= ?_,adr:= ?_,heap:= ?_,hinj:= ?_,linj:= ?_,lh:= ?_,aH:= ?_,aL:= ?_,afz:=by rw[Ar];exact R.afz,fresh:= ?_,clive:= ?_,cloc:= ?_,chp:= ?_ }
   ·intro t;rw[Ar,h1,zf3 a d t v DQ]
    by_cases ht:t=d
    ·subst ht;simpa using hv
    ·rw[zad _ _ ht,if_neg ht];exact R.env t
   ·intro t cs h;rw[h3]at h;obtain⟨ht,_⟩:=Dw t (by rw[h];rfl);rw[zad _ _ ht]at h;rw[Ar,zf3 a d t v DQ,if_neg ht];exact R.loc t cs h
   ·intro t b o h;rw[h2]at h;rw[h3,zf3 a d t v DQ]
    by_cases ht:t=d
    ·subst ht;simp only[zaz]at h;obtain⟨g1,g2⟩:=ha b o h;have hb:b≠t:=Cv b o h;refine⟨by simp[St.apply,h],by rw[zad _ _ hb];exact g1,by simp[g2]⟩
    ·rw[zad _ _ ht]at h;obtain⟨g1,g2,g3⟩:=R.adr t b o h;have hb:b≠d:=by intro hb;subst hb;simp[H6]at g1
     exact⟨zeE g1,by rw[zad _ _ hb];exact g2,by rw[if_neg ht];exact g3⟩
   ·rw[Ar];exact R.heap
   ·rw[Ar];exact R.hinj
   ·intro t t' g g';rw[h3]at g g';exact R.linj t t' (Dw t g).2 (Dw t' g').2
   ·intro t k o g;rw[h3]at g;rw[Ar];exact R.lh t k o (Dw t g).2
   ·rw[Ar];exact R.aH
   ·intro r hr ⟨t,g,he⟩;rw[h3]at g;exact R.aL r hr ⟨t,(Dw t g).2,he⟩
   ·rw[Ar];exact R.fresh
   ·rw[Ar];exact R.clive
   ·intro t g;rw[h3]at g;exact R.cloc t (Dw t g).2
   ·rw[Ar];exact R.chp
theorem Rel.world (R:Rel N c ns A μ lam s a w) {w':World} (AS:w.heap.size<=w'.heap.size)
 (hb: ∀r,A r\/MBL s.loc lam r\/(∃k o,s.heap k=some o/\o.live=true/\μ k=r)->w'.heap[r]? =w.heap[r]?)
 (hk: ∀r,r<c.w0.heap.size-> ¬c.X r->w'.heap[r]? =w.heap[r]?)
 (hs: ∀r x,w.shape? r=some x->w'.shape? r=some x) (Jv:zdG c A w' a.defers) (De:w'.os=w.os/\w'.output=w.output:=by exact⟨rfl,rfl⟩):Rel N c ns A μ lam s a w':=by
 have E:Evo w A μ s.heap w' A μ s.heap:=⟨fun r h=>hb r (.inl h),fun _ h=>h,fun _ o h=>⟨o,h,O.le_refl o,fun _=>rfl⟩,hs⟩
 refine{ R with defers:=Jv,env:=fun t=>(R.env t).evo E,loc:= ?_,heap:= ?_,glob:= ?_,alt:=fun r h=>Nat.lt_of_lt_of_le (R.alt r h) AS,cout:=⟨De.1.trans R.cout.1,De.2.trans R.cout.2⟩,csize:=Nat.le_trans R.csize AS,ckeep:= ?_,cshp:=fun r x h=>hs r x (R.cshp r x h) }
 ·intro t cs h;obtain⟨h1,cc,e,h2,h3⟩:=R.loc t cs h;exact⟨h1,cc,e,by rw[hb _ (.inr (.inl ⟨t,by rw[h];rfl,rfl⟩))];exact h2,h3.evo E⟩
 ·intro k o h;have:=R.heap k o h
  cases o with
  | dead=>trivial
  | rows sz rs frz=>
    obtain⟨cc,e,z,h1,h2,h3,h4,h5⟩:=this
    exact⟨cc,e,z,by rw[hb _ (.inr (.inr ⟨k,_,h,rfl,rfl⟩))];exact h1,h2,h3,h4,fun i row j x g1 g2=>let⟨v,hv,hr⟩:=h5 i row j x g1 g2;⟨v,hv,hr.evo E⟩⟩
  | map es=>
    obtain⟨ms,n,h1,h2,h3⟩:=this
    exact⟨ms,n,by rw[hb _ (.inr (.inr ⟨k,_,h,rfl,rfl⟩))];exact h1,h2,fun i k x g=>let⟨m,hm,hr,hv⟩:=h3 i k x g;⟨m,hm,hr,hv.evo E⟩⟩
  | loop env ps b st=>
    obtain⟨L,h1,h2,h3,h4,h5,h7,h6⟩:=this
    exact⟨L,by rw[hb _ (.inr (.inr ⟨k,_,h,rfl,rfl⟩))];exact h1,h2,h3,h4,h5,h7,fun t=>(h6 t).evo E⟩
  | raw x=>exact ztJ.evo this E (hb _ (.inr (.inr ⟨k,_,h,rfl,rfl⟩)))
 ·intro g j x h;obtain⟨h1,⟨te,F1⟩,v,hv,hr⟩:=R.glob g j x h;exact⟨h1,⟨te,E.shp _ _ F1⟩,v,by rw[cell?_eq (hb _ (.inl h1))];exact hv,hr.mono E.blk E.sub⟩
 ·intro r hr hx;rw[hk r hr hx];exact R.ckeep r hr hx
theorem shape?_push (w:World) (o:Go.Obj) (r:Nat) (x:TypeId×Nat) (h:w.shape? r=some x):(w.alloc o).shape? r=some x:=by
 have Ad:r<w.heap.size:=by
  rcases Nat.lt_or_ge r w.heap.size with h' | h'
  ·exact h'
  ·simp[World.shape?,Array.getElem?_eq_none h']at h
 have:(w.alloc o).heap[r]? =w.heap[r]? :=by simp only[World.alloc,Array.getElem?_push];simp[Nat.ne_of_lt Ad]
 simpa[World.shape?,this]using h
theorem ztJ.isCells {w:World} {tB tU:Nat} {μ:Nat->Nat} {H:Nat->Option O} {r:Nat} {x:Bx} (h:ztJ w tB tU μ H r x): ∃cs t z,w.heap[r]? =some (.cells cs t z):=by
 match x,h with
 | .bld none,⟨_,h,_⟩=>exact⟨_,_,_,h⟩
 | .bld (some _),⟨_,_,_,h,_⟩=>exact⟨_,_,_,h⟩
 | .mid,⟨_,_,h⟩=>exact⟨_,_,_,h⟩
 | .buf _,⟨_,h,_⟩=>exact⟨_,_,_,h⟩
theorem Rel.lt_live (R:Rel N c ns A μ lam s a w) {k:Nat} {o:O} (h:s.heap k=some o) (hl:o.live=true):μ k<w.heap.size:=by
 have:=R.heap k o h
 cases o with
 | dead=>simp[O.live]at hl
 | rows sz rs frz=>obtain⟨cc,e,z,h1,_⟩:=this;exact(Array.getElem?_eq_some_iff.1 h1).1
 | map es=>obtain⟨ms,n,h1,_⟩:=this;exact(Array.getElem?_eq_some_iff.1 h1).1
 | loop env ps b st=>obtain⟨L,h1,_⟩:=this;exact(Array.getElem?_eq_some_iff.1 h1).1
 | raw x=>
   obtain⟨_,_,_,h1⟩:=ztJ.isCells this;exact(Array.getElem?_eq_some_iff.1 h1).1
theorem Rel.ndef (R:Rel N c ns A μ lam s a w) {k:Nat} {o:O} (h:s.heap k=some o) (hl:o.live=true):w.heap[μ k]? ≠some (Obj.deferred (some [])):=by
 have:=R.heap k o h
 cases o with
 | dead=>simp[O.live]at hl
 | rows sz rs frz=>obtain⟨cc,e,z,h1,_⟩:=this;rw[h1];simp
 | map es=>obtain⟨ms,n,h1,_⟩:=this;rw[h1];simp
 | loop env ps b st=>obtain⟨L,h1,_⟩:=this;rw[h1];simp
 | raw x=>
   obtain⟨_,_,_,h1⟩:=ztJ.isCells this;rw[h1];simp
theorem Rel.ndef_loc (R:Rel N c ns A μ lam s a w) {t:Nat} (h:(s.loc t).isSome=true):w.heap[lam t]? ≠some (Obj.deferred (some [])):=by
 obtain⟨cs,h⟩:=Option.isSome_iff_exists.1 h;obtain⟨_,cc,e,h1,_⟩:=R.loc t cs h;rw[h1];simp
theorem Rel.lt_loc (R:Rel N c ns A μ lam s a w) {t:Nat} (h:(s.loc t).isSome=true):lam t<w.heap.size:=by
 obtain⟨cs,h⟩:=Option.isSome_iff_exists.1 h;obtain⟨_,cc,e,h1,_⟩:=R.loc t cs h;exact(Array.getElem?_eq_some_iff.1 h1).1
theorem zq3.evo {w w':World} {A A':Nat->Prop} {N:Nam} {μ μ':Nat->Nat} {H H':Nat->Option O} {r:Nat} {o:O} (h:zq3 w A N μ H r o)
 (e:Evo w A μ H w' A' μ' H') (hr:w'.heap[r]? =w.heap[r]?):zq3 w' A' N μ' H' r o:=by
 cases o with
 | dead=>trivial
 | rows sz rs frz=>
   obtain⟨cc,e0,z,h1,h2,h3,h4,h5⟩:=h
   exact⟨cc,e0,z,by rw[hr];exact h1,h2,h3,h4,fun i row j x g1 g2=>let⟨v,hv,hr⟩:=h5 i row j x g1 g2;⟨v,hv,hr.evo e⟩⟩
 | map es=>
   obtain⟨ms,n,h1,h2,h3⟩:=h
   exact⟨ms,n,by rw[hr];exact h1,h2,fun i k x g=>let⟨m,hm,hr,hv⟩:=h3 i k x g;⟨m,hm,hr,hv.evo e⟩⟩
 | loop env ps b st=>
   obtain⟨L,h1,h2,h3,h4,h5,h7,h6⟩:=h
   exact⟨L,by rw[hr];exact h1,h2,h3,h4,h5,h7,fun t=>(h6 t).evo e⟩
 | raw x=>exact ztJ.evo h e hr
theorem zxz.evo {w w':World} {A A':Nat->Prop} {nm μ μ':Nat->Nat} {H H':Nat->Option O} {r:Nat} {cs:List V} (h:zxz w A nm μ H r cs)
 (e:Evo w A μ H w' A' μ' H') (hr:w'.heap[r]? =w.heap[r]?):zxz w' A' nm μ' H' r cs:=by
 obtain⟨cc,e0,h1,h2⟩:=h;exact⟨cc,e0,by rw[hr];exact h1,h2.evo e⟩
structure Orphan (c:Ctx) (A:Nat->Prop) (μ lam:Nat->Nat) (s:St) (r:Nat):Prop where
 a: ¬A r
 l: ∀t,(s.loc t).isSome=true->lam t≠r
 h: ∀k o,s.heap k=some o->o.live=true->μ k≠r
 x:c.X r\/c.w0.heap.size<=r
theorem Rel.orphan_new (R:Rel N c ns A μ lam s a w):Orphan c A μ lam s w.heap.size:=
 ⟨fun h=>Nat.lt_irrefl _ (R.alt _ h),fun _ h e=>Nat.lt_irrefl _ (e▸R.lt_loc h),fun _ _ h hl e=>Nat.lt_irrefl _ (e▸R.lt_live h hl),.inr R.csize⟩
theorem Rel.alloc (R:Rel N c ns A μ lam s a w) (o:Go.Obj):Rel N c ns A μ lam s a (w.alloc o):=by
 have Ad: ∀r,r<w.heap.size->(w.alloc o).heap[r]? =w.heap[r]? :=by
  intro r hr;simp only[World.alloc,Array.getElem?_push];simp[Nat.ne_of_lt hr]
 refine R.world (by simp) ?_ ?_ (fun r x h=>shape?_push w o r x h) (R.defers.evo (fun r h=>Ad r (Array.getElem?_eq_some_iff.1 h).1) (fun _ _ h=>h))
 ·rintro r (h | ⟨t,h,rfl⟩ | ⟨k,o',h,hl,rfl⟩)
  ·exact Ad r (R.alt r h)
  ·exact Ad _ (R.lt_loc h)
  ·exact Ad _ (R.lt_live h hl)
 ·intro r hr _;exact Ad r (Nat.lt_of_lt_of_le hr R.csize)
theorem Rel.drew (R:Rel N c ns A μ lam s a w):Rel N c ns A μ lam s a w.drew:=
 R.world (Nat.le_refl _) (fun _ _=>rfl) (fun _ _ _=>rfl) (fun _ _ h=>h) R.defers
theorem shape?_setRow {w:World} {g:Nat} {old cs:Array Value} {t:TypeId} {fr:Nat×Nat} (hg:w.heap[g]? =some (.cells old t fr)) (hs:cs.size=old.size)
 (r:Nat) (x:TypeId×Nat) (h:w.shape? r=some x):(w.setRow g cs).shape? r=some x:=by
 by_cases hr:r=g
 ·subst hr;simp only[World.shape?,hg,setRow_heap w r old cs t fr hg]at h⊢;simpa[hs]using h
 ·simpa[World.shape?,setRow_other w g r cs hr]using h
theorem Rel.setOrphan (R:Rel N c ns A μ lam s a w) {r:Nat} (hr:Orphan c A μ lam s r) {old cs:Array Value} {t:TypeId} {fr:Nat×Nat}
 (hg:w.heap[r]? =some (.cells old t fr)) (hs:cs.size=old.size):Rel N c ns A μ lam s a (w.setRow r cs):=by
 refine R.world (by simp) ?_ ?_ (shape?_setRow hg hs) (R.defers.evo (fun r' h=>setRow_other w r r' cs (fun e=>by subst e;rw[hg]at h;simp at h)) (fun _ _ h=>h))
 ·rintro r' (h | ⟨t,h,rfl⟩ | ⟨k,o',h,hl,rfl⟩)
  ·exact setRow_other w r r' cs (fun e=>hr.a (e▸h))
  ·exact setRow_other w r _ cs (hr.l t h)
  ·exact setRow_other w r _ cs (hr.h k o' h hl)
 ·intro r' h1 h2;refine setRow_other w r r' cs (fun e=> ?_);subst e;rcases hr.x with h | h
  ·exact h2 h
  ·omega
theorem Rel.adoptH (R:Rel N c ns A μ lam s a w) {k r:Nat} {o:O} (hk:s.heap k=none) (hn:k<s.nxt) (hr:Orphan c A μ lam s r)
 (ho:zq3 w A N μ s.heap r o) (Be: ∀sz rs,o≠ .rows sz rs true):Rel N c ns A (upd μ k r) lam { s with heap:=upd s.heap k (some o) } a w:=by
 have Az: ∀k' o',s.heap k'=some o'->k'≠k:=by rintro k' o' h rfl;simp[hk]at h
 have E:Evo w A μ s.heap w A (upd μ k r) (upd s.heap k (some o)):=
  ⟨fun _ _=>rfl,fun _ h=>h,fun k' o' h=>⟨o',by rw[zad _ _ (Az k' o' h)];exact h,O.le_refl o',fun _=>zad _ _ (Az k' o' h)⟩,fun _ _ h=>h⟩
 have Al: ∀k' o',(upd s.heap k (some o)) k'=some o'->(k'=k/\o'=o)\/(k'≠k/\s.heap k'=some o'):=by
  intro k' o' h
  by_cases e:k'=k
  ·subst e;simp at h;exact .inl ⟨rfl,h.symm⟩
  ·rw[zad _ _ e]at h;exact .inr ⟨e,h⟩
 refine{ R with env:=fun t=>(R.env t).evo E,loc:= ?_,heap:= ?_,hinj:= ?_,lh:= ?_,aH:= ?_,afz:= ?_,fresh:= ?_,clive:= ?_,chp:= ?_ }
 ·intro t cs h;obtain⟨h1,h2⟩:=R.loc t cs h;exact⟨h1,h2.evo E rfl⟩
 ·intro k' o' h;rcases Al k' o' h with⟨rfl,rfl⟩ | ⟨e,h⟩
  ·simp only[zaz];exact ho.evo E rfl
  ·simp only[zad _ _ e];exact(R.heap k' o' h).evo E rfl
 ·intro k1 k2 o1 o2 h1 h2 l1 l2 he;rcases Al k1 o1 h1 with⟨rfl,rfl⟩ | ⟨e1,g1⟩<;>rcases Al k2 o2 h2 with⟨rfl,rfl⟩ | ⟨e2,g2⟩
  ·rfl
  ·simp only[zaz,zad _ _ e2]at he;exact absurd he.symm (hr.h k2 o2 g2 l2)
  ·simp only[zaz,zad _ _ e1]at he;exact absurd he (hr.h k1 o1 g1 l1)
  ·simp only[zad _ _ e1,zad _ _ e2]at he;exact R.hinj k1 k2 o1 o2 g1 g2 l1 l2 he
 ·intro t k' o' ht h hl;rcases Al k' o' h with⟨rfl,rfl⟩ | ⟨e,h⟩
  ·simp only[zaz];exact hr.l t ht
  ·simp only[zad _ _ e];exact R.lh t k' o' ht h hl
 ·rintro r' hA ⟨k',o',h,hm,hl,he⟩;rcases Al k' o' h with⟨rfl,rfl⟩ | ⟨e,h⟩
  ·simp only[zaz]at he;subst he;exact hr.a hA
  ·simp only[zad _ _ e]at he;exact R.aH r' hA ⟨k',o',h,hm,hl,he⟩
 ·intro k' sz rs h;rcases Al k' _ h with⟨rfl,g⟩ | ⟨e,h⟩
  ·exact absurd g.symm (Be sz rs)
  ·simp only[zad _ _ e];exact R.afz k' sz rs h
 ·intro k' h;have:k'≠k:=fun e=>by subst e;exact absurd h (Nat.not_le.2 hn)
  simp only[zad _ _ this];exact R.fresh k' h
 ·rintro r' ⟨k',o',h,hm,hl,he⟩;rcases Al k' o' h with⟨rfl,rfl⟩ | ⟨e,h⟩
  ·simp only[zaz]at he;subst he;exact hr.x
  ·simp only[zad _ _ e]at he;exact R.clive r' ⟨k',o',h,hm,hl,he⟩
 ·intro k' o' h;obtain⟨o1,h1,h2,h3⟩:=R.chp k' o' h;have e:=Az k' o1 h1;exact⟨o1,by simp only[zad _ _ e];exact h1,h2,fun hl=>by rw[zad _ _ e];exact h3 hl⟩
theorem Rel.changeH (R:Rel N c ns A μ lam s a w) {k:Nat} {o o':O} {w':World} (hk:s.heap k=some o) (A5:O.le o o') (hl:o.live=true)
 (hm: ∀sz rs,o≠ .rows sz rs true) (Fm: ∀sz rs,o'≠ .rows sz rs true) (CE:o'.live=true)
 (AS:w'.heap.size=w.heap.size) (AZ: ∀r,r≠μ k->w'.heap[r]? =w.heap[r]?) (hs: ∀r x,w.shape? r=some x->w'.shape? r=some x)
 (ho:Evo w A μ s.heap w' A μ (upd s.heap k (some o'))->zq3 w' A N μ (upd s.heap k (some o')) (μ k) o') (De:w'.os=w.os/\w'.output=w.output:=by exact⟨rfl,rfl⟩):
 Rel N c ns A μ lam { s with heap:=upd s.heap k (some o') } a w':=by
 have hA: ∀r,A r->r≠μ k:=fun r h e=>R.aH r h ⟨k,o,hk,hm,hl,e.symm⟩
 have E:Evo w A μ s.heap w' A μ (upd s.heap k (some o')):=by
  refine⟨fun r h=>AZ r (hA r h),fun _ h=>h,fun k1 o1 h=> ?_,hs⟩
  by_cases e:k1=k
  ·subst e;rw[hk]at h;cases h;exact⟨o',by simp,A5,fun _=>rfl⟩
  ·exact⟨o1,by rw[zad _ _ e];exact h,O.le_refl o1,fun _=>rfl⟩
 have Al: ∀k1 o1,(upd s.heap k (some o')) k1=some o1->(k1=k/\o1=o')\/(k1≠k/\s.heap k1=some o1):=by
  intro k1 o1 h
  by_cases e:k1=k
  ·subst e;simp at h;exact .inl ⟨rfl,h.symm⟩
  ·rw[zad _ _ e]at h;exact .inr ⟨e,h⟩
 have AA: ∀k1 o1,(upd s.heap k (some o')) k1=some o1->o1.live=true-> ∃o2,s.heap k1=some o2/\o2.live=true:=by
  intro k1 o1 h AO;rcases Al k1 o1 h with⟨rfl,rfl⟩ | ⟨_,h⟩
  ·exact⟨o,hk,hl⟩
  ·exact⟨o1,h,AO⟩
 have JQ: ∀r:Nat,w.heap[r]? =some (Obj.deferred (some []))->w'.heap[r]? =w.heap[r]? :=fun r h=>AZ r (fun e=>R.ndef hk hl (e▸h))
 refine{ R with defers:=R.defers.evo JQ (fun _ _ h=>h),env:=fun t=>(R.env t).evo E,loc:= ?_,heap:= ?_,hinj:= ?_,lh:= ?_,aH:= ?_,alt:= ?_,afz:= ?_,fresh:= ?_,glob:= ?_,cout:=⟨De.1.trans R.cout.1,De.2.trans R.cout.2⟩,csize:= ?_,ckeep:= ?_,cshp:= ?_,clive:= ?_,chp:= ?_ }
 ·intro t cs h;obtain⟨h1,h2⟩:=R.loc t cs h;exact⟨h1,h2.evo E (AZ _ (R.lh t k o (by rw[h];rfl) hk hl))⟩
 ·intro k1 o1 h;rcases Al k1 o1 h with⟨rfl,rfl⟩ | ⟨e,h⟩
  ·exact ho E
  ·cases AO:o1.live with
   | false=>cases o1<;>simp_all [O.live];trivial
   | true=>exact(R.heap k1 o1 h).evo E (AZ _ (fun he=>e (R.hinj k1 k o1 o h hk AO hl he)))
 ·intro k1 k2 o1 o2 h1 h2 l1 l2 he;obtain⟨p1,q1,m1⟩:=AA k1 o1 h1 l1;obtain⟨p2,q2,m2⟩:=AA k2 o2 h2 l2;exact R.hinj k1 k2 p1 p2 q1 q2 m1 m2 he
 ·intro t k1 o1 ht h AO;obtain⟨p1,q1,m1⟩:=AA k1 o1 h AO;exact R.lh t k1 p1 ht q1 m1
 ·rintro r S0 ⟨k1,o1,h,D8,AO,he⟩;rcases Al k1 o1 h with⟨rfl,rfl⟩ | ⟨e,h⟩
  ·exact hA r S0 he.symm
  ·exact R.aH r S0 ⟨k1,o1,h,D8,AO,he⟩
 ·intro r h;rw[AS];exact R.alt r h
 ·intro k1 sz rs h;rcases Al k1 _ h with⟨rfl,g⟩ | ⟨e,h⟩
  ·exact absurd g.symm (Fm sz rs)
  ·exact R.afz k1 sz rs h
 ·intro k1 h;have:k1≠k:=by rintro rfl;have:=R.fresh k1 h;simp[hk]at this
  simp only[zad _ _ this];exact R.fresh k1 h
 ·intro g j x h;obtain⟨h1,⟨te,F1⟩,v,hv,hr⟩:=R.glob g j x h;exact⟨h1,⟨te,E.shp _ _ F1⟩,v,by rw[cell?_eq (AZ _ (hA _ h1))];exact hv,hr.mono E.blk E.sub⟩
 ·rw[AS];exact R.csize
 ·intro r h1 h2;rw[AZ r ?_]
  ·exact R.ckeep r h1 h2
  ·rintro rfl;rcases R.clive _ ⟨k,o,hk,hm,hl,rfl⟩with h | h
   ·exact h2 h
   ·omega
 ·intro r x h;exact hs r x (R.cshp r x h)
 ·rintro r ⟨k1,o1,h,D8,AO,he⟩;rcases Al k1 o1 h with⟨rfl,rfl⟩ | ⟨e,h⟩
  ·exact R.clive r ⟨k1,o,hk,hm,hl,he⟩
  ·exact R.clive r ⟨k1,o1,h,D8,AO,he⟩
 ·intro k1 o1 h;obtain⟨o2,h2,h3,h4⟩:=R.chp k1 o1 h
  by_cases e:k1=k
  ·subst e;rw[hk]at h2;cases h2;exact⟨o',by simp,O.le_trans h3 A5,fun _=>h4 hl⟩
  ·exact⟨o2,by simp only[zad _ _ e];exact h2,h3,h4⟩
theorem Rel.kill (R:Rel N c ns A μ lam s a w) {k:Nat} {o:O} (hk:s.heap k=some o):Rel N c ns A μ lam { s with heap:=upd s.heap k (some .dead) } a w:=by
 have E:Evo w A μ s.heap w A μ (upd s.heap k (some .dead)):=by
  refine⟨fun _ _=>rfl,fun _ h=>h,fun k1 o1 h=> ?_,fun _ _ h=>h⟩
  by_cases e:k1=k
  ·subst e;exact⟨.dead,by simp,by cases o1<;>trivial,fun _=>rfl⟩
  ·exact⟨o1,by rw[zad _ _ e];exact h,O.le_refl o1,fun _=>rfl⟩
 have AA: ∀k1 o1,(upd s.heap k (some .dead)) k1=some o1->o1.live=true->k1≠k/\s.heap k1=some o1:=by
  intro k1 o1 h AO
  by_cases e:k1=k
  ·subst e;simp at h;subst h;simp[O.live]at AO
  ·rw[zad _ _ e]at h;exact⟨e,h⟩
 refine{ R with env:=fun t=>(R.env t).evo E,loc:= ?_,heap:= ?_,hinj:= ?_,lh:= ?_,aH:= ?_,afz:=fun k1 sz rs h=>R.afz k1 sz rs (AA k1 _ h rfl).2,fresh:= ?_,clive:= ?_,chp:= ?_ }
 ·intro t cs h;obtain⟨h1,h2⟩:=R.loc t cs h;exact⟨h1,h2.evo E rfl⟩
 ·intro k1 o1 h
  cases AO:o1.live with
  | false=>cases o1<;>simp_all [O.live];trivial
  | true=>exact(R.heap k1 o1 (AA k1 o1 h AO).2).evo E rfl
 ·intro k1 k2 o1 o2 h1 h2 l1 l2 he;exact R.hinj k1 k2 o1 o2 (AA k1 o1 h1 l1).2 (AA k2 o2 h2 l2).2 l1 l2 he
 ·intro t k1 o1 ht h AO;exact R.lh t k1 o1 ht (AA k1 o1 h AO).2 AO
 ·rintro r S0 ⟨k1,o1,h,D8,AO,he⟩;exact R.aH r S0 ⟨k1,o1,(AA k1 o1 h AO).2,D8,AO,he⟩
 ·intro k1 h;have:k1≠k:=by rintro rfl;have:=R.fresh k1 h;simp[hk]at this
  simp only[zad _ _ this];exact R.fresh k1 h
 ·rintro r ⟨k1,o1,h,D8,AO,he⟩;exact R.clive r ⟨k1,o1,(AA k1 o1 h AO).2,D8,AO,he⟩
 ·intro k1 o1 h;obtain⟨o2,h2,h3,h4⟩:=R.chp k1 o1 h;obtain⟨o3,h5,h6,h7⟩:=E.hp k1 o2 h2;refine⟨o3,h5,O.le_trans h3 h6,fun D9=>h4 ?_⟩;have:=AA k1 o3 h5 D9;rw[this.2]at h2;cases h2;exact D9
theorem Rel.orphan_kill (R:Rel N c ns A μ lam s a w) {k:Nat} {o:O} (hk:s.heap k=some o) (hl:o.live=true) (hm: ∀sz rs,o≠ .rows sz rs true):
 Orphan c A μ lam { s with heap:=upd s.heap k (some .dead) } (μ k):=by
 refine⟨fun h=>R.aH _ h ⟨k,o,hk,hm,hl,rfl⟩,fun t h=>R.lh t k o h hk hl,fun k1 o1 h AO he=> ?_,R.clive _ ⟨k,o,hk,hm,hl,rfl⟩⟩
 by_cases e:k1=k
 ·subst e;simp at h;subst h;simp[O.live]at AO
 ·simp only[zad _ _ e]at h;exact e (R.hinj k1 k o1 o h hk AO hl he)
theorem Rel.adoptL (R:Rel N c ns A μ lam s a w) (d:Nat) (hd:d<ns) (hu:s.used d=false) {r:Nat} (hr:Orphan c A μ lam s r) {cs:List V}
 (ho:zxz w A N.nm μ s.heap r cs):
 Rel N c ns A μ (upd lam d r) (s.apply (some d) { val:=.lb,loc:=some cs }) (a.put (some d) (.pointer (some ⟨r,0,none⟩))) w:=by
 have DQ:d<a.tmps.size:=by rw[R.size];exact hd
 have h0:s.apply (some d) { val:=.lb,loc:=some cs }= { s with env:=upd s.env d .lb,adr:=upd s.adr d none,loc:=upd s.loc d (some cs) }:=rfl;rw[h0]
 have Al: ∀t,((upd s.loc d (some cs)) t).isSome=true->t=d\/(t≠d/\(s.loc t).isSome=true):=by
  intro t h
  by_cases e:t=d
  ·exact .inl e
  ·exact .inr ⟨e,by rwa[zad _ _ e]at h⟩
 refine{ R with size:=by rw[zoS];exact R.size,defers:=by rw[zkX];exact R.defers,env:= ?_,loc:= ?_,adr:= ?_,linj:= ?_,lh:= ?_,aL:= ?_,cloc:= ?_ }
 ·intro t;rw[zf3 a d t _ DQ]
  by_cases ht:t=d
  ·subst ht;simp[zbl]
  ·simp only[zad _ _ ht,if_neg ht];exact R.env t
 ·intro t cs' h;rw[zf3 a d t _ DQ]
  by_cases ht:t=d
  ·subst ht;simp only[zaz,Option.some.injEq]at h;subst h;simp only[zaz,if_true];exact⟨trivial,ho⟩
  ·simp only[zad _ _ ht]at h;simp only[zad _ _ ht,if_neg ht];exact R.loc t cs' h
 ·intro t b o h;rw[zf3 a d t _ DQ]
  by_cases ht:t=d
  ·subst ht;simp at h
  ·simp only[zad _ _ ht]at h;obtain⟨g1,g2,g3⟩:=R.adr t b o h;have hb:b≠d:=by intro hb;subst hb;simp[hu]at g1
   simp only[zad _ _ hb,if_neg ht];exact⟨g1,g2,g3⟩
 ·intro t t' g g' he;rcases Al t g with rfl | ⟨e,q⟩<;>rcases Al t' g' with rfl | ⟨e',q'⟩
  ·rfl
  ·simp only[zaz,zad _ _ e']at he;exact absurd he.symm (hr.l t' q')
  ·simp only[zaz,zad _ _ e]at he;exact absurd he (hr.l t q)
  ·simp only[zad _ _ e,zad _ _ e']at he;exact R.linj t t' q q' he
 ·intro t k o g h hl;rcases Al t g with rfl | ⟨e,g⟩
  ·simp only[zaz];exact fun e=>hr.h k o h hl e.symm
  ·simp only[zad _ _ e];exact R.lh t k o g h hl
 ·rintro r' hA ⟨t,g,he⟩;rcases Al t g with rfl | ⟨e,g⟩
  ·simp only[zaz]at he;subst he;exact hr.a hA
  ·simp only[zad _ _ e]at he;exact R.aL r' hA ⟨t,g,he⟩
 ·intro t g;rcases Al t g with rfl | ⟨e,g⟩
  ·simp only[zaz];exact hr.x
  ·simp only[zad _ _ e];exact R.cloc t g
theorem Rel.changeL (R:Rel N c ns A μ lam s a w) {b:Nat} {cs cs':List V} {w':World} (hb:s.loc b=some cs)
 (AS:w'.heap.size=w.heap.size) (AZ: ∀r,r≠lam b->w'.heap[r]? =w.heap[r]?) (hs: ∀r x,w.shape? r=some x->w'.shape? r=some x)
 (ho:Evo w A μ s.heap w' A μ s.heap->zxz w' A N.nm μ s.heap (lam b) cs') (De:w'.os=w.os/\w'.output=w.output:=by exact⟨rfl,rfl⟩):
 Rel N c ns A μ lam { s with loc:=upd s.loc b (some cs') } a w':=by
 have Ay:(s.loc b).isSome=true:=by rw[hb];rfl
 have hA: ∀r,A r->r≠lam b:=fun r h e=>R.aL r h ⟨b,Ay,e.symm⟩
 have E:Evo w A μ s.heap w' A μ s.heap:=⟨fun r h=>AZ r (hA r h),fun _ h=>h,fun _ o h=>⟨o,h,O.le_refl o,fun _=>rfl⟩,hs⟩
 have AA: ∀t,((upd s.loc b (some cs')) t).isSome=true->(s.loc t).isSome=true:=by
  intro t h
  by_cases e:t=b
  ·subst e;exact Ay
  ·rwa[zad _ _ e]at h
 have JQ: ∀r:Nat,w.heap[r]? =some (Obj.deferred (some []))->w'.heap[r]? =w.heap[r]? :=fun r h=>AZ r (fun e=>R.ndef_loc Ay (e▸h))
 refine{ R with defers:=R.defers.evo JQ (fun _ _ h=>h),env:=fun t=>(R.env t).evo E,loc:= ?_,adr:= ?_,heap:= ?_,linj:= ?_,lh:= ?_,aL:= ?_,alt:= ?_,glob:= ?_,cout:=⟨De.1.trans R.cout.1,De.2.trans R.cout.2⟩,csize:= ?_,ckeep:= ?_,cshp:= ?_,cloc:= ?_ }
 ·intro t ds h
  by_cases e:t=b
  ·subst e;simp only[zaz,Option.some.injEq]at h;subst h;exact⟨(R.loc t cs hb).1,ho E⟩
  ·simp only[zad _ _ e]at h;obtain⟨h1,h2⟩:=R.loc t ds h;exact⟨h1,h2.evo E (AZ _ (fun he=>e (R.linj t b (by rw[h];rfl) Ay he)))⟩
 ·intro t b' o h;obtain⟨g1,g2,g3⟩:=R.adr t b' o h;refine⟨g1,?_,g3⟩
  by_cases e:b'=b
  ·subst e;simp
  ·simp only[zad _ _ e];exact g2
 ·intro k o h
  cases hl:o.live with
  | false=>cases o<;>simp_all [O.live];trivial
  | true=>exact(R.heap k o h).evo E (AZ _ (fun he=>R.lh b k o Ay h hl he.symm))
 ·intro t t' g g';exact R.linj t t' (AA t g) (AA t' g')
 ·intro t k o g;exact R.lh t k o (AA t g)
 ·rintro r hr ⟨t,g,he⟩;exact R.aL r hr ⟨t,AA t g,he⟩
 ·intro r h;rw[AS];exact R.alt r h
 ·intro g j x h;obtain⟨h1,⟨te,F1⟩,v,hv,hr⟩:=R.glob g j x h;exact⟨h1,⟨te,E.shp _ _ F1⟩,v,by rw[cell?_eq (AZ _ (hA _ h1))];exact hv,hr.mono E.blk E.sub⟩
 ·rw[AS];exact R.csize
 ·intro r h1 h2;rw[AZ r ?_]
  ·exact R.ckeep r h1 h2
  ·rintro rfl;rcases R.cloc b Ay with h | h
   ·exact h2 h
   ·omega
 ·intro r x h;exact hs r x (R.cshp r x h)
 ·intro t g;exact R.cloc t (AA t g)
theorem Rel.freeze (R:Rel N c ns A μ lam s a w) {k sz:Nat} {rs:List (List V)} {frz:Bool} (hk:s.heap k=some (.rows sz rs frz)):
 Rel N c ns (fun r=>A r\/r=μ k) μ lam { s with heap:=upd s.heap k (some (.rows sz rs true)) } a w:=by
 have E:Evo w A μ s.heap w (fun r=>A r\/r=μ k) μ (upd s.heap k (some (.rows sz rs true))):=by
  refine⟨fun _ _=>rfl,fun _ h=> .inl h,fun k1 o1 h=> ?_,fun _ _ h=>h⟩
  by_cases e:k1=k
  ·subst e;rw[hk]at h;cases h;exact⟨.rows sz rs true,by simp,⟨rfl,rfl⟩,fun _=>rfl⟩
  ·exact⟨o1,by rw[zad _ _ e];exact h,O.le_refl o1,fun _=>rfl⟩
 have Al: ∀k1 o1,(upd s.heap k (some (.rows sz rs true))) k1=some o1->(k1=k/\o1= .rows sz rs true)\/(k1≠k/\s.heap k1=some o1):=by
  intro k1 o1 h
  by_cases e:k1=k
  ·subst e;simp at h;exact .inl ⟨rfl,h.symm⟩
  ·rw[zad _ _ e]at h;exact .inr ⟨e,h⟩
 have AA: ∀k1 o1,(upd s.heap k (some (.rows sz rs true))) k1=some o1->o1.live=true-> ∃o2,s.heap k1=some o2/\o2.live=true:=by
  intro k1 o1 h AO;rcases Al k1 o1 h with⟨rfl,rfl⟩ | ⟨_,h⟩
  ·exact⟨_,hk,rfl⟩
  ·exact⟨o1,h,AO⟩
 have JQ: ∀r:Nat,w.heap[r]? =some (Obj.deferred (some []))->(A r\/r=μ k)->A r:=fun r h h'=>h'.resolve_right (fun e=>R.ndef hk rfl (e▸h))
 refine{ R with defers:=R.defers.evo (fun _ _=>rfl) JQ,env:=fun t=>(R.env t).evo E,loc:= ?_,heap:= ?_,hinj:= ?_,lh:= ?_,aH:= ?_,aL:= ?_,alt:= ?_,afz:= ?_,fresh:= ?_,glob:= ?_,csub:= ?_,canew:= ?_,clive:= ?_,chp:= ?_ }
 ·intro t cs h;obtain⟨h1,h2⟩:=R.loc t cs h;exact⟨h1,h2.evo E rfl⟩
 ·intro k1 o1 h;rcases Al k1 o1 h with⟨rfl,rfl⟩ | ⟨e,h⟩
  ·obtain⟨cc,e0,z,h1,h2,h3,h4,h5⟩:=(R.heap k1 _ hk).evo E rfl;exact⟨cc,e0,z,h1,(by simp),h3,h4,h5⟩
  ·exact(R.heap k1 o1 h).evo E rfl
 ·intro k1 k2 o1 o2 h1 h2 l1 l2 he;obtain⟨p1,q1,m1⟩:=AA k1 o1 h1 l1;obtain⟨p2,q2,m2⟩:=AA k2 o2 h2 l2;exact R.hinj k1 k2 p1 p2 q1 q2 m1 m2 he
 ·intro t k1 o1 ht h AO;obtain⟨p1,q1,m1⟩:=AA k1 o1 h AO;exact R.lh t k1 p1 ht q1 m1
 ·rintro r S0 ⟨k1,o1,h,D8,AO,he⟩;rcases Al k1 o1 h with⟨rfl,rfl⟩ | ⟨e,h⟩
  ·exact D8 sz rs rfl
  ·rcases S0 with S0 | rfl
   ·exact R.aH r S0 ⟨k1,o1,h,D8,AO,he⟩
   ·exact e (R.hinj k1 k o1 _ h hk AO rfl he)
 ·rintro r (S0 | rfl) ⟨t,g,he⟩
  ·exact R.aL r S0 ⟨t,g,he⟩
  ·exact R.lh t k _ g hk rfl he
 ·rintro r (h | rfl)
  ·exact R.alt r h
  ·exact R.lt_live hk rfl
 ·intro k1 sz1 rs1 h;rcases Al k1 _ h with⟨rfl,h⟩ | ⟨e,h⟩
  ·exact .inr rfl
  ·exact .inl (R.afz k1 sz1 rs1 h)
 ·intro k1 h;have:k1≠k:=by rintro rfl;have:=R.fresh k1 h;simp[hk]at this
  simp only[zad _ _ this];exact R.fresh k1 h
 ·intro g j x h;obtain⟨h1,⟨te,F1⟩,v,hv,hr⟩:=R.glob g j x h;exact⟨.inl h1,⟨te,F1⟩,v,hv,hr.mono E.blk E.sub⟩
 ·intro r h;exact .inl (R.csub r h)
 ·rintro r (h | rfl)
  ·exact R.canew r h
  ·cases frz with
   | true=>exact R.canew _ (R.afz k sz rs hk)
   | false=>exact .inr (R.clive _ ⟨k,_,hk,by simp,rfl,rfl⟩)
 ·rintro r ⟨k1,o1,h,D8,AO,he⟩;rcases Al k1 o1 h with⟨rfl,rfl⟩ | ⟨e,h⟩
  ·exact absurd rfl (D8 sz rs)
  ·exact R.clive r ⟨k1,o1,h,D8,AO,he⟩
 ·intro k1 o1 h;obtain⟨o2,h2,h3,h4⟩:=R.chp k1 o1 h;obtain⟨o3,h5,h6,h7⟩:=E.hp k1 o2 h2;refine⟨o3,h5,O.le_trans h3 h6,fun D9=>h4 ?_⟩;obtain⟨o4,h8,h9⟩:=AA k1 o3 h5 D9;rw[h8]at h2;cases h2;exact h9
end
end Rg
end
section
namespace Rg
theorem zA.{u} {α:Type u} (a b:α):(some a=some b)=(a=b):=Option.some.injEq a b
theorem zB.{u,v} {α:Type u} {b:α} {β:Type v} {x:Option β} {f:β->Option α}:x.bind f=some b<->∃ a,x=some a/\f a=some b:=Option.bind_eq_some_iff
theorem zC.{u} {α β:Type u}:(bind:Option α->(α->Option β)->Option β)=Option.bind:=rfl
theorem zH.{u} {α:Type u} {i:Nat} {a:α} {l:List α}:l[i]? = some a<->∃ h:i<l.length,l[i]=a:=List.getElem?_eq_some_iff
theorem zD.{u,v} {α:Type u} {β:Type v} (a:α) (f:α->Option β):(some a).bind f=f a:=rfl
theorem zI.{u} {α:Type u} {l:List α} {i:Nat} (h:i<l.length):l[i]? = some l[i]:=List.getElem?_eq_getElem h
theorem zF (a b:Bool):((a&&b)=true)=(a=true/\b=true):=Bool.and_eq_true a b
theorem zE.{u,v} {α:Type u} {b:α} {β:Type v} {x:Option β} {f:β->α}:x.map f=some b<->∃ a,x=some a/\f a=b:=Option.map_eq_some_iff
theorem zG:(false=true)=False:=Bool.false_eq_true
theorem zJ.{u,v} {α:Type u} {β:Type v} {f:α->β} {l:List α} {i:Nat}:(l.map f)[i]? = l[i]?.map f:=List.getElem?_map
theorem zK.{u} {α:Type u} {l:List α} {i:Nat} {a:α}:l.getD i a=l[i]?.getD a:=List.getD_eq_getElem?_getD
theorem zL.{u} {α:Type u} {l:List α} {i:Nat} {a:α} (h:l[i]? = some a):a∈l:=List.mem_of_getElem? h
theorem zM.{u} {α:Type u} {as bs:List α}:(as++bs).length=as.length+bs.length:=List.length_append
theorem zN.{u} {α:Type u} {p:α->Bool} {l:List α}:l.all p=true<->∀ x,x∈l->p x=true:=List.all_eq_true
theorem zO.{u} {α:Type u} {l:List α} {i j:Nat}:(l.take i)[j]? = if j<i then l[j]? else none:=List.getElem?_take
theorem zQ.{u} {α:Type u} (as bs cs:List α):as++bs++cs=as++(bs++cs):=List.append_assoc as bs cs
abbrev zU:V:=.t (.int .u64 0)
end Rg
end
