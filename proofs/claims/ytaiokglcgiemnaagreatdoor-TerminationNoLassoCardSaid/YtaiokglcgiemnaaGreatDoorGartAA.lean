/- Part of the proof of laws of relyguardlaw36. No condition. -/
import Derived.Calls
import Derived.Laws.Sem
import Derived.Laws.World
import Derived.Lib.SlicesCompact
import Derived.Lib.ItoaNum
import Derived.Lib.Join
import Derived.Laws.CopyRow
set_option linter.unusedVariables false
set_option linter.defProp false
set_option linter.unusedSimpArgs false
section
namespace Rg
theorem aa {p:Prop} (h:p:=by omega):p:=h
theorem af {p:Prop} (h:p:=by simp):p:=h
theorem aG {p:Prop} (h:p:=by decide):p:=h
theorem aj {p:Prop} (h:p:=by kernel_rfl):p:=h
theorem bD {p:Prop} (h:p:=by assumption):p:=h
theorem bG {α:Type} {x:Option α} {b c:α} (h:x=some b) (e:b=c:=by kernel_rfl):x=some c:=h.trans (congrArg some e)
theorem al {a b:Prop} (h:a) (f:a->b:=by intro h;simpa using h):b:=f h
def ac:=@if_neg
def aQ:=@decide_eq_true_eq
def ay:=@Nat.le_refl
def ah:=@if_pos
def aT:=@List.map_cons
def bU:=@List.getElem?_append_left
def be:=@List.take_length
def bB:=@List.mem_singleton
def aI:=@eq_false
def bc:=@List.map_nil
def bJ:=@List.length_take
def fu:=@List.eq_nil_of_length_eq_zero
def c6:=@List.take_of_length_le
def bz:=@congrArg
def dv:=@List.getElem?_cons_zero
def cx:=@List.getElem?_set
def bw:=@Nat.lt_or_ge
def bW:=@List.append_nil
def eJ:=@List.getElem?_append_right
def dh:=@List.getD_cons_zero
def d8:=@decide_eq_false_iff_not
def aX:=@if_false
def cz:=@List.mem_append
def aU:=@if_true
def dT:=@Nat.mul_le_mul_right
def eu:=@Array.getElem?_toList
def cL:=@List.length_set
def aW:=@eq_true
def dR:=@List.getD_cons_succ
def gQ:=@Array.getElem?_eq_some_iff
def cj:=@List.mem_cons
def du:=@List.flatMap_cons
def cZ:=@Option.map_some
def cP:=@List.length_map
def dk:=@List.mem_flatMap
def eH:=@List.getElem?_of_mem
def cQ:=@List.mapM_cons
def cy:=@List.mem_map
def dc:=@decide_eq_true
def cw:=@Prod.exists
def dx:=@Prod.mk.injEq
def gp:=@List.length_singleton
def gq:=@List.getElem?_eq_none
def d_:=@List.length_cons
def cU:=@Nat.le_trans
def fh:=@List.mem_cons_self
def eI:=@Bool.not_eq_true'
def d6:=@List.map_append
def gt:=@List.mem_cons_of_mem
def fw:=@Nat.lt_of_lt_of_le
def fx:=@List.getElem?_drop
def iA:=@Array.getElem?_eq_getElem
def dS:=@List.mem_range
def ep:=@decide_eq_false
def gU:=@List.getElem?_set_ne
def ff:=@List.nil_append
def ka:=@List.mem_zipIdx_iff_getElem?
def iz:=@List.getElem?_set_self
def fg:=@Bool.or_eq_true
def d9:=@List.getD_nil
def ii:=@List.mem_append_left
def fR:=@List.flatMap_nil
def dI:=@Nat.sub_self
def ke:=@Array.getD_eq_getD_getElem?
def iB:=@List.length_replicate
def ey:=@List.all_cons
def eA:=@Bool.true_and
def jR:=@Array.getElem?_eq_none
def fy:=@List.take_zero
def bX:=@Ne.symm
def gx:=@Option.getD_some
def f_:=@List.mem_filter
def gu:=@List.cons.injEq
def gW:=@Array.toList_inj
def iC:=@List.filter_append
def jc:=@List.flatMap_append
def js:=@Bool.or_eq_false_iff
def iD:=@List.foldl_append
def ku:=@List.length_filter_le
def lx:=@List.length_eq_zero_iff
def lz:=@List.getElem?_cons_succ
def jt:=@List.getElem?_range
def gv:=@Bool.and_true
def fA:=@Nat.add_mul
def lA:=@Bool.and_eq_false_iff
def iy:=@List.foldl_cons
def ij:=@List.drop_zero
def jd:=@List.cons_append
def ik:=@Bool.false_and
def lB:=@List.mem_of_mem_take
def gy:=@Nat.zero_add
def jb:=@Nat.min_eq_left
def nj:=@List.eq_of_mem_replicate
def gV:=@Nat.add_zero
def nk:=@List.getElem?_replicate
def no:=@List.flatMap_eq_nil_iff
def dU:=@or_false
def mK:=@List.getElem?_append
def jQ:=@List.length_nil
def kf:=@Option.getD_none
def ki:=@List.not_mem_nil
def oH:=@List.getElem?_zip_eq_some
def oJ:=@List.getElem?_eq_none_iff
def kW:=@Int.toNat_natCast
def kj:=@List.length_zip
def mh:=@Option.isSome_none
def mR:=@List.map_toArray
def lu:=@List.any_eq_true
def rz:=@List.findIdx?_eq_some_iff_getElem
def jq:=@Bool.not_true
def pA:=@List.length_eraseIdx_of_lt
def oU:=@List.drop_of_length_le
def mi:=@Int.emod_eq_of_lt
def nH:=@List.length_reverse
def qX:=@Array.length_toList
def jF:=@Nat.mul_one
def iN:=@Int.le_refl
def qt:=@List.pairwise_iff_getElem
def vx:=@Array.getElem?_modify
def nh:=@Nat.eq_zero_or_pos
def mg:=@List.getElem_mem
def ni:=@Bool.not_eq_false'
def nQ:=@List.contains_eq_mem
def lr:=@Bool.not_false
def oE:=@List.replicate_succ
def pz:=@List.range_succ_eq_map
def lC:=@Nat.lt_irrefl
def pn:=@List.length_drop
def rK:=@Array.getElem?_append_left
def np:=@Option.map_none
def nq:=@List.all_append
def nT:=@of_decide_eq_true
def lD:=@Nat.succ_mul
def o9:=@List.nodup_append
def rL:=@Option.isSome_iff_exists
def pY:=@List.getElem_of_mem
def pZ:=@Array.getElem?_push
def iq:=@false_or
def o_:=@List.filter_cons
def lE:=@decide_true
def tf:=@List.take_append_of_le_length
def p5:=@UInt8.toNat_ofNat'
def qW:=@Option.isSome_some
def p6:=@Nat.lt_of_le_of_lt
def p7:=@List.mem_filterMap
def mj:=@List.map_map
def p8:=@List.find?_eq_none
def pa:=@Option.some.inj
def nr:=@Nat.add_assoc
def p9:=@List.length_range
def p_:=@List.ext_getElem?
def pr:=@Nat.zero_le
def rB:=@Nat.pow_le_pow_right
def s9:=@List.nodup_iff_pairwise_ne
def o6:=@List.foldl_nil
def il:=@true_or
def im:=@or_true
def io:=@or_self
def s_:=@List.findIdx?_eq_none_iff
def rC:=@Nat.mul_le_mul_left
def rD:=@List.map_congr_left
def qr:=@List.nodup_cons
def rE:=@List.filterMap_nil
def kx:=@and_self
def rG:=@Option.some.injEq
def rH:=@Nat.succ_le_of_lt
def o7:=@Nat.mul_comm
def o8:=@List.map_set
def rI:=@Bool.not_eq_false
def ta:=@List.mem_append_right
def tc:=@List.length_mergeSort
def td:=@List.getElem?_toArray
def vp:=@Nat.lt_succ_self
def rJ:=@List.drop_length
def qs:=@List.any_cons
def nN:=@true_and
def s6:=@List.mem_iff_getElem
def rA:=@List.filter_nil
def AW:=@Array.getElem?_setIfInBounds
def s7:=@List.replicate_zero
def s8:=@List.filterMap_cons
def pX:=@decide_false
def qp:=@Nat.ne_of_lt
def z7:=@List.idxOf_lt_length_of_mem
def qq:=@List.all_nil
def oZ:=@beq_iff_eq
def AZ:=@List.eraseIdx_of_length_le
def rg:=@Bool.and_false
def tq:=@Array.ext_getElem?
def vT:=@List.drop_eq_getElem_cons
def sN:=@not_false_eq_true
def sO:=@bne_self_eq_false
def sP:=@List.isEmpty_cons
def sQ:=@Decidable.not_not
def rh:=@List.sum_cons
def vU:=@List.mem_of_mem_eraseIdx
def vW:=@List.length_filterMap_le
def sR:=@decide_eq_decide
def nt:=@and_true
def sS:=@Option.bind_none
def sT:=@Nat.mod_eq_of_lt
def sU:=@List.isEmpty_nil
def vX:=@List.pairwise_lt_range
def vY:=@List.append_eq_nil_iff
def rj:=@List.any_map
def qa:=@Array.ext'
def sV:=@Nat.not_lt_zero
def sW:=@List.range_succ
def sX:=@List.map_const'
def vZ:=@List.singleton_append
def v6:=@List.set_append_right
def v7:=@List.filterMap_append
def tj:=@Nat.mul_le_mul
def vq:=@Nat.le_succ
def p':=@false_and
def wi:=@List.length_pos_iff
def wj:=@List.filter_eq_self
def tm:=@List.mapM_nil
def ml:=@not_or
def wk:=@List.zip_cons_cons
def wb:=@List.pairwise_cons
def wc:=@BitVec.toNat_ofInt
def we:=@Array.foldl_toList
def tp:=@Nat.sub_zero
def wg:=@List.getElem?_nil
def wh:=@List.getElem?_inj
def G_:=@List.eraseIdx_eq_take_drop_succ
def vJ:=@List.getElem_map
def G':=@Int.mul_le_mul_of_nonneg_right
def vK:=@Nat.mul_eq_zero
def vN:=@List.zipIdx_nil
def vP:=@List.any_append
def vQ:=@Int.emod_nonneg
def vR:=@Array.size_push
def Gn:=@Array.getElem?_append_right
def Gx:=@Option.isSome_eq_false_iff
def A7:=@List.drop_drop
def A9:=@Int.tmod_eq_emod_of_nonneg
def GD:=@Int.fdiv_eq_ediv_of_nonneg
def AU:=@Bool.and_assoc
def GI:=@Option.isNone_iff_eq_none
def GJ:=@List.mem_take_iff_getElem
def GM:=@List.exists_mem_of_ne_nil
def GX:=@Array.mapM_eq_mapM_toList
def wa:=@List.map_take
def v8:=@Bool.false_or
def v_:=@Bool.and_self
def Hi:=@Array.getElem?_replicate
def sY:=@and_false
def Hk:=@List.length_eraseIdx_le
def Hp:=@Int.ediv_ediv_of_nonneg
def Hq:=@List.getElem?_eraseIdx
def wJ:=@Bool.true_or
def HA:=@List.getElem?_reverse
def H_:=@Array.getElem?_append
def sZ:=@Prod.ext
def xi:=@Nat.mul_add
def Ib:=@Nat.div_lt_of_lt_mul
def xj:=@Int.one_mul
def Ik:=@beq_eq_false_iff_ne
open Go
inductive T where
 | int (k:IntKind) (n:Int)
 | bool (b:Bool)
 | str (s:ByteArray)
 | nilp | nils | nilm | nilf | nili
 | sl (es:List (List T))
 | ip (cs:List T)
 | fn (f:Nat) (first cap:List T)
 | fa (f:Nat) (cs:List T)
 | opq
 | slc (es:List (List T))
 deriving Inhabited
inductive V where
 | t (x:T)
 | ms (k i len:Nat)
 | mp (k i off:Nat)
 | mm (k:Nat)
 | yl (k:Nat)
 | fn (f:Nat) (first cap:List V)
 | agg (cs:List V)
 | tup (cs:List V)
 | undef
 | lb
 deriving Inhabited
inductive Opd where
 | s (t:Nat)
 | c (v:V)
 | g (k:Nat)
 deriving Inhabited
inductive AOp where
 | mv (x:Opd)
 | pick (c a b:Opd)
 | allocL (cells:List V)
 | allocH (cells:List V)
 | allocB
 | boxL (n:Nat) (x:Opd)
 | boxH (n:Nat) (x:Opd)
 | build (zero:List V) (parts:List (Nat×Nat×Opd))
 | bslice (sz len:Nat) (zero:List V) (parts:List (Nat×Opd))
 | loadL (ag:Bool) (n:Nat) (a:Opd)
 | load (ag:Bool) (n:Nat) (a:Opd)
 | storeL (n:Nat) (a v:Opd)
 | store (n:Nat) (a v:Opd)
 | nilchk (x:Opd)
 | bin (op:BinOp) (x y:Opd)
 | eqb (neg:Bool) (x y:Opd)
 | eqa (neg:Bool) (ks:List Nat) (x y:Opd)
 | mx (mn:Bool) (x y:Opd)
 | un (op:UnOp) (x:Opd)
 | conv (k:IntKind) (x:Opd)
 | mkfn (f:Nat) (first cap:List Opd)
 | mkfnT (f:Nat) (x:Opd)
 | mkslice (sz bytes:Nat) (zero:List V) (l c:Opd)
 | slice (sz:Nat) (x:Opd) (lo hi mx:Option Opd)
 | slstr (x:Opd) (lo hi:Option Opd)
 | faddrL (off:Nat) (x:Opd)
 | faddr (off:Nat) (x:Opd)
 | field (ag:Bool) (off n:Nat) (x:Opd)
 | iaddrS (sz:Nat) (x i:Opd)
 | iaddrAL (len sz:Nat) (x i:Opd)
 | iaddrA (len sz:Nat) (x i:Opd)
 | idxA (ag:Bool) (len sz:Nat) (x i:Opd)
 | idxS (x i:Opd)
 | bstr (x:Opd)
 | extr (x:Opd) (i:Nat)
 | len (x:Opd)
 | slen (x:Opd)
 | lenA (n:Nat)
 | capN (x:Opd)
 | appz (sz bytes:Nat) (zero:List V) (x l:Opd)
 | stop
 | append (sz bytes:Nat) (x y:Opd)
 | copy (sz:Nat) (x y:Opd)
 | clear(sz:Nat) (zero:List V) (x:Opd)
 | mkmap
 | lookup (kd:Nat) (zero:V) (ok:Bool) (m k:Opd)
 | mapupd (kd:Nat) (m k v:Opd)
 | call (raw:Bool) (f:Opd) (args:List Opd)
 | fcall (f:Opd) (args:List Opd)
 deriving Inhabited
structure ROp where
 guard:Option (Nat×Bool)
 dst:Option Nat
 op:AOp
 deriving Inhabited
inductive Ext where
 | sortI
 | compactI
 | cloneI
 | cloneT (sz:Nat)
 | itoa
 | joinS
 | bldS
 | bldB
 | bldG
 deriving Inhabited
inductive C where
 | skip
 | region (draw:Bool) (ops:List ROp)
 | regionD (ck:List (Nat×Nat)) (ops:List ROp)
 | seq (a b:C)
 | cond (c:Opd) (a b:C)
 | block (id:Nat) (b:C)
 | loop (b:C)
 | exit (id:Nat)
 | ret
 | ext (e:Ext)
 | rangeF (g:Opd) (ps:List Nat) (b:C)
 | round (a b:C)
 deriving Inhabited
inductive Ex where
 | normal
 | exit (id:Nat)
 | ret
 deriving DecidableEq
inductive LSt where
 | ready
 | enter
 | busy
 | done (e:Ex)
def LSt.ends:LSt->Option Ex
 | .ready=>some .normal
 | .enter=>none
 | .busy=>none
 | .done e=>some e
def Ex.toL:Ex->LSt
 | .normal=> .ready
 | e=> .done e
inductive Bx where
 | bld (g:Option Nat)
 | mid
 | buf (l:List UInt8)
inductive O where
 | rows (sz:Nat) (rs:List (List V)) (frz:Bool)
 | map (es:List (T×V))
 | loop (env:Nat->V) (ps:List Nat) (b:C) (st:LSt)
 | raw (b:Bx)
 | dead
 deriving Inhabited
abbrev ae:=Nat->Option O
structure St where
 env:Nat->V
 loc:Nat->Option (List V)
 adr:Nat->Option (Nat×Nat)
 used:Nat->Bool
 heap:Nat->Option O
 nxt:Nat
 bas:Nat
inductive Res where
 | s (t:Nat)
 | l (t:Nat) (ag:Bool) (n:Nat)
 | h (t:Nat) (ag:Bool) (n:Nat)
 deriving Inhabited
structure F where
 nslots:Nat
 raw:Bool
 results:List Res
 body:C
 deriving Inhabited
def upd {α:Type} (f:Nat->α) (i:Nat) (v:α):Nat->α:=fun j=>if j=i then v else f j
@[simp]theorem cV {α:Type} (f:Nat->α) (i:Nat) (v:α):upd f i v i=v:=by simp[upd]
theorem aP {α:Type} (f:Nat->α) {i j:Nat} (v:α) (h:j≠i):upd f i v j=f j:=by simp[upd,h]
def V.cells:V->Option (List V)
 | .agg cs=>some cs
 | .tup _ | .undef | .lb=>none
 | v=>some [v]
def V.isCell:V->Bool
 | .agg _ | .tup _ | .undef | .lb=>false
 | _=>true
def V.one:V->Bool
 | .tup _ | .undef | .lb=>false
 | _=>true
section
variable (G:Nat->List T)
def evl (s:St):Opd->Option V
 | .s t=>match s.env t with
   | .undef=>none
   | .lb=>none
   | v=>some v
 | .c v=>some v
 | .g k=>some (.t (.ip (G k)))
def bF (s:St):Opd->Option (Nat×Nat)
 | .s t=>match s.adr t with
   | some r=>some r
   | none=>match s.env t with
     | .lb=>some (t,0)
     | _=>none
 | _=>none
def cY (s:St):List Opd->Option (List V)
 | []=>some []
 | x::xs=>do
   let v<- evl G s x
   let vs<- cY s xs
   some (v::vs)
def eZ (s:St) (x:Opd):Option Int:=
 match evl G s x with
 | some (.t (.int _ n))=>some n
 | _=>none
def ib (s:St) (x:Opd):Option Bool:=
 match evl G s x with
 | some (.t (.bool b))=>some b
 | _=>none
def rd {α:Type} (cs:List α) (b n:Nat):Option (List α):=
 if b+n<=cs.length then some ((cs.drop b).take n)else none
def dW (ag:Bool) (r:List V):Option V:=
 if ag then some (.agg r)else match r with
  | [v]=>some v
  | _=>none
def wr {α:Type} (cs:List α) (d:Nat) (b:List α):Option (List α):=
 if d+b.length<=cs.length then some (cs.take d++b++cs.drop (d+b.length))else none
def mQ (op:BinOp) (x y:T):Option T:=
 match x,y with
 | .int k a,.int k' b=>
   match op with
   | .shl=>if b<0 then none else some (.int k (k.wrap (a*2^min b.toNat k.bits)))
   | .shr=>if b<0 then none else some (.int k (a.fdiv (2^min b.toNat k.bits)))
   | _=>
     if k=k' then
      match op with
      | .add=>some (.int k (k.wrap (a+b)))
      | .sub=>some (.int k (k.wrap (a-b)))
      | .mul=>some (.int k (k.wrap (a*b)))
      | .quo=>if b=0 then none else some (.int k (k.wrap (a.tdiv b)))
      | .rem=>if b=0 then none else some (.int k (a.tmod b))
      | .and=>some (.int k (k.wrap (BitVec.ofInt k.bits a&&& BitVec.ofInt k.bits b).toNat))
      | .or=>some (.int k (k.wrap (BitVec.ofInt k.bits a ||| BitVec.ofInt k.bits b).toNat))
      | .xor=>some (.int k (k.wrap (BitVec.ofInt k.bits a^^^ BitVec.ofInt k.bits b).toNat))
      | .andNot=>some (.int k (k.wrap (BitVec.ofInt k.bits a&&& ~~~BitVec.ofInt k.bits b).toNat))
      | .eql=>some (.bool (a==b))
      | .neq=>some (.bool (a != b))
      | .lss=>some (.bool (a<b))
      | .leq=>some (.bool (a<=b))
      | .gtr=>some (.bool (a>b))
      | .geq=>some (.bool (a>=b))
      | _=>none
     else none
 | .str a,.str b=>
   match op with
   | .add=>if((a.size+b.size:Nat):Int)<=2^40 then some (.str (a++b))else none
   | .eql=>some (.bool (a.toList==b.toList))
   | .neq=>some (.bool !(a.toList==b.toList))
   | .lss=>some (.bool (Op.bytesLess a.toList b.toList))
   | .leq=>some (.bool (Op.bytesLess a.toList b.toList||a.toList==b.toList))
   | .gtr=>some (.bool !(Op.bytesLess a.toList b.toList||a.toList==b.toList))
   | .geq=>some (.bool !(Op.bytesLess a.toList b.toList))
   | _=>none
 | _,_=>none
def mxT (mn:Bool) (x y:T):Option T:=
 match x,y with
 | .int k a,.int k' b=>if k=k' then some (.int k (if mn then(if b<a then b else a)else(if b>a then b else a)))else none
 | _,_=>none
def unT (op:UnOp) (x:T):Option T:=
 match op,x with
 | .neg,.int k n=>some (.int k (k.wrap (0-n)))
 | .xor,.int k n=>some (.int k (k.wrap (BitVec.ofInt k.bits (if k.signed then -1 else k.max)^^^ BitVec.ofInt k.bits n).toNat))
 | .not,.bool b=>some (.bool !b)
 | _,_=>none
def mH (n:Nat) (x y:V):Option Bool:=
 match x,y with
 | .t (.int k a),.t (.int k' b)=>if n=0/\k=k' then some (a==b)else none
 | .t (.bool a),.t (.bool b)=>if n=1 then some (a==b)else none
 | .t (.str a),.t (.str b)=>if n=2 then some (a.toList==b.toList)else none
 | _,_=>none
def dB:List Nat->List V->List V->Option Bool
 | [],[],[]=>some true
 | n::ns,x::xs,y::ys=>do
   let b<- mH n x y
   let r<- dB ns xs ys
   some (b&&r)
 | _,_,_=>none
def gJ (s:St):V->Option (List (List V))
 | .t .nils=>some []
 | .t (.sl es)=>some (es.map (·.map V.t))
 | .t (.slc es)=>some (es.map (·.map V.t))
 | .ms k i len=>match s.heap k with
   | some (.rows _ rs _)=>rd rs i len
   | _=>none
 | _=>none
def lenOf (s:St):V->Option Nat
 | .t .nils=>some 0
 | .t (.sl es)=>some es.length
 | .t (.slc es)=>some es.length
 | .ms k _ len=>match s.heap k with
   | some (.rows _ _ _)=>some len
   | _=>none
 | _=>none
structure Eff where
 val:V:=.undef
 adr:Option (Nat×Nat):=none
 loc:Option (List V):=none
 wloc:Option (Nat×List V):=none
 hp:List (Nat×O):=[]
def bl (h:ae):List (Nat×O)->ae
 | []=>h
 | (k,o)::r=>bl (upd h k (some o)) r
def St.apply (s:St) (f:Option Nat) (e:Eff):St:=
 { s with
   env:=match f with | some d=>upd s.env d e.val | none=>s.env
   adr:=match f with | some d=>upd s.adr d e.adr | none=>s.adr
   loc:=
    let l:=match e.wloc with | some (b,cs)=>upd s.loc b (some cs) | none=>s.loc
    match f with | some d=>upd l d e.loc | none=>l
   used:=match e.adr with | some (b,_)=>upd s.used b true | none=>s.used
   heap:=bl s.heap e.hp }
def jf (cs:List V) (s:St):List (Nat×Nat×Opd)->Option (List V)
 | []=>some cs
 | (off,n,x)::r=>do
   let v<- evl G s x
   let new<- v.cells
   if new.length=n then
    let cs<- wr cs off new
    jf cs s r
   else none
def jx (rs:List (List V)) (b:Nat) (s:St):List (Nat×Opd)->Option (List (List V))
 | []=>some rs
 | (i,x)::r=>do
   let v<- evl G s x
   let new<- v.cells
   if new.length=b/\i<rs.length then jx (rs.set i new) b s r else none
def eY (s:St) (d:Nat):Option Opd->Option Int
 | none=>some d
 | some x=>eZ G s x
def SE:V->Option T
 | .t (.int k n)=>some (.int k n)
 | .t (.bool b)=>some (.bool b)
 | .t (.str b)=>some (.str b)
 | _=>none
def sd:List V->Option (List T)
 | []=>some []
 | x::r=>do
   let t<- SE x
   let ts<- sd r
   some (t::ts)
def T.kindN:T->Nat
 | .int _ _=>0
 | .bool _=>1
 | _=>2
def j5:List Nat->Nat
 | []=>0
 | k::r=>k+1+4*j5 r
def lT (d:Nat):V->Option T
 | .t (.int k n)=>if d=0 then some (.int k n)else none
 | .t (.bool b)=>if d=1 then some (.bool b)else none
 | .t (.str b)=>if d=2 then some (.str b)else none
 | .agg cs=>(sd cs).bind fun e=>if d=3+j5 (e.map T.kindN)then some (.sl [e])else none
 | _=>none
def yD:T->T->Option Bool
 | .int k a,.int k' b=>if k=k' then some (a==b)else none
 | .str a,.str b=>some (a==b)
 | .bool a,.bool b=>some (a==b)
 | _,_=>none
def jX:List T->List T->Option Bool
 | [],[]=>some true
 | x::xs,y::ys=>do
   let b<- yD x y
   let r<- jX xs ys
   some (b&&r)
 | _,_=>none
def eX:T->T->Option Bool
 | .int k a,.int k' b=>if k=k' then some (a==b)else none
 | .str a,.str b=>some (a==b)
 | .bool a,.bool b=>some (a==b)
 | .sl [a],.sl [b]=>jX a b
 | _,_=>none
def dK (k:T):List (T×V)->Option (Option V)
 | []=>some none
 | (k',v)::r=>match eX k k' with
   | none=>none
   | some true=>some (some v)
   | some false=>dK k r
def da (k:T) (v:V):List (T×V)->Option (List (T×V))
 | []=>some [(k,v)]
 | (k',v')::r=>match eX k k' with
   | none=>none
   | some true=>some ((k,v)::r)
   | some false=>(da k v r).map ((k',v'):: ·)
def T.norm:T->T
 | .nils=> .sl []
 | x=>x
def fJ:List V->Option (List T)
 | []=>some []
 | .t x::r=>(fJ r).map (x.norm:: ·)
 | _=>none
def qE (f:Nat) (a b:List V):Option V:=
 if a.all V.isCell/\b.all V.isCell then some (.fn f a b)
 else match a,b with
  | [.agg cs],[]=>(fJ cs).map fun d=> .t (.fa f d)
  | _,_=>none
def fq {α:Type} (a b rs:List α):List α:=if rs.length<=a.length+b.length then a++b else a++b++rs.drop (a.length+b.length)
def bytesOf:List (List V)->Option (List UInt8)
 | []=>some []
 | [.t (.int .u8 z)]::r=>if 0<=z/\z<256 then(bytesOf r).map (UInt8.ofNat z.toNat:: ·)else none
 | _=>none
def sD (b:Nat) (v:V) (l h m:Int) (n:Nat):V:=match v with
 | .t (.sl es)=>if l=0/\h=n/\m=n/\es.all (·.length=b)then .t (.slc es)else .lb
 | _=> .lb
def ao (p:Nat) (s:St):AOp->Option Eff
 | .mv x=>do
   let v<- evl G s x
   some { val:=v }
 | .pick c a b=>do
   let t<- ib G s c
   let v<- evl G s (if t then a else b)
   some { val:=v }
 | .allocL cells=>some { val:=.lb,loc:=some cells }
 | .allocH cells=>some { val:=.mp (s.bas+p) 0 0,hp:=[(s.bas+p,.rows cells.length [cells] false)] }
 | .allocB=>some { val:=.mp (s.bas+p) 0 0,hp:=[(s.bas+p,.raw (.bld none))] }
 | .boxL n x=>do
   let v<- evl G s x
   let cs<- v.cells
   if cs.length=n then some { val:=.lb,loc:=some cs }else none
 | .boxH n x=>do
   let v<- evl G s x
   let cs<- v.cells
   if cs.length=n then some { val:=.mp (s.bas+p) 0 0,hp:=[(s.bas+p,.rows n [cs] false)] }else none
 | .build zero parts=>do
   let cs<- jf G zero s parts
   some { val:=.agg cs }
 | .bslice d len zero parts=>do
   let rs<- jx G (List.replicate len zero) d s parts
   some { val:=.ms (s.bas+p) 0 len,hp:=[(s.bas+p,.rows d rs false)] }
 | .loadL ag n a=>do
   let(b,e)<- bF s a
   let cs<- s.loc b
   let r<- rd cs e n
   let v<- dW ag r
   some { val:=v }
 | .load ag n a=>do
   match <- evl G s a with
   | .mp k i e=>match s.heap k with
     | some (.rows _ rs _)=>do
       let row<- rs[i]?
       let r<- rd row e n
       let v<- dW ag r
       some { val:=v }
     | _=>none
   | .t (.ip cs)=>do
     let r<- rd cs 0 n
     let v<- dW ag (r.map V.t)
     some { val:=v }
   | _=>none
 | .storeL n a x=>do
   let(b,e)<- bF s a
   let cs<- s.loc b
   let v<- evl G s x
   let new<- v.cells
   if new.length=n then
    let cs'<- wr cs e new
    some { wloc:=some (b,cs') }
   else none
 | .store n a x=>do
   match <- evl G s a with
   | .mp k i e=>match s.heap k with
     | some (.rows d rs false)=>do
       let row<- rs[i]?
       let v<- evl G s x
       let new<- v.cells
       if new.length=n then
        let row'<- wr row e new
        some { hp:=[(k,.rows d (rs.set i row') false)] }
       else none
     | _=>none
   | _=>none
 | .nilchk x=>do
   match <- evl G s x with
   | .mp k i e=>match s.heap k with
     | some (.rows _ _ _)=>some { val:=.mp k i e }
     | _=>none
   | .t (.ip cs)=>some { val:=.t (.ip cs) }
   | .fn f a b=>some { val:=.fn f a b }
   | .t (.fn f a b)=>some { val:=.t (.fn f a b) }
   | .t (.fa f c)=>some { val:=.t (.fa f c) }
   | _=>none
 | .bin op x y=>do
   match <- evl G s x,<- evl G s y with
   | .t a,.t b=>do
     let r<- mQ op a b
     some { val:=.t r }
   | _,_=>none
 | .eqb g x y=>do
   let a<- ib G s x
   let b<- ib G s y
   some { val:=.t (.bool ((a==b) != g)) }
 | .eqa g C x y=>do
   match <- evl G s x,<- evl G s y with
   | .agg a,.agg b=>do
     let r<- dB C a b
     some { val:=.t (.bool (r != g)) }
   | _,_=>none
 | .mx mn x y=>do
   match <- evl G s x,<- evl G s y with
   | .t a,.t b=>do
     let r<- mxT mn a b
     some { val:=.t r }
   | _,_=>none
 | .un op x=>do
   match <- evl G s x with
   | .t a=>do
     let r<- unT op a
     some { val:=.t r }
   | _=>none
 | .conv k x=>do
   let n<- eZ G s x
   some { val:=.t (.int k (k.wrap n)) }
 | .mkfn f first cap=>do
   let a<- cY G s first
   let b<- cY G s cap
   let v<- qE f a b
   some { val:=v }
 | .mkfnT f x=>do
   let v<- evl G s x
   match v with
   | .mp k i e=>
     match s.heap k with
     | some (.rows d [row] _)=>if i=0/\e=0 then(fJ row).bind fun B=>some ({ val:=.t (.fn f [] [.ip B]),hp:=[(k,.rows d [row] true)] }:Eff)else none
     | _=>none
   | _=>none
 | .mkslice d bytes zero l c=>do
   let n<- eZ G s l
   let m<- eZ G s c
   if 0<=n/\n<=m/\m<=2^32/\bytes<=2^12/\zero.length=d then
    some { val:=.ms (s.bas+p) 0 n.toNat,hp:=[(s.bas+p,.rows d (List.replicate n.toNat zero) false)] }
   else none
 | .slice d x lo hi mx=>do
   let v<- evl G s x
   let n<- lenOf s v
   let h<- eY G s n hi
   let l<- eY G s 0 lo
   match mx with
   | none=>
     if 0<=l/\l<=h/\h<=n then
      match v with
      | .t .nils=>some { val:=.t .nils }
      | .t (.sl es)=>if es.all (·.length=d)then some { val:=.t (.sl ((es.drop l.toNat).take (h-l).toNat)) }else none
      | .ms k i _=>match s.heap k with
        | some (.rows sz' _ _)=>if sz'=d then some { val:=.ms k (i+l.toNat) (h-l).toNat }else none
        | _=>none
      | _=>none
     else
      match v with
      | .ms k i _=>match s.heap k with
        | some (.rows sz' rs _)=>if sz'=d/\0<=l/\l<=h/\(i:Int)+h<=rs.length then some { val:=.ms k (i+l.toNat) (h-l).toNat }else none
        | _=>none
      | _=>none
   | some m=>do
     let m<- eZ G s m
     if l=0/\h=0/\m=0/\hi.isSome then
      match v with
      | .t .nils=>some { val:=.t .nils }
      | .t (.sl [])=>some { val:=.t (.slc []) }
      | .t (.sl (_::_))=>some { val:=.t .nils }
      | .ms _ _ _=>some { val:=.t .nils }
      | _=>none
     else if 0<=l/\l<=h/\h<=m/\m<=n/\hi.isSome then some { val:=sD d v l h m n }else none
 | .slstr x lo hi=>do
   match <- evl G s x with
   | .t (.str b)=>do
     let h<- eY G s b.size hi
     let l<- eY G s 0 lo
     if 0<=l/\l<=h/\h<=b.size then some { val:=.t (.str (b.extract l.toNat h.toNat)) }else none
   | _=>none
 | .faddrL e x=>do
   let(b,o)<- bF s x
   let _<- s.loc b
   some { val:=.lb,adr:=some (b,o+e) }
 | .faddr e x=>do
   match <- evl G s x with
   | .mp k i o=>match s.heap k with
     | some (.rows _ _ _)=>some { val:=.mp k i (o+e) }
     | _=>none
   | .t (.ip cs)=>some { val:=.t (.ip (cs.drop e)) }
   | _=>none
 | .field ag e n x=>do
   match <- evl G s x with
   | .agg cs=>do
     let r<- rd cs e n
     let v<- dW ag r
     some { val:=v }
   | _=>none
 | .iaddrS d x i=>do
   let n<- eZ G s i
   match <- evl G s x with
   | .t (.sl es)=>
     if 0<=n then(es[n.toNat]?).bind fun row=>if row.length=d then some { val:=.t (.ip row) }else none
     else none
   | .ms k j len=>match s.heap k with
     | some (.rows sz' _ _)=>if 0<=n/\n<len/\sz'=d then some { val:=.mp k (j+n.toNat) 0 }else none
     | _=>none
   | _=>none
 | .iaddrAL len d x i=>do
   let n<- eZ G s i
   let(b,o)<- bF s x
   let _<- s.loc b
   if 0<=n/\n<len then some { val:=.lb,adr:=some (b,o+n.toNat*d) }else none
 | .iaddrA len d x i=>do
   let n<- eZ G s i
   if 0<=n/\n<len then
    match <- evl G s x with
    | .mp k j o=>match s.heap k with
      | some (.rows _ _ _)=>some { val:=.mp k j (o+n.toNat*d) }
      | _=>none
    | .t (.ip cs)=>some { val:=.t (.ip (cs.drop (n.toNat*d))) }
    | _=>none
   else none
 | .idxA ag len d x i=>do
   let n<- eZ G s i
   match <- evl G s x with
   | .agg cs=>
     if 0<=n/\n<len then(rd cs (n.toNat*d) d).bind fun r=>(dW ag r).bind fun v=>some { val:=v }
     else none
   | _=>none
 | .idxS x i=>do
   let n<- eZ G s i
   match <- evl G s x with
   | .t (.str b)=>
     if 0<=n then(b[n.toNat]?).bind fun c=>some { val:=.t (.int .u8 c.toNat) }
     else none
   | _=>none
 | .bstr x=>do
   let v<- evl G s x
   let rs<- gJ s v
   let l<- bytesOf rs
   some { val:=.t (.str ⟨l.toArray⟩) }
 | .extr x i=>do
   match <- evl G s x with
   | .tup cs=>do
     let v<- cs[i]?
     some { val:=v }
   | _=>none
 | .len x=>do
   let v<- evl G s x
   let n<- lenOf s v
   some { val:=.t (.int .i64 n) }
 | .slen x=>do
   match <- evl G s x with
   | .t (.str b)=>some { val:=.t (.int .i64 b.size) }
   | _=>none
 | .lenA n=>some { val:=.t (.int .i64 n) }
 | .capN x=>do
   match <- evl G s x with
   | .t .nils=>some { val:=.t (.int .i64 0) }
   | _=>none
 | .appz d bytes zero x l=>do
   let n<- eZ G s l
   match <- evl G s x with
   | .t .nils=>
     if 1<=n/\n<=2^32/\bytes<=2^12/\zero.length=d then
      some { val:=.ms (s.bas+p) 0 n.toNat,hp:=[(s.bas+p,.rows d (List.replicate n.toNat zero) false)] }
     else none
   | _=>none
 | .stop=>none
 | .append d bytes x y=>do
   let u<- evl G s x
   let v<- evl G s y
   let a<- gJ s u
   let b<- gJ s v
   if(a.length+b.length<=2^32/\bytes<=2^12)/\b.all (·.length=d)/\a.all (·.length=d)then
    if b.isEmpty then some { val:=u }
    else
     match u with
     | .t .nils=>some { val:=.ms (s.bas+p) 0 b.length,hp:=[(s.bas+p,.rows d b false)] }
     | .t (.slc _)=>((a++b).mapM fJ).bind fun B=>some { val:=.t (.sl B) }
     | .ms k i _=>match s.heap k with
       | some (.rows sz' rs false)=>
         if sz'=d/\i=0 then some { val:=.ms (s.bas+p) 0 (a.length+b.length),hp:=[(k,.dead),(s.bas+p,.rows d (fq a b rs) false)] }else none
       | _=>none
     | _=>none
   else none
 | .copy d x y=>do
   let u<- evl G s x
   let v<- evl G s y
   let b<- gJ s v
   match u with
   | .t .nils=>some { val:=.t (.int .i64 0) }
   | .ms k i len=>match s.heap k with
     | some (.rows sz' rs false)=>
       if sz'=d/\b.all (·.length=d)then
        (wr rs i (b.take len)).bind fun q=>some { val:=.t (.int .i64 (min b.length len:Nat)),hp:=[(k,.rows d q false)] }
       else none
     | _=>none
   | _=>none
 | .clear d zero x=>do
   let u<- evl G s x
   match u with
   | .t .nils=>some { val:=.tup [] }
   | .ms k i len=>match s.heap k with
     | some (.rows sz' rs false)=>
       if sz'=d/\zero.length=d then
        (wr rs i (List.replicate len zero)).bind fun q=>some { val:=.tup [],hp:=[(k,.rows d q false)] }
       else none
     | _=>none
   | _=>none
 | .mkmap=>some { val:=.mm (s.bas+p),hp:=[(s.bas+p,.map [])] }
 | .lookup z zero D m k=>do
   let x<- evl G s k
   let key<- lT z x
   let es<- (match <- evl G s m with
    | .t .nilm=>some []
    | .mm j=>match s.heap j with
      | some (.map es)=>some es
      | _=>none
    | _=>none)
   let r<- dK key es
   if D then some { val:=.tup [r.getD zero,.t (.bool r.isSome)] }else some { val:=r.getD zero }
 | .mapupd z m k v=>do
   let x<- evl G s k
   let key<- lT z x
   let u<- evl G s v
   match <- evl G s m with
   | .mm j=>match s.heap j with
     | some (.map es)=>do
       let es'<- da key u es
       if u.one then some { hp:=[(j,.map es')] }else none
     | _=>none
   | _=>none
 | .call _ _ _=>none
 | .fcall _ _=>none
end
def toT (h:ae):Nat->V->Option T
 | _,.t x=>some x.norm
 | d+1,.ms k i len=>match h k with
   | some (.rows _ rs _)=>do
     let r<- rd rs i len
     let es<- r.mapM (fun row=>row.mapM (toT h d))
     some (.sl es)
   | _=>none
 | d+1,.mp k i off=>match h k with
   | some (.rows _ rs _)=>do
     let row<- rs[i]?
     let cs<- (row.drop off).mapM (toT h d)
     some (.ip cs)
   | _=>none
 | d+1,.fn f a b=>do
   let a'<- a.mapM (toT h d)
   let b'<- b.mapM (toT h d)
   some (.fn f a' b')
 | _+1,.mm k=>match h k with
   | some (.map _)=>some .opq
   | _=>none
 | _,_=>none
def toT1 (h:ae):V->Option V
 | .agg cs=>(cs.mapM (toT h 1000)).map fun b=> .agg (b.map V.t)
 | v=>(toT h 1000 v).map V.t
def reify (h:ae):V->Option V
 | .tup cs=>(cs.mapM (toT1 h)).map V.tup
 | v=>toT1 h v
def cn (h:ae):Nat->V->List Nat
 | d+1,.ms k _ _=>k::(match h k with | some (.rows _ rs _)=>rs.flatMap (·.flatMap (cn h d)) | _=>[])
 | d+1,.mp k _ _=>k::(match h k with | some (.rows _ rs _)=>rs.flatMap (·.flatMap (cn h d)) | _=>[])
 | d+1,.fn _ a b=>a.flatMap (cn h d)++b.flatMap (cn h d)
 | _,_=>[]
def b_ (h:ae):V->List Nat
 | .agg cs=>cs.flatMap (cn h 1000)
 | v=>cn h 1000 v
def T.scalar:T->Bool
 | .sl []=>true
 | .sl _ | .ip _ | .fn _ _ _ | .fa _ _ | .slc _=>false
 | _=>true
def V.scalar1:V->Bool
 | .t x=>x.scalar
 | _=>false
def V.scalar2:V->Bool
 | .agg cs=>cs.all V.scalar1
 | v=>v.scalar1
def V.scalar:V->Bool
 | .tup cs=>cs.all V.scalar2
 | v=>v.scalar2
def freezes (h:ae) (l:List Nat):List (Nat×O):=
 l.filterMap fun k=>match h k with
  | some (.rows sz rs _)=>some (k,.rows sz rs true)
  | _=>none
def St.begin (s:St) (n:Nat):St:=
 { s with adr:=fun _=>none,used:=fun _=>false,bas:=s.nxt,nxt:=s.nxt+n }
def mU (args:List V):Nat->V:=fun t=>args.getD t .undef
def St.init (args:List V) (h:ae) (n:Nat):St:=
 { env:=mU args,loc:=fun _=>none,adr:=fun _=>none,used:=fun _=>false,heap:=h,nxt:=n,bas:=n }
def eW (s:St):Res->Option V
 | .s t=>match s.env t with
   | .undef=>none
   | .lb=>none
   | .tup _=>none
   | v=>some v
 | .l t ag n=>do
   let cs<- s.loc t
   let r<- rd cs 0 n
   dW ag r
 | .h t ag n=>match s.env t with
   | .mp k i b=>match s.heap k with
     | some (.rows _ rs _)=>do
       let row<- rs[i]?
       let r<- rd row b n
       dW ag r
     | _=>none
   | _=>none
def jk (s:St) (rs:List Res):Option V:=do
 let vs<- rs.mapM (eW s)
 match vs with
 | [v]=>some v
 | vs=>some (.tup vs)
def cG:V->Option (Nat×List V×List V)
 | .fn f a b=>some (f,a,b)
 | .t (.fn f a b)=>some (f,a.map V.t,b.map V.t)
 | .t (.fa f c)=>some (f,[.agg (c.map V.t)],[])
 | _=>none
def iw:List (List V)->Option (List Int)
 | []=>some []
 | [.t (.int .i64 z)]::r=>(iw r).map (z:: ·)
 | _=>none
def bY (l:List Int):List (List V):=l.map fun z=>[.t (.int .i64 z)]
def vz (h:ae) (n k:Nat) (b:List UInt8):Option (ae×Nat):=match h k with
 | some (.raw (.bld none))=>if b.length<=140737488355328 then
    if b=[]then some (h,n)else some (upd (upd h n (some (.raw (.buf b)))) k (some (.raw (.bld (some n)))),n+1)else none
 | some (.raw (.bld (some g)))=>match h g with
   | some (.raw (.buf l))=>if l.length+b.length<=140737488355328 then some (upd (upd (upd h g (some .dead)) n (some (.raw (.buf (l++b))))) k (some (.raw (.bld (some n)))),n+1)else none
   | _=>none
 | _=>none
def jo (e:Ext) (args:List V) (h:ae) (n:Nat):Option (V×ae×Nat):=match e,args with
 | .sortI,[.t .nils]=>some (.tup [],h,n)
 | .sortI,[.ms k 0 len]=>match h k with
   | some (.rows 1 rs false)=>(iw rs).bind fun b=>if b.length=len/\len<1099511627776 then some (.tup [],upd h k (some (.rows 1 (bY (b.mergeSort fun x y=>decide (x<=y))) false)),n)else none
   | _=>none
 | .compactI,[.t .nils]=>some (.t (.sl []),h,n)
 | .compactI,[.ms k 0 len]=>match h k with
   | some (.rows 1 rs false)=>(iw rs).bind fun b=>if b.length=len/\len<1099511627776 then some (.t (.sl ((Go.Lib.compact b).map fun z=>[.int .i64 z])),upd h k (some (.rows 1 (bY (Go.Lib.compact b++List.replicate (b.length-(Go.Lib.compact b).length) 0)) true)),n)else none
   | _=>none
 | .cloneI,[.t .nils]=>some (.t (.sl []),h,n)
 | .cloneI,[.t (.sl [])]=>some (.t (.sl []),h,n)
 | .cloneI,[.t (.sl es)]=>(iw (es.map (·.map V.t))).bind fun b=>if b.length<1099511627776 then some (.ms n 0 b.length,upd h n (some (.rows 1 (bY b) false)),n+1)else none
 | .bldS,[.mp k 0 0,.t (.str s)]=>(vz h n k s.data.toList).map fun(h',d)=>(.tup [.t (.int .i64 s.size),.t .nili],h',d)
 | .bldB,[.mp k 0 0,.t (.int .u8 z)]=>if 0<=z/\z<256 then(vz h n k [UInt8.ofNat z.toNat]).map fun(h',d)=>(.t .nili,h',d)else none
 | .bldG,[.mp k 0 0]=>match h k with
   | some (.raw (.bld none))=>some (.t (.str ⟨#[]⟩),upd h k (some .dead),n)
   | some (.raw (.bld (some g)))=>match h g with
     | some (.raw (.buf l))=>some (.t (.str ⟨l.toArray⟩),upd (upd h g (some .dead)) k (some .dead),n)
     | _=>none
   | _=>none
 | _,_=>none
def mV:List (List T)->Option (List ByteArray)
 | []=>some []
 | [.str s]::r=>(mV r).map (s:: ·)
 | _=>none
def Vp (z:Int):ByteArray:=⟨(Go.Lib.itoa z).toArray⟩
def oz (l:List ByteArray) (sep:ByteArray):ByteArray:=⟨(Go.Lib.join (l.map (·.data.toList)) sep.data.toList).toArray⟩
def nI (e:Ext) (args:List V):Option V:=match e,args with
 | .itoa,[.t (.int .i64 z)]=>if -9223372036854775808<=z/\z<=9223372036854775807 then some (.t (.str (Vp z)))else none
 | .cloneT _,[.t .nils]=>some (.t (.sl []))
 | .cloneT sz,[.t (.sl es)]=>if es.length<4294967296/\es.all (fun e=>decide (e.length=sz))=true then some (.t (.sl es))else none
 | .joinS,[.t (.sl es),.t (.str sep)]=>(mV es).bind fun l=>if l.length<=140737488355328/\(oz l sep).size<=140737488355328 then some (.t (.str (oz l sep)))else none
 | _,_=>none
def cJ (s:St):Option (Nat×Bool)->Option Bool
 | none=>some true
 | some (g,want)=>match s.env g with
   | .t (.bool b)=>some (b==want)
   | .undef=>some false
   | _=>none
def V.isTr:V->Bool
 | .t _=>true
 | _=>false
def ja (b:Nat) (r:V) (h:ae):Option Eff:=
 match r with
 | .t .nils=>some { val:=.t .nils }
 | .t (.sl [])=>some { val:=.t (.sl []) }
 | .ms k i n=>match h k with
   | some (.rows sz rs false)=>if i=0/\n=rs.length/\rs.all (fun row=>row.all V.isTr)=true then some { val:=.ms b 0 n,hp:=[(b,.rows sz rs false)] }else none
   | _=>none
 | _=>none
def pU:(Nat->V)->List Nat->List V->Nat->V
 | env,t::ts,v::vs=>pU (upd env t v) ts vs
 | env,_,_=>env
def qS (h:ae) (n:Nat) (k:Nat) (env:Nat->V) (b:List Nat) (d:C) (vs:List V):St:=
 { env:=pU env b vs,loc:=fun _=>none,adr:=fun _=>none,used:=fun _=>false,heap:=upd h k (some (.loop env b d .enter)),nxt:=n,bas:=n }
inductive Task where
 | code (c:C) (s:St)
 | loop (b:C) (s:St)
 | ops (draw:Bool) (p:Nat) (l:List ROp) (s:St)
 | pcall (f:Nat) (args:List V)
 | rcall (f:Nat) (args:List V) (h:Nat->Option O) (n:Nat)
inductive Out where
 | code (e:Ex) (s:St)
 | ops (s:St)
 | val (v:V)
 | vals (v:V) (h:Nat->Option O) (n:Nat)
def St.free (s:St) (f:Option Nat) (e:Eff):Prop:= ∀d,f=some d->s.used d=false/\ ∀b o,e.adr=some (b,o)->b≠d
def AOp.opds:AOp->List Opd
 | .mv x | .boxL _ x | .boxH _ x | .loadL _ _ x | .load _ _ x | .nilchk x | .un _ x | .conv _ x | .faddrL _ x | .faddr _ x | .field _ _ _ x | .extr x _ | .len x | .slen x | .capN x | .bstr x | .clear _ _ x | .mkfnT _ x=>[x]
 | .pick c a b=>[c,a,b]
 | .allocL _ | .allocH _ | .allocB | .lenA _ | .mkmap | .stop=>[]
 | .build _ d=>d.map (·.2.2)
 | .bslice _ _ _ d=>d.map (·.2)
 | .storeL _ a v | .store _ a v | .bin _ a v | .mx _ a v | .eqb _ a v | .eqa _ _ a v | .mkslice _ _ _ a v | .appz _ _ _ a v | .iaddrS _ a v | .iaddrAL _ _ a v | .iaddrA _ _ a v | .idxA _ _ _ a v | .idxS a v | .append _ _ a v | .copy _ a v | .lookup _ _ _ a v=>[a,v]
 | .mkfn _ a b=>a++b
 | .slice _ x l h m=>x::(l.toList++h.toList++m.toList)
 | .slstr x l h=>x::(l.toList++h.toList)
 | .mapupd _ a b v=>[a,b,v]
 | .call _ f as=>f::as
 | .fcall f as=>f::as
def V.top:V->List Nat
 | .ms k _ _=>[k]
 | .mp k _ _=>[k]
 | .mm k=>[k]
 | _=>[]
def AOp.looks:AOp->Bool
 | .load _ _ _ | .nilchk _ | .faddr _ _ | .iaddrS _ _ _ | .slice _ _ _ _ _ | .len _=>true
 | _=>false
def AOp.wopd:AOp->List Opd
 | .store _ a _=>[a]
 | .append _ _ a _=>[a]
 | _=>[]
def jJ (G:Nat->List T) (s:St) (l:List Opd):List Nat:=l.flatMap fun x=>match evl G s x with | some v=>v.top | none=>[]
def sep (G:Nat->List T) (s:St) (a b:ROp):Bool:=
 if a.op.looks then(jJ G s a.op.opds).all fun k=> !(jJ G s b.op.wopd).contains k
 else(jJ G s b.op.opds).all fun k=> !(jJ G s a.op.wopd).contains k
def mI (G:Nat->List T) (s:St) (l:List ROp) (ck:List (Nat×Nat)):Bool:=
 ck.all fun x=>match l[x.1]?,l[x.2]? with
  | some a,some b=>sep G s a b
  | _,_=>false
inductive Big (Γ:Nat->Option F) (G:Nat->List T):Task->Out->Prop where
 | skip {s:St}:Big Γ G (.code .skip s) (.code .normal s)
 | ret {s:St}:Big Γ G (.code .ret s) (.code .ret s)
 | exit {s:St} {id:Nat}:Big Γ G (.code (.exit id) s) (.code (.exit id) s)
 | region {s s':St} {d:Bool} {l:List ROp} (h:Big Γ G (.ops d 0 l (s.begin l.length)) (.ops s')):Big Γ G (.code (.region d l) s) (.code .normal s')
 | regionD {s s':St} {ck:List (Nat×Nat)} {l:List ROp} (h:Big Γ G (.ops true 0 l (s.begin l.length)) (.ops s')) (hc:mI G s' l ck=true):
    Big Γ G (.code (.regionD ck l) s) (.code .normal s')
 | seqN {s s1 s2:St} {a b:C} {e:Ex} (h1:Big Γ G (.code a s) (.code .normal s1)) (h2:Big Γ G (.code b s1) (.code e s2)):
    Big Γ G (.code (.seq a b) s) (.code e s2)
 | seqX {s s1:St} {a b:C} {e:Ex} (h1:Big Γ G (.code a s) (.code e s1)) (he:e≠ .normal):Big Γ G (.code (.seq a b) s) (.code e s1)
 | cond {s s1:St} {c:Opd} {a b:C} {e:Ex} {t:Bool} (hc:ib G s c=some t) (h:Big Γ G (.code (if t then a else b) s) (.code e s1)):
    Big Γ G (.code (.cond c a b) s) (.code e s1)
 | block {s s1:St} {id:Nat} {b:C} {e:Ex} (h:Big Γ G (.code b s) (.code e s1)):
    Big Γ G (.code (.block id b) s) (.code (if e= .exit id then .normal else e) s1)
 | loop {s s1:St} {b:C} {e:Ex} (h:Big Γ G (.loop b s) (.code e s1)):Big Γ G (.code (.loop b) s) (.code e s1)
 | loopN {s s1 s2:St} {b:C} {e:Ex} (h1:Big Γ G (.code b s) (.code .normal s1)) (h2:Big Γ G (.loop b s1) (.code e s2)):
    Big Γ G (.loop b s) (.code e s2)
 | loopX {s s1:St} {b:C} {e:Ex} (h1:Big Γ G (.code b s) (.code e s1)) (he:e≠ .normal):Big Γ G (.loop b s) (.code e s1)
 | opsNil {d:Bool} {p:Nat} {s:St}:Big Γ G (.ops d p [] s) (.ops s)
 | opsSkip {d:Bool} {p:Nat} {s s':St} {o:ROp} {l:List ROp} (hw:cJ s o.guard=some false) (hf:s.free o.dst {})
    (h:Big Γ G (.ops d (p+1) l (s.apply o.dst {})) (.ops s')):Big Γ G (.ops d p (o::l) s) (.ops s')
 | opsEff {d:Bool} {p:Nat} {s s':St} {o:ROp} {l:List ROp} {e:Eff} (hw:cJ s o.guard=some true) (hf:s.free o.dst e)
    (he:ao G p s o.op=some e) (h:Big Γ G (.ops d (p+1) l (s.apply o.dst e)) (.ops s')):Big Γ G (.ops d p (o::l) s) (.ops s')
 | opsPure {d:Bool} {p:Nat} {s s':St} {o:ROp} {l:List ROp} {f:Opd} {args:List Opd} {fv:V} {g:Nat} {a b vs rs:List V} {fn:F} {r:V}
    (hw:cJ s o.guard=some true) (hf:s.free o.dst {}) (ho:o.op= .call false f args) (As:evl G s f=some fv) (Ax:cG fv=some (g,a,b))
    (hg:Γ g=some fn) (hr:fn.raw=false) (Au:cY G s args=some vs) (AD:(a++vs++b).mapM (toT1 s.heap)=some rs)
    (hc:Big Γ G (.pcall g rs) (.val r)) (hd:d=true->r.scalar=true\/(a++vs++b).flatMap (b_ s.heap)=[])
    (h:Big Γ G (.ops d (p+1) l (s.apply o.dst { val:=r,hp:=if r.scalar then []else freezes s.heap ((a++vs++b).flatMap (b_ s.heap)) })) (.ops s')):
    Big Γ G (.ops d p (o::l) s) (.ops s')
 | opsRaw {d:Bool} {p:Nat} {s s':St} {o:ROp} {l:List ROp} {f:Opd} {args:List Opd} {fv:V} {g:Nat} {a b vs:List V} {fn:F} {r:V} {h':Nat->Option O} {n':Nat}
    (hw:cJ s o.guard=some true) (hf:s.free o.dst {}) (ho:o.op= .call true f args) (As:evl G s f=some fv) (Ax:cG fv=some (g,a,b))
    (hg:Γ g=some fn) (hr:fn.raw=true) (Au:cY G s args=some vs)
    (hc:Big Γ G (.rcall g (a++vs++b) s.heap s.nxt) (.vals r h' n'))
    (h:Big Γ G (.ops d (p+1) l ({ s with heap:=h',nxt:=n' }.apply o.dst { val:=r })) (.ops s')):Big Γ G (.ops d p (o::l) s) (.ops s')
 | opsFresh {d:Bool} {p:Nat} {s s':St} {o:ROp} {l:List ROp} {f:Opd} {args:List Opd} {fv:V} {g:Nat} {a b vs rs:List V} {fn:F} {r:V} {h':Nat->Option O} {n':Nat} {e:Eff}
    (hw:cJ s o.guard=some true) (hf:s.free o.dst {}) (ho:o.op= .fcall f args) (As:evl G s f=some fv) (Ax:cG fv=some (g,a,b))
    (hg:Γ g=some fn) (hr:fn.raw=true) (Au:cY G s args=some vs) (AD:(a++vs++b).mapM (toT1 s.heap)=some rs) (hd:(a++vs++b).flatMap (b_ s.heap)=[])
    (hc:Big Γ G (.rcall g rs (fun _=>none) 0) (.vals r h' n')) (he:ja (s.bas+p) r h'=some e)
    (h:Big Γ G (.ops d (p+1) l (s.apply o.dst e)) (.ops s')):Big Γ G (.ops d p (o::l) s) (.ops s')
 | rangeF {s:St} {x:Opd} {ps:List Nat} {bd bd':C} {fv:V} {g:Nat} {a b:List V} {fn:F} {r:V} {h':Nat->Option O} {n':Nat} {env':Nat->V} {ps':List Nat} {st:LSt} {e:Ex}
    (As:evl G s x=some fv) (Ax:cG fv=some (g,a,b)) (hg:Γ g=some fn) (hr:fn.raw=true)
    (hc:Big Γ G (.rcall g (a++[.yl s.nxt]++b) (upd s.heap s.nxt (some (.loop s.env ps bd .ready))) (s.nxt+1)) (.vals r h' n'))
    (hl:h' s.nxt=some (.loop env' ps' bd' st)) (he:st.ends=some e):
    Big Γ G (.code (.rangeF x ps bd) s) (.code e { s with heap:=upd h' s.nxt (some .dead),nxt:=n' })
 | opsYield {d:Bool} {p:Nat} {s s' s1 s2:St} {o:ROp} {l:List ROp} {f:Opd} {args:List Opd} {k:Nat} {vs:List V} {env env1 env':Nat->V} {ps ps1 ps':List Nat} {ca cb bd1 bd':C} {e:Ex}
    (hw:cJ s o.guard=some true) (hf:s.free o.dst {}) (ho:o.op= .call true f args) (As:evl G s f=some (.yl k))
    (hk:s.heap k=some (.loop env ps (.round ca cb) .ready)) (Au:cY G s args=some vs) (Ac:vs.length=ps.length)
    (Bi:Big Γ G (.code ca (qS s.heap s.nxt k env ps (.round ca cb) vs)) (.code .normal s1)) (AT:s1.heap k=some (.loop env1 ps1 bd1 .enter))
    (CL:Big Γ G (.code cb { s1 with heap:=upd s1.heap k (some (.loop env1 ps1 bd1 .busy)) }) (.code e s2)) (AF:s2.heap k=some (.loop env' ps' bd' .busy))
    (h:Big Γ G (.ops d (p+1) l ({ s with heap:=upd s2.heap k (some (.loop env' ps' bd' e.toL)),nxt:=s2.nxt }.apply o.dst { val:=.t (.bool (decide (e=Ex.normal))) })) (.ops s')):
    Big Γ G (.ops d p (o::l) s) (.ops s')
 | pcall {g:Nat} {args:List V} {fn:F} {s':St} {e:Ex} {v r:V} (hg:Γ g=some fn) (hr:fn.raw=false)
    (h:Big Γ G (.code fn.body (.init args (fun _=>none) 0)) (.code e s')) (he: ∀id,e≠ .exit id)
    (hv:jk s' fn.results=some v) (Bh:reify s'.heap v=some r):Big Γ G (.pcall g args) (.val r)
 | pext {g:Nat} {args:List V} {fn:F} {e:Ext} {r:V} (hg:Γ g=some fn) (hr:fn.raw=false) (hb:fn.body= .ext e) (h:nI e args=some r):Big Γ G (.pcall g args) (.val r)
 | rcall {g:Nat} {args:List V} {fn:F} {s':St} {e:Ex} {v:V} {hp:Nat->Option O} {n:Nat} (hg:Γ g=some fn) (hr:fn.raw=true)
    (h:Big Γ G (.code fn.body (.init args hp n)) (.code e s')) (he: ∀id,e≠ .exit id)
    (hv:jk s' fn.results=some v):Big Γ G (.rcall g args hp n) (.vals v s'.heap s'.nxt)
 | rext {g:Nat} {args:List V} {fn:F} {e:Ext} {r:V} {hp h':Nat->Option O} {n n':Nat} (hg:Γ g=some fn) (hr:fn.raw=true) (hb:fn.body= .ext e)
    (h:jo e args hp n=some (r,h',n')):Big Γ G (.rcall g args hp n) (.vals r h' n')
end Rg
end
section
namespace Rg
open Go
inductive RepT (w:World) (A:Nat->Prop) (nm:Nat->Nat):Value->T->Prop where
 | int (k:IntKind) (n:Int):RepT w A nm (.int k n) (.int k n)
 | bool (b:Bool):RepT w A nm (.bool b) (.bool b)
 | str (s:ByteArray):RepT w A nm (.string s) (.str s)
 | nilp:RepT w A nm (.pointer none) .nilp
 | nils (a:Option Addr):RepT w A nm (.slice a 0 0) .nils
 | nilm:RepT w A nm (.map none) .nilm
 | nilf:RepT w A nm .nilFunc .nilf
 | nili:RepT w A nm .nilIface .nili
 | sl0 (a:Option Addr) (cap:Nat):RepT w A nm (.slice a 0 cap) (.sl [])
 | sl (r off cap sz:Nat) (es:List (List T)) (vf:Nat->Nat->Value) (h0:0<es.length) (hc:es.length<=cap) (hA:A r)
    (hs: ∀(i:Nat) (e:List T),es[i]? =some e->e.length=sz)
    (hv: ∀(i:Nat) (e:List T) (j:Nat) (x:T),es[i]? =some e->e[j]? =some x->w.cell? ⟨r,off+i*sz+j,none⟩=some (vf i j))
    (hr: ∀(i:Nat) (e:List T) (j:Nat) (x:T),es[i]? =some e->e[j]? =some x->RepT w A nm (vf i j) x):
    RepT w A nm (.slice (some ⟨r,off,none⟩) es.length cap) (.sl es)
 | ip (r off:Nat) (cs:List T) (vf:Nat->Value) (hA:A r)
    (hv: ∀(j:Nat) (x:T),cs[j]? =some x->w.cell? ⟨r,off+j,none⟩=some (vf j))
    (hr: ∀(j:Nat) (x:T),cs[j]? =some x->RepT w A nm (vf j) x):
    RepT w A nm (.pointer (some ⟨r,off,none⟩)) (.ip cs)
 | fn (f:Nat) (a b:List T) (va vb:Array Value) (fa fb:Nat->Value) (ha:va.size=a.length) (hb:vb.size=b.length)
    (Bu: ∀(j:Nat) (x:T),a[j]? =some x->va[j]? =some (fa j)) (Cu: ∀(j:Nat) (x:T),a[j]? =some x->RepT w A nm (fa j) x)
    (Di: ∀(j:Nat) (x:T),b[j]? =some x->vb[j]? =some (fb j)) (Eb: ∀(j:Nat) (x:T),b[j]? =some x->RepT w A nm (fb j) x):
    RepT w A nm (.func (.func (nm f)) va vb) (.fn f a b)
 | fa (f:Nat) (c:List T) (vc:Array Value) (fc:Nat->Value) (hc:vc.size=c.length)
    (Fc: ∀(j:Nat) (x:T),c[j]? =some x->vc[j]? =some (fc j)) (Iy: ∀(j:Nat) (x:T),c[j]? =some x->RepT w A nm (fc j) x):
    RepT w A nm (.func (.func (nm f)) #[.agg vc] #[]) (.fa f c)
 | opq (v:Value) (h:v.oneCell'=true):RepT w A nm v .opq
 | slc (a:Option Addr) (es:List (List T)) (h:RepT w A nm (.slice a es.length es.length) (.sl es)):RepT w A nm (.slice a es.length es.length) (.slc es)
theorem cell?_eq {w w':World} {r b:Nat} (h:w'.heap[r]? =w.heap[r]?):w'.cell? ⟨r,b,none⟩=w.cell? ⟨r,b,none⟩:=by
 simp only[World.cell?,h]
theorem RepT.mono {w w':World} {A A':Nat->Prop} {nm:Nat->Nat} {v:Value} {x:T} (h:RepT w A nm v x)
 (z: ∀r,A r->w'.heap[r]? =w.heap[r]?) (y: ∀r,A r->A' r):RepT w' A' nm v x:=by
 induction h with
 | int k n=>exact .int k n
 | bool b=>exact .bool b
 | str s=>exact .str s
 | nilp=>exact .nilp
 | nils a=>exact .nils a
 | nilm=>exact .nilm
 | nilf=>exact .nilf
 | nili=>exact .nili
 | sl0 a cap=>exact .sl0 a cap
 | sl r g cap P es u I o l M p _ d=>
   exact .sl r g cap P es u I o (y r l) M (fun i e j x m J=>by rw[cell?_eq (z r l)];exact p i e j x m J) d
 | ip r g cs u l p _ d=>
   exact .ip r g cs u (y r l) (fun j x m=>by rw[cell?_eq (z r l)];exact p j x m) d
 | fn f a b Q vb fa E K L B _ C _ q t=>exact .fn f a b Q vb fa E K L B q C t
 | fa f c R F o D _ d=>exact .fa f c R F o D d
 | opq v h=>exact .opq v h
 | slc a es _ d=>exact .slc a es d
theorem RepT.one {w:World} {A:Nat->Prop} {nm:Nat->Nat} {v:Value} {x:T} (h:RepT w A nm v x):v.oneCell'=true:=by
 cases h<;>first | rfl | assumption
theorem RepT.scalar {w w':World} {A A':Nat->Prop} {nm:Nat->Nat} {v:Value} {x:T} (h:RepT w A nm v x) (b:x.scalar=true):RepT w' A' nm v x:=by
 cases h with
 | sl r f cap m es n d i g k l j=>
   cases es with
   | nil=>simp at d
   | cons e es=>simp[T.scalar]at b
 | opq _ h=>exact .opq _ h
 | _=>first | (simp[T.scalar]at b;done) | constructor
theorem RepT.norm {w:World} {A:Nat->Prop} {nm:Nat->Nat} {v:Value} {x:T} (h:RepT w A nm v x):RepT w A nm v x.norm:=by
 cases h with
 | nils a=>exact .sl0 a 0
 | sl0 a cap=>exact .sl0 a cap
 | sl r d cap D es k y g e C j i=>exact .sl r d cap D es k y g e C j i
 | ip r d cs k e j i=>exact .ip r d cs k e j i
 | fn f a b E vb fa t z B l m n o=>exact .fn f a b E vb fa t z B l m n o
 | fa f c F u g p q=>exact .fa f c F u g p q
 | opq _ h=>exact .opq _ h
 | slc a es h=>exact .slc a es h
 | _=>constructor
theorem RepT.slc_inv {w:World} {A:Nat->Prop} {nm:Nat->Nat} {a:Option Addr} {n c:Nat} {es:List (List T)} (h:RepT w A nm (.slice a n c) (.slc es)):n=es.length/\c=es.length:=by
 cases h;exact⟨rfl,rfl⟩
def O.live:O->Bool
 | .dead=>false
 | _=>true
inductive RepC (w:World) (A:Nat->Prop) (nm:Nat->Nat) (μ:Nat->Nat) (H:Nat->Option O):Value->V->Prop where
 | t {v:Value} {x:T} (h:RepT w A nm v x):RepC w A nm μ H v (.t x)
 | ms (k i len cap sz:Nat) (rs:List (List V)) (frz:Bool) (a:Option Addr) (hk:H k=some (.rows sz rs frz)) (hi:i+len<=rs.length) (hc:rs.length<=i+cap)
    (ha:cap=0\/(a=some ⟨μ k,i*sz,none⟩/\ ∃e n,w.shape? (μ k)=some (e,n)/\(i+cap)*sz<=n)):
    RepC w A nm μ H (.slice a len cap) (.ms k i len)
 | mp (k i off sz:Nat) (rs:List (List V)) (frz:Bool) (hk:H k=some (.rows sz rs frz)) (hi:i<rs.length):
    RepC w A nm μ H (.pointer (some ⟨μ k,i*sz+off,none⟩)) (.mp k i off)
 | mb (k:Nat) (x:Bx) (hk:H k=some (.raw x)):RepC w A nm μ H (.pointer (some ⟨μ k,0,none⟩)) (.mp k 0 0)
 | mm (k:Nat) (es:List (T×V)) (hk:H k=some (.map es)):RepC w A nm μ H (.map (some (μ k))) (.mm k)
 | yl (k:Nat) (env:Nat->V) (ps:List Nat) (b:C) (st:LSt) (hk:H k=some (.loop env ps b st)):RepC w A nm μ H (.func (.yield (μ k)) #[] #[]) (.yl k)
 | dyl {v:Value} (k:Nat) (hk:H k=some .dead) (hv:v.oneCell'=true):RepC w A nm μ H v (.yl k)
 | dms {v:Value} (k i len:Nat) (hk:H k=some .dead) (hv:v.oneCell'=true):RepC w A nm μ H v (.ms k i len)
 | dmp {v:Value} (k i off:Nat) (hk:H k=some .dead) (hv:v.oneCell'=true):RepC w A nm μ H v (.mp k i off)
 | dmm {v:Value} (k:Nat) (hk:H k=some .dead) (hv:v.oneCell'=true):RepC w A nm μ H v (.mm k)
 | fn (f:Nat) (a b:List V) (va vb:Array Value) (fa fb:Nat->Value) (ha:va.size=a.length) (hb:vb.size=b.length)
    (Bu: ∀(j:Nat) (x:V),a[j]? =some x->va[j]? =some (fa j)) (Cu: ∀(j:Nat) (x:V),a[j]? =some x->RepC w A nm μ H (fa j) x)
    (Di: ∀(j:Nat) (x:V),b[j]? =some x->vb[j]? =some (fb j)) (Eb: ∀(j:Nat) (x:V),b[j]? =some x->RepC w A nm μ H (fb j) x):
    RepC w A nm μ H (.func (.func (nm f)) va vb) (.fn f a b)
def Bx.le:Bx->Bx->Prop
 | .buf l,.buf l'=>l'=l
 | .buf _,_=>False
 | _,.buf _=>False
 | _,_=>True
theorem Bx.le_refl (x:Bx):Bx.le x x:=by cases x<;>simp[Bx.le]
theorem Bx.le_trans {a b c:Bx} (d:Bx.le a b) (e:Bx.le b c):Bx.le a c:=by cases a<;>cases b<;>cases c<;>simp_all [Bx.le]
def O.le:O->O->Prop
 | _,.dead=>True
 | .rows sz rs _,.rows sz' rs' _=>sz'=sz/\rs'.length=rs.length
 | .map _,.map _=>True
 | .loop _ _ _ _,.loop _ _ _ _=>True
 | .raw x,.raw y=>Bx.le x y
 | _,_=>False
theorem O.le_refl (o:O):O.le o o:=by cases o<;>simp[O.le,Bx.le_refl]
theorem O.le_trans {a b c:O} (d:O.le a b) (e:O.le b c):O.le a c:=by
 cases a<;>cases b<;>cases c<;>first | exact Bx.le_trans d e | simp_all [O.le]
structure Evo (w:World) (A:Nat->Prop) (μ:Nat->Nat) (H:Nat->Option O) (w':World) (A':Nat->Prop) (μ':Nat->Nat) (H':Nat->Option O):Prop where
 blk: ∀r,A r->w'.heap[r]? =w.heap[r]?
 sub: ∀r,A r->A' r
 hp: ∀k o,H k=some o-> ∃o',H' k=some o'/\O.le o o'/\(o'.live=true->μ' k=μ k)
 shp: ∀r s,w.shape? r=some s->w'.shape? r=some s
theorem Evo.refl (w:World) (A:Nat->Prop) (μ:Nat->Nat) (H:ae):Evo w A μ H w A μ H:=
 ⟨fun _ _=>rfl,fun _ h=>h,fun _ o h=>⟨o,h,O.le_refl o,fun _=>rfl⟩,fun _ _ h=>h⟩
theorem RepC.one {w:World} {A:Nat->Prop} {nm μ:Nat->Nat} {H:ae} {v:Value} {x:V} (h:RepC w A nm μ H v x):v.oneCell'=true:=by
 cases h<;>first | rfl | assumption | (rename_i h;exact h.one)
theorem RepC.evo {w w':World} {A A':Nat->Prop} {nm μ μ':Nat->Nat} {H H':ae} {v:Value} {x:V} (h:RepC w A nm μ H v x)
 (e:Evo w A μ H w' A' μ' H'):RepC w' A' nm μ' H' v x:=by
 induction h with
 | t h=>exact .t (h.mono e.blk e.sub)
 | ms k i len cap P rs y a j hi S u=>
   obtain⟨o',g,d,o⟩:=e.hp k _ j
   cases o' with
   | rows m l frz'=>
     obtain⟨rfl,K⟩:=d;refine .ms k i len cap m l frz' a g aa aa ?_;rcases u with u | ⟨rfl,F,n,M,L⟩
     ·exact .inl u
     ·exact .inr ⟨by rw[o rfl],F,n,by rw[o rfl];exact e.shp _ _ M,L⟩
   | map es=>simp[O.le]at d
   | loop _ _ _ _=>simp[O.le]at d
   | raw _=>simp[O.le]at d
   | dead=>exact .dms k i len g rfl
 | mp k i p P rs y j hi=>
   obtain⟨o',g,d,o⟩:=e.hp k _ j
   cases o' with
   | rows m l frz'=>
     obtain⟨rfl,K⟩:=d;rw[<- o rfl]
     exact .mp k i p m l frz' g aa
   | map es=>simp[O.le]at d
   | loop _ _ _ _=>simp[O.le]at d
   | raw _=>simp[O.le]at d
   | dead=>exact .dmp k i p g rfl
 | mb k x j=>
   obtain⟨o',g,d,o⟩:=e.hp k _ j
   cases o' with
   | raw R=>rw[<- o rfl];exact .mb k R g
   | dead=>exact .dmp k 0 0 g rfl
   | _=>simp[O.le]at d
 | mm k es j=>
   obtain⟨o',g,d,o⟩:=e.hp k _ j
   cases o' with
   | rows m l frz'=>simp[O.le]at d
   | map r=>rw[<- o rfl];exact .mm k r g
   | loop _ _ _ _=>simp[O.le]at d
   | raw _=>simp[O.le]at d
   | dead=>exact .dmm k g rfl
 | yl k env U b W j=>
   obtain⟨o',g,d,o⟩:=e.hp k _ j
   cases o' with
   | rows m l frz'=>simp[O.le]at d
   | map r=>simp[O.le]at d
   | loop env' C b' st'=>rw[<- o rfl];exact .yl k env' C b' st' g
   | raw _=>simp[O.le]at d
   | dead=>exact .dyl k g rfl
 | dyl k j q=>
   obtain⟨o',g,d,_⟩:=e.hp k _ j;cases o'<;>simp[O.le]at d
   exact .dyl k g q
 | dms k i len j q=>
   obtain⟨o',g,d,_⟩:=e.hp k _ j;cases o'<;>simp[O.le]at d
   exact .dms k i len g q
 | dmp k i p j q=>
   obtain⟨o',g,d,_⟩:=e.hp k _ j;cases o'<;>simp[O.le]at d
   exact .dmp k i p g q
 | dmm k j q=>
   obtain⟨o',g,d,_⟩:=e.hp k _ j;cases o'<;>simp[O.le]at d
   exact .dmm k g q
 | fn f a b Q vb fa I u J D _ E _ z B=>exact .fn f a b Q vb fa I u J D z E B
def co (w:World) (A:Nat->Prop) (nm μ:Nat->Nat) (H:ae) (vs:List Value) (cs:List V):Prop:=
 vs.length=cs.length/\ ∀(i:Nat) (c:V),cs[i]? =some c-> ∃v,vs[i]? =some v/\RepC w A nm μ H v c
def cu (w:World) (A:Nat->Prop) (nm μ:Nat->Nat) (H:ae) (v:Value):V->Prop
 | .agg cs=> ∃vs,v= .agg vs/\co w A nm μ H vs.toList cs
 | .tup _=>False
 | .undef=>False
 | .lb=>False
 | c=>RepC w A nm μ H v c
def aO (w:World) (A:Nat->Prop) (nm μ:Nat->Nat) (H:ae) (v:Value):V->Prop
 | .tup cs=> ∃vs,v= .tuple vs/\vs.size=cs.length/\ ∀(i:Nat) (c:V),cs[i]? =some c-> ∃u,vs[i]? =some u/\cu w A nm μ H u c
 | .undef=>v=undef
 | .lb=>True
 | c=>cu w A nm μ H v c
section
variable {w w' : World} {A A' : Nat->Prop} {nm μ μ' : Nat->Nat} {H H' : Nat->Option O}
theorem co.evo {vs:List Value} {cs:List V} (h:co w A nm μ H vs cs) (e:Evo w A μ H w' A' μ' H'):co w' A' nm μ' H' vs cs:=
 ⟨h.1,fun i c hi=>let⟨v,hv,hr⟩:=h.2 i c hi;⟨v,hv,hr.evo e⟩⟩
theorem cu.evo {v:Value} {x:V} (h:cu w A nm μ H v x) (e:Evo w A μ H w' A' μ' H'):cu w' A' nm μ' H' v x:=by
 cases x with
 | agg cs=>obtain⟨vs,rfl,h⟩:=h;exact⟨vs,rfl,h.evo e⟩
 | tup cs=>exact h.elim
 | undef=>exact h.elim
 | lb=>exact h.elim
 | _=>exact RepC.evo h e
theorem aO.evo {v:Value} {x:V} (h:aO w A nm μ H v x) (e:Evo w A μ H w' A' μ' H'):aO w' A' nm μ' H' v x:=by
 cases x with
 | tup cs=>obtain⟨vs,rfl,d,h⟩:=h;exact⟨vs,rfl,d,fun i c hi=>let⟨u,hu,hr⟩:=h i c hi;⟨u,hu,hr.evo e⟩⟩
 | undef=>exact h
 | lb=>exact h
 | agg cs=>exact cu.evo (x:=.agg cs) h e
 | t x=>exact cu.evo (x:=.t x) h e
 | ms k i l=>exact cu.evo (x:=.ms k i l) h e
 | mp k i o=>exact cu.evo (x:=.mp k i o) h e
 | mm k=>exact cu.evo (x:=.mm k) h e
 | yl k=>exact cu.evo (x:=.yl k) h e
 | fn f a b=>exact cu.evo (x:=.fn f a b) h e
theorem cu.toV {v:Value} {x:V} (h:cu w A nm μ H v x):aO w A nm μ H v x:=by
 cases x<;>first | exact h | exact h.elim
theorem RepC.toV1 {v:Value} {x:V} (h:RepC w A nm μ H v x):cu w A nm μ H v x:=by
 cases h<;>first | exact RepC.t ‹_› | (constructor<;>assumption)
theorem RepC.toV {v:Value} {x:V} (h:RepC w A nm μ H v x):aO w A nm μ H v x:=h.toV1.toV
theorem aO.cells {v:Value} {x:V} {cs:List V} (h:aO w A nm μ H v x) (b:x.cells=some cs):co w A nm μ H v.cells.toList cs:=by
 cases x with
 | agg e=>
   simp only[V.cells,rG]at b;subst b;obtain⟨vs,rfl,h⟩:=h
   exact h
 | tup _=>simp[V.cells]at b
 | undef=>simp[V.cells]at b
 | lb=>simp[V.cells]at b
 | t _ | ms _ _ _ | mp _ _ _ | mm _ | yl _ | fn _ _ _=>
   simp only[V.cells,rG]at b;subst b;have h':RepC w A nm μ H v _:=h;have f:=h'.one;have d:v.cells.toList=[v]:=by cases v<;>simp_all [Value.cells,Value.oneCell']
   rw[d];refine⟨rfl,fun i c hi=> ?_⟩
   cases i with
   | zero=>simp at hi;subst hi;exact⟨v,rfl,h'⟩
   | succ i=>simp at hi
end
structure Nam where
 nm:Nat->Nat
 gm:Nat->Nat
 G:Nat->List T
 cr:Code->Nat->C->Prop
 tB:Nat
 tU:Nat
def LSt.rel:LSt->LoopState->Option Code->Prop
 | .ready,st,p=>st= .ready/\p=none
 | .enter,st,_=>st= .ready
 | .busy,st,_=>st= .busy
 | .done .normal,_,_=>False
 | .done (.exit id),st,p=>st= .done/\p=some (.exit id)
 | .done .ret,st,p=>st= .done/\p=some .ret
def lO (w:World) (e f:Nat) (μ:Nat->Nat) (H:ae) (r:Nat):Bx->Prop
 | .bld none=> ∃p,w.heap[r]? =some (.cells #[p,.slice none 0 0] e (0,0))/\(p= .pointer none\/p= .pointer (some ⟨r,0,none⟩))
 | .bld (some g)=> ∃a len cap,w.heap[r]? =some (.cells #[.pointer (some ⟨r,0,none⟩),.slice a len cap] e (0,0))/\
    (H g=some .dead\/ ∃l,H g=some (.raw (.buf l))/\a=some ⟨μ g,0,none⟩/\len=l.length/\w.shape? (μ g)=some (f,cap))
 | .mid=> ∃p v,w.heap[r]? =some (.cells #[p,v] e (0,0))
 | .buf l=> ∃d,w.heap[r]? =some (.cells d f (0,0))/\l≠[]/\l.length<=d.size/\d.size<=maxLen/\d.toList.take l.length=l.map fun b=>Value.int .u8 b.toNat
theorem lO.evo {w w':World} {A A':Nat->Prop} {k m:Nat} {μ μ':Nat->Nat} {H H':ae} {r:Nat} {x:Bx} (h:lO w k m μ H r x)
 (e:Evo w A μ H w' A' μ' H') (i:w'.heap[r]? =w.heap[r]?):lO w' k m μ' H' r x:=by
 match x,h with
 | .bld none,⟨p,h1,b⟩=>exact⟨p,by rw[i];exact h1,b⟩
 | .bld (some g),⟨a,len,cap,h1,b⟩=>
   refine⟨a,len,cap,by rw[i];exact h1,?_⟩;rcases b with b | ⟨l,b,n,o,q⟩
   ·obtain⟨o',f,d,_⟩:=e.hp g _ b;cases o'<;>simp[O.le]at d
    exact .inl f
   ·obtain⟨o',f,d,j⟩:=e.hp g _ b
    cases o' with
    | dead=>exact .inl f
    | raw y=>
      cases y with
      | bld _=>simp[O.le,Bx.le]at d
      | mid=>simp[O.le,Bx.le]at d
      | buf l'=>
        simp only[O.le,Bx.le]at d;subst d
        exact .inr ⟨l',f,by rw[j rfl];exact n,o,by rw[j rfl];exact e.shp _ _ q⟩
    | _=>simp[O.le]at d
 | .mid,⟨p,v,h1⟩=>exact⟨p,v,by rw[i];exact h1⟩
 | .buf l,⟨cur,h1,b⟩=>exact⟨cur,by rw[i];exact h1,b⟩
def oa:T->Option Value
 | .int k n=>some (.int k n)
 | .bool b=>some (.bool b)
 | .str s=>some (.string s)
 | _=>none
def gZ:List T->Option (List Value)
 | []=>some []
 | t::r=>(oa t).bind fun v=>(gZ r).map (v:: ·)
def eN:T->Option Value
 | .int k n=>some (.int k n)
 | .bool b=>some (.bool b)
 | .str s=>some (.string s)
 | .sl [ts]=>(gZ ts).map fun l=> .agg l.toArray
 | _=>none
def i7 (w:World) (A:Nat->Prop) (N:Nam) (μ:Nat->Nat) (H:ae) (r:Nat):O->Prop
 | .rows g rs f=> ∃c e z,w.heap[r]? =some (.cells c e z)/\(f=false->z=(0,0))/\rs.length*g<=c.size/\
    (∀(i:Nat) (row:List V),rs[i]? =some row->row.length=g)/\
    ∀(i:Nat) (row:List V) (j:Nat) (x:V),rs[i]? =some row->row[j]? =some x-> ∃v,c[i*g+j]? =some v/\RepC w A N.nm μ H v x
 | .map es=> ∃(ms:Array MapEntry) (n:Nat),w.heap[r]? =some (.map ms n)/\ms.size=es.length/\
    ∀(i:Nat) (k:T) (x:V),es[i]? =some (k,x)-> ∃m,ms[i]? =some m/\eN k=some m.key/\cu w A N.nm μ H m.val x
 | .loop env h b l=> ∃L:Go.Loop,w.heap[r]? =some (.loop L)/\L.params=h.toArray/\(∃d cb,b= .round d cb/\N.cr L.assign L.tmps.size d)/\(∃d cb,b= .round d cb/\N.cr L.body L.tmps.size cb)/\l.rel L.state L.pending/\
    (∀t∈h,t<L.tmps.size)/\ ∀t,aO w A N.nm μ H (L.tmps.getD t undef) (env t)
 | .raw x=>lO w N.tB N.tU μ H r x
 | .dead=>True
def qV (w:World) (A:Nat->Prop) (nm μ:Nat->Nat) (H:ae) (r:Nat) (cs:List V):Prop:=
 ∃c e,w.heap[r]? =some (.cells c e (0,0))/\co w A nm μ H c.toList cs
def MBH (H:ae) (μ:Nat->Nat) (r:Nat):Prop:=
 ∃k o,H k=some o/\(∀b rs,o≠ .rows b rs true)/\o.live=true/\μ k=r
def MBL (L:Nat->Option (List V)) (lam:Nat->Nat) (r:Nat):Prop:= ∃t,(L t).isSome=true/\lam t=r
structure Ctx where
 w0:World
 X:Nat->Prop
 A0:Nat->Prop
 H0:Nat->Option O
 μ0:Nat->Nat
def d7 (c:Ctx) (A:Nat->Prop) (w:World) (b:List Deferred):Prop:=
 ∃rs:List Nat,rs.Nodup/\b=rs.map (fun r=>{ target:=.collected r,args:= #[] })/\ ∀r∈rs,w.heap[r]? =some (Obj.deferred (some []))/\ ¬A r/\c.w0.heap.size<=r
theorem d7.nil (c:Ctx) (A:Nat->Prop) (w:World):d7 c A w []:=⟨[],af,rfl,af⟩
theorem d7.evo {c:Ctx} {A A':Nat->Prop} {w w':World} {e:List Deferred} (h:d7 c A w e) (f: ∀r:Nat,w.heap[r]? =some (Obj.deferred (some []))->w'.heap[r]? =w.heap[r]?)
 (g: ∀r:Nat,w.heap[r]? =some (Obj.deferred (some []))->A' r->A r):d7 c A' w' e:=by
 obtain⟨rs,i,j,k⟩:=h;exact⟨rs,i,j,fun r l=>let⟨a,b,d⟩:=k r l;⟨by rw[f r a];exact a,fun h=>b (g r a h),d⟩⟩
theorem d7.join {c:Ctx} {A A' B:Nat->Prop} {w w':World} {f:List Deferred} (h:d7 c A w f) (h':d7 c A' w' f) (t: ∀r,B r->w.heap.size<=r):d7 c (fun r=>A' r\/B r) w' f:=by
 obtain⟨rs,v,p,q⟩:=h;obtain⟨b,n,g,o⟩:=h'
 have e:b=rs:=by
  rw[p]at g
  have d: ∀(l l':List Nat),l.map (fun r=>({ target:=.collected r,args:= #[] }:Deferred))=l'.map (fun r=>({ target:=.collected r,args:= #[] }:Deferred))->l'=l:=by
   intro l
   induction l with
   | nil=>intro l' h;cases l' with
     | nil=>rfl
     | cons _ _=>simp at h
   | cons x l u=>intro l' h;cases l' with
     | nil=>simp at h
     | cons y l'=>
       simp only[aT,gu,Deferred.mk.injEq,Target.collected.injEq,nt]at h;rw[h.1,u l' h.2]
  exact d rs b g
 subst e;refine⟨b,n,g,fun r i=> ?_⟩;obtain⟨j,k,m⟩:=o r i;refine⟨j,fun h=> ?_,m⟩;rcases h with h | h
 ·exact k h
 ·have:=t r h;have:=(gQ.1 (q r i).1).1;omega
structure Rel (N:Nam) (c:Ctx) (ns:Nat) (A:Nat->Prop) (μ lam:Nat->Nat) (s:St) (a:Act) (w:World):Prop where
 size:a.tmps.size=ns
 defers:d7 c A w a.defers
 env: ∀t,aO w A N.nm μ s.heap (a.tmps.getD t undef) (s.env t)
 loc: ∀t cs,s.loc t=some cs->a.tmps.getD t undef= .pointer (some ⟨lam t,0,none⟩)/\qV w A N.nm μ s.heap (lam t) cs
 adr: ∀t b o,s.adr t=some (b,o)->s.used b=true/\(s.loc b).isSome=true/\a.tmps.getD t undef= .pointer (some ⟨lam b,o,none⟩)
 heap: ∀k o,s.heap k=some o->i7 w A N μ s.heap (μ k) o
 hinj: ∀k k' o o',s.heap k=some o->s.heap k'=some o'->o.live=true->o'.live=true->μ k=μ k'->k=k'
 linj: ∀t t',(s.loc t).isSome=true->(s.loc t').isSome=true->lam t=lam t'->t=t'
 lh: ∀t k o,(s.loc t).isSome=true->s.heap k=some o->o.live=true->lam t≠μ k
 aH: ∀r,A r-> ¬MBH s.heap μ r
 aL: ∀r,A r-> ¬MBL s.loc lam r
 alt: ∀r,A r->r<w.heap.size
 afz: ∀k sz rs,s.heap k=some (.rows sz rs true)->A (μ k)
 fresh: ∀k,s.nxt<=k->s.heap k=none
 glob: ∀(g j:Nat) (x:T),(N.G g)[j]? =some x->A (N.gm g)/\(∃e,w.shape? (N.gm g)=some (e,(N.G g).length))/\ ∃v,w.cell? ⟨N.gm g,j,none⟩=some v/\RepT w A N.nm v x
 cout:w.os=c.w0.os/\w.output=c.w0.output
 csize:c.w0.heap.size<=w.heap.size
 ckeep: ∀r,r<c.w0.heap.size-> ¬c.X r->w.heap[r]? =c.w0.heap[r]?
 cshp: ∀r x,c.w0.shape? r=some x->w.shape? r=some x
 csub: ∀r,c.A0 r->A r
 canew: ∀r,A r->c.A0 r\/c.X r\/c.w0.heap.size<=r
 clive: ∀r,MBH s.heap μ r->c.X r\/c.w0.heap.size<=r
 cloc: ∀t,(s.loc t).isSome=true->c.X (lam t)\/c.w0.heap.size<=lam t
 chp: ∀k o,c.H0 k=some o-> ∃o',s.heap k=some o'/\O.le o o'/\(o'.live=true->μ k=c.μ0 k)
end Rg
end
section
namespace Rg
open Go
theorem pL (a:Act) (d t:Nat) (v:Value) (h:d<a.tmps.size):
 (a.put (some d) v).tmps.getD t undef=if t=d then v else a.tmps.getD t undef:=by
 simp only[Act.put]
 by_cases b:t=d
 ·subst b;simp[h]
 ·simp[b,ke,bX b]
theorem QG (a:Act) (d:Option Nat) (v:Value):(a.put d v).tmps.size=a.tmps.size:=by
 cases d<;>simp[Act.put]
theorem Md (a:Act) (d:Option Nat) (v:Value):(a.put d v).defers=a.defers:=by
 cases d<;>rfl
theorem pB {s:St} {d:Option Nat} {e:Eff} {b:Nat} (h:s.used b=true):(s.apply d e).used b=true:=by
 simp only[St.apply]
 cases e.adr with
 | none=>exact h
 | some x=>simp only[upd];split<;>simp_all
section
variable {N:Nam} {c:Ctx} {ns:Nat} {A:Nat->Prop} {μ lam:Nat->Nat} {s:St} {a:Act} {w:World}
theorem Rel.put (R:Rel N c ns A μ lam s a w) (d:Option Nat) (e:Eff) (v:Value) (J: ∀x,d=some x->x<ns) (K:s.free d e)
 (M:e.loc=none) (B:e.wloc=none) (L:e.hp=[]) (Q:aO w A N.nm μ s.heap v e.val)
 (I: ∀b o,e.adr=some (b,o)->(s.loc b).isSome=true/\v= .pointer (some ⟨lam b,o,none⟩)):
 Rel N c ns A μ lam (s.apply d e) (a.put d v) w:=by
 have f:(s.apply d e).heap=s.heap:=by simp[St.apply,L,bl]
 cases d with
 | none=>
   have y:(s.apply none e).env=s.env:=rfl;have z:(s.apply none e).adr=s.adr:=rfl;have j:(s.apply none e).loc=s.loc:=by simp[St.apply,B]
   refine{ R with env:= ?_,loc:= ?_,adr:= ?_,heap:= ?_,hinj:= ?_,linj:= ?_,lh:= ?_,aH:= ?_,aL:= ?_,afz:=by rw[f];exact R.afz,fresh:= ?_,clive:= ?_,cloc:= ?_,chp:= ?_ }
   ·rw[f,y];exact R.env
   ·rw[f,j];exact R.loc
   ·intro t b o h;rw[z]at h;obtain⟨m,n,u⟩:=R.adr t b o h;exact⟨pB m,by rw[j];exact n,u⟩
   ·rw[f];exact R.heap
   ·rw[f];exact R.hinj
   ·rw[j];exact R.linj
   ·rw[f,j];exact R.lh
   ·rw[f];exact R.aH
   ·rw[j];exact R.aL
   ·rw[f];exact R.fresh
   ·rw[f];exact R.clive
   ·rw[j];exact R.cloc
   ·rw[f];exact R.chp
 | some d=>
   have q:d<a.tmps.size:=by rw[R.size];exact J d rfl
   obtain⟨F,E⟩:=K d rfl;have y:(s.apply (some d) e).env=upd s.env d e.val:=rfl;have z:(s.apply (some d) e).adr=upd s.adr d e.adr:=rfl;have j:(s.apply (some d) e).loc=upd s.loc d none:=by simp[St.apply,B,M]
   have l: ∀t,((upd s.loc d none) t).isSome=true->t≠d/\(s.loc t).isSome=true:=by
    intro t h
    by_cases i:t=d
    ·subst i;simp at h
    ·exact⟨i,by rwa[aP _ _ i]at h⟩
   refine{ R with size:=by rw[QG];exact R.size,defers:=by rw[Md];exact R.defers,env:= ?_,loc:= ?_,adr:= ?_,heap:= ?_,hinj:= ?_,linj:= ?_,lh:= ?_,aH:= ?_,aL:= ?_,afz:=by rw[f];exact R.afz,fresh:= ?_,clive:= ?_,cloc:= ?_,chp:= ?_ }
   ·intro t;rw[f,y,pL a d t v q]
    by_cases i:t=d
    ·subst i;simpa using Q
    ·rw[aP _ _ i,ac i];exact R.env t
   ·intro t cs h;rw[j]at h;obtain⟨i,_⟩:=l t (by rw[h];rfl);rw[aP _ _ i]at h;rw[f,pL a d t v q,ac i];exact R.loc t cs h
   ·intro t b o h;rw[z]at h;rw[j,pL a d t v q]
    by_cases i:t=d
    ·subst i;simp only[cV]at h;obtain⟨m,n⟩:=I b o h;have p:b≠t:=E b o h;refine⟨by simp[St.apply,h],by rw[aP _ _ p];exact m,by simp[n]⟩
    ·rw[aP _ _ i]at h;obtain⟨m,n,u⟩:=R.adr t b o h;have p:b≠d:=by intro p;subst p;simp[F]at m
     exact⟨pB m,by rw[aP _ _ p];exact n,by rw[ac i];exact u⟩
   ·rw[f];exact R.heap
   ·rw[f];exact R.hinj
   ·intro t D g C;rw[j]at g C;exact R.linj t D (l t g).2 (l D C).2
   ·intro t k o g;rw[j]at g;rw[f];exact R.lh t k o (l t g).2
   ·rw[f];exact R.aH
   ·intro r P ⟨t,g,he⟩;rw[j]at g;exact R.aL r P ⟨t,(l t g).2,he⟩
   ·rw[f];exact R.fresh
   ·rw[f];exact R.clive
   ·intro t g;rw[j]at g;exact R.cloc t (l t g).2
   ·rw[f];exact R.chp
theorem Rel.world (R:Rel N c ns A μ lam s a w) {w':World} (D:w.heap.size<=w'.heap.size)
 (q: ∀r,A r\/MBL s.loc lam r\/(∃k o,s.heap k=some o/\o.live=true/\μ k=r)->w'.heap[r]? =w.heap[r]?)
 (W: ∀r,r<c.w0.heap.size-> ¬c.X r->w'.heap[r]? =w.heap[r]?)
 (I: ∀r x,w.shape? r=some x->w'.shape? r=some x) (M:d7 c A w' a.defers) (F:w'.os=w.os/\w'.output=w.output:=by exact⟨rfl,rfl⟩):Rel N c ns A μ lam s a w':=by
 have E:Evo w A μ s.heap w' A μ s.heap:=⟨fun r h=>q r (.inl h),fun _ h=>h,fun _ o h=>⟨o,h,O.le_refl o,fun _=>rfl⟩,I⟩
 refine{ R with defers:=M,env:=fun t=>(R.env t).evo E,loc:= ?_,heap:= ?_,glob:= ?_,alt:=fun r h=>fw (R.alt r h) D,cout:=⟨F.1.trans R.cout.1,F.2.trans R.cout.2⟩,csize:=cU R.csize D,ckeep:= ?_,cshp:=fun r x h=>I r x (R.cshp r x h) }
 ·intro t cs h;obtain⟨d,y,e,l,p⟩:=R.loc t cs h;exact⟨d,y,e,by rw[q _ (.inr (.inl ⟨t,by rw[h];rfl,rfl⟩))];exact l,p.evo E⟩
 ·intro k o h;have:=R.heap k o h
  cases o with
  | dead=>trivial
  | rows sz rs P=>
    obtain⟨y,e,z,d,l,p,B,C⟩:=this
    exact⟨y,e,z,by rw[q _ (.inr (.inr ⟨k,_,h,rfl,rfl⟩))];exact d,l,p,B,fun i row j x Q S=>let⟨v,u,f⟩:=C i row j x Q S;⟨v,u,f.evo E⟩⟩
  | map es=>
    obtain⟨ms,n,d,l,p⟩:=this
    exact⟨ms,n,by rw[q _ (.inr (.inr ⟨k,_,h,rfl,rfl⟩))];exact d,l,fun i k x g=>let⟨m,hm,f,u⟩:=p i k x g;⟨m,hm,f,u.evo E⟩⟩
  | loop env Y b Z=>
    obtain⟨L,d,l,p,B,C,V,U⟩:=this
    exact⟨L,by rw[q _ (.inr (.inr ⟨k,_,h,rfl,rfl⟩))];exact d,l,p,B,C,V,fun t=>(U t).evo E⟩
  | raw x=>exact lO.evo this E (q _ (.inr (.inr ⟨k,_,h,rfl,rfl⟩)))
 ·intro g j x h;obtain⟨d,⟨X,K⟩,v,u,f⟩:=R.glob g j x h;exact⟨d,⟨X,E.shp _ _ K⟩,v,by rw[cell?_eq (q _ (.inl d))];exact u,f.mono E.blk E.sub⟩
 ·intro r f J;rw[W r f J];exact R.ckeep r f J
theorem shape?_push (w:World) (o:Go.Obj) (r:Nat) (x:TypeId×Nat) (h:w.shape? r=some x):(w.alloc o).shape? r=some x:=by
 have b:r<w.heap.size:=by
  rcases bw r w.heap.size with h' | h'
  ·exact h'
  ·simp[World.shape?,jR h']at h
 have:(w.alloc o).heap[r]? =w.heap[r]? :=by simp only[World.alloc,pZ];simp[qp b]
 simpa[World.shape?,this]using h
theorem lO.isCells {w:World} {b d:Nat} {μ:Nat->Nat} {H:ae} {r:Nat} {x:Bx} (h:lO w b d μ H r x): ∃cs t z,w.heap[r]? =some (.cells cs t z):=by
 match x,h with
 | .bld none,⟨_,h,_⟩=>exact⟨_,_,_,h⟩
 | .bld (some _),⟨_,_,_,h,_⟩=>exact⟨_,_,_,h⟩
 | .mid,⟨_,_,h⟩=>exact⟨_,_,_,h⟩
 | .buf _,⟨_,h,_⟩=>exact⟨_,_,_,h⟩
theorem Rel.lt_live (R:Rel N c ns A μ lam s a w) {k:Nat} {o:O} (h:s.heap k=some o) (g:o.live=true):μ k<w.heap.size:=by
 have:=R.heap k o h
 cases o with
 | dead=>simp[O.live]at g
 | rows m rs f=>obtain⟨i,e,z,d,_⟩:=this;exact(gQ.1 d).1
 | map es=>obtain⟨ms,n,d,_⟩:=this;exact(gQ.1 d).1
 | loop env j b l=>obtain⟨L,d,_⟩:=this;exact(gQ.1 d).1
 | raw x=>
   obtain⟨_,_,_,d⟩:=lO.isCells this;exact(gQ.1 d).1
theorem Rel.ndef (R:Rel N c ns A μ lam s a w) {k:Nat} {o:O} (h:s.heap k=some o) (g:o.live=true):w.heap[μ k]? ≠some (Obj.deferred (some [])):=by
 have:=R.heap k o h
 cases o with
 | dead=>simp[O.live]at g
 | rows m rs f=>obtain⟨i,e,z,d,_⟩:=this;rw[d];simp
 | map es=>obtain⟨ms,n,d,_⟩:=this;rw[d];simp
 | loop env j b l=>obtain⟨L,d,_⟩:=this;rw[d];simp
 | raw x=>
   obtain⟨_,_,_,d⟩:=lO.isCells this;rw[d];simp
theorem Rel.ndef_loc (R:Rel N c ns A μ lam s a w) {t:Nat} (h:(s.loc t).isSome=true):w.heap[lam t]? ≠some (Obj.deferred (some [])):=by
 obtain⟨cs,h⟩:=rL.1 h;obtain⟨_,d,e,b,_⟩:=R.loc t cs h;rw[b];simp
theorem Rel.lt_loc (R:Rel N c ns A μ lam s a w) {t:Nat} (h:(s.loc t).isSome=true):lam t<w.heap.size:=by
 obtain⟨cs,h⟩:=rL.1 h;obtain⟨_,d,e,b,_⟩:=R.loc t cs h;exact(gQ.1 b).1
theorem i7.evo {w w':World} {A A':Nat->Prop} {N:Nam} {μ μ':Nat->Nat} {H H':ae} {r:Nat} {o:O} (h:i7 w A N μ H r o)
 (e:Evo w A μ H w' A' μ' H') (d:w'.heap[r]? =w.heap[r]?):i7 w' A' N μ' H' r o:=by
 cases o with
 | dead=>trivial
 | rows M rs C=>
   obtain⟨y,B,z,f,l,p,q,u⟩:=h
   exact⟨y,B,z,by rw[d];exact f,l,p,q,fun i row j x D E=>let⟨v,hv,d⟩:=u i row j x D E;⟨v,hv,d.evo e⟩⟩
 | map es=>
   obtain⟨ms,n,f,l,p⟩:=h
   exact⟨ms,n,by rw[d];exact f,l,fun i k x g=>let⟨m,hm,d,hv⟩:=p i k x g;⟨m,hm,d,hv.evo e⟩⟩
 | loop env J b K=>
   obtain⟨L,f,l,p,q,u,I,F⟩:=h
   exact⟨L,by rw[d];exact f,l,p,q,u,I,fun t=>(F t).evo e⟩
 | raw x=>exact lO.evo h e d
theorem qV.evo {w w':World} {A A':Nat->Prop} {nm μ μ':Nat->Nat} {H H':ae} {r:Nat} {cs:List V} (h:qV w A nm μ H r cs)
 (e:Evo w A μ H w' A' μ' H') (i:w'.heap[r]? =w.heap[r]?):qV w' A' nm μ' H' r cs:=by
 obtain⟨b,d,f,g⟩:=h;exact⟨b,d,by rw[i];exact f,g.evo e⟩
structure Orphan (c:Ctx) (A:Nat->Prop) (μ lam:Nat->Nat) (s:St) (r:Nat):Prop where
 a: ¬A r
 l: ∀t,(s.loc t).isSome=true->lam t≠r
 h: ∀k o,s.heap k=some o->o.live=true->μ k≠r
 x:c.X r\/c.w0.heap.size<=r
theorem Rel.orphan_new (R:Rel N c ns A μ lam s a w):Orphan c A μ lam s w.heap.size:=
 ⟨fun h=>lC _ (R.alt _ h),fun _ h e=>lC _ (e▸R.lt_loc h),fun _ _ h b e=>lC _ (e▸R.lt_live h b),.inr R.csize⟩
theorem Rel.alloc (R:Rel N c ns A μ lam s a w) (o:Go.Obj):Rel N c ns A μ lam s a (w.alloc o):=by
 have b: ∀r,r<w.heap.size->(w.alloc o).heap[r]? =w.heap[r]? :=by
  intro r d;simp only[World.alloc,pZ];simp[qp d]
 refine R.world af ?_ ?_ (fun r x h=>shape?_push w o r x h) (R.defers.evo (fun r h=>b r (gQ.1 h).1) (fun _ _ h=>h))
 ·rintro r (h | ⟨t,h,rfl⟩ | ⟨k,o',h,e,rfl⟩)
  ·exact b r (R.alt r h)
  ·exact b _ (R.lt_loc h)
  ·exact b _ (R.lt_live h e)
 ·intro r d _;exact b r (fw d R.csize)
theorem Rel.drew (R:Rel N c ns A μ lam s a w):Rel N c ns A μ lam s a w.drew:=
 R.world (ay _) (fun _ _=>rfl) (fun _ _ _=>rfl) (fun _ _ h=>h) R.defers
theorem shape?_setRow {w:World} {g:Nat} {b cs:Array Value} {t:TypeId} {fr:Nat×Nat} (d:w.heap[g]? =some (.cells b t fr)) (f:cs.size=b.size)
 (r:Nat) (x:TypeId×Nat) (h:w.shape? r=some x):(w.setRow g cs).shape? r=some x:=by
 by_cases e:r=g
 ·subst e;simp only[World.shape?,d,setRow_heap w r b cs t fr d]at h⊢;simpa[f]using h
 ·simpa[World.shape?,setRow_other w g r cs e]using h
theorem Rel.setOrphan (R:Rel N c ns A μ lam s a w) {r:Nat} (f:Orphan c A μ lam s r) {b cs:Array Value} {t:TypeId} {fr:Nat×Nat}
 (g:w.heap[r]? =some (.cells b t fr)) (l:cs.size=b.size):Rel N c ns A μ lam s a (w.setRow r cs):=by
 refine R.world af ?_ ?_ (shape?_setRow g l) (R.defers.evo (fun d h=>setRow_other w r d cs (fun e=>by subst e;rw[g]at h;simp at h)) (fun _ _ h=>h))
 ·rintro d (h | ⟨t,h,rfl⟩ | ⟨k,o',h,j,rfl⟩)
  ·exact setRow_other w r d cs (fun e=>f.a (e▸h))
  ·exact setRow_other w r _ cs (f.l t h)
  ·exact setRow_other w r _ cs (f.h k o' h j)
 ·intro d m i;refine setRow_other w r d cs (fun e=> ?_);subst e;rcases f.x with h | h
  ·exact i h
  ·omega
theorem Rel.adoptH (R:Rel N c ns A μ lam s a w) {k r:Nat} {o:O} (Q:s.heap k=none) (S:k<s.nxt) (n:Orphan c A μ lam s r)
 (U:i7 w A N μ s.heap r o) (M: ∀p rs,o≠ .rows p rs true):Rel N c ns A (upd μ k r) lam { s with heap:=upd s.heap k (some o) } a w:=by
 have q: ∀b o',s.heap b=some o'->b≠k:=by rintro b o' h rfl;simp[Q]at h
 have E:Evo w A μ s.heap w A (upd μ k r) (upd s.heap k (some o)):=
  ⟨fun _ _=>rfl,fun _ h=>h,fun b o' h=>⟨o',by rw[aP _ _ (q b o' h)];exact h,O.le_refl o',fun _=>aP _ _ (q b o' h)⟩,fun _ _ h=>h⟩
 have f: ∀b o',(upd s.heap k (some o)) b=some o'->(b=k/\o'=o)\/(b≠k/\s.heap b=some o'):=by
  intro b o' h
  by_cases e:b=k
  ·subst e;simp at h;exact .inl ⟨rfl,h.symm⟩
  ·rw[aP _ _ e]at h;exact .inr ⟨e,h⟩
 refine{ R with env:=fun t=>(R.env t).evo E,loc:= ?_,heap:= ?_,hinj:= ?_,lh:= ?_,aH:= ?_,afz:= ?_,fresh:= ?_,clive:= ?_,chp:= ?_ }
 ·intro t cs h;obtain⟨j,m⟩:=R.loc t cs h;exact⟨j,m.evo E rfl⟩
 ·intro b o' h;rcases f b o' h with⟨rfl,rfl⟩ | ⟨e,h⟩
  ·simp only[cV];exact U.evo E rfl
  ·simp only[aP _ _ e];exact(R.heap b o' h).evo E rfl
 ·intro v x l y j m K L d;rcases f v l j with⟨rfl,rfl⟩ | ⟨B,D⟩<;>rcases f x y m with⟨rfl,rfl⟩ | ⟨C,F⟩
  ·rfl
  ·simp only[cV,aP _ _ C]at d;exact absurd d.symm (n.h x y F L)
  ·simp only[cV,aP _ _ B]at d;exact absurd d (n.h v l D K)
  ·simp only[aP _ _ B,aP _ _ C]at d;exact R.hinj v x l y D F K L d
 ·intro t b o' J h i;rcases f b o' h with⟨rfl,rfl⟩ | ⟨e,h⟩
  ·simp only[cV];exact n.l t J
  ·simp only[aP _ _ e];exact R.lh t b o' J h i
 ·rintro z I ⟨b,o',h,u,i,d⟩;rcases f b o' h with⟨rfl,rfl⟩ | ⟨e,h⟩
  ·simp only[cV]at d;subst d;exact n.a I
  ·simp only[aP _ _ e]at d;exact R.aH z I ⟨b,o',h,u,i,d⟩
 ·intro b p rs h;rcases f b _ h with⟨rfl,g⟩ | ⟨e,h⟩
  ·exact absurd g.symm (M p rs)
  ·simp only[aP _ _ e];exact R.afz b p rs h
 ·intro b h;have:b≠k:=fun e=>by subst e;exact absurd h (Nat.not_le.2 S)
  simp only[aP _ _ this];exact R.fresh b h
 ·rintro z ⟨b,o',h,u,i,d⟩;rcases f b o' h with⟨rfl,rfl⟩ | ⟨e,h⟩
  ·simp only[cV]at d;subst d;exact n.x
  ·simp only[aP _ _ e]at d;exact R.clive z ⟨b,o',h,u,i,d⟩
 ·intro b o' h;obtain⟨l,j,m,P⟩:=R.chp b o' h;have e:=q b l j;exact⟨l,by simp only[aP _ _ e];exact j,m,fun i=>by rw[aP _ _ e];exact P i⟩
theorem Rel.changeH (R:Rel N c ns A μ lam s a w) {k:Nat} {o o':O} {w':World} (i:s.heap k=some o) (L:O.le o o') (p:o.live=true)
 (F: ∀y rs,o≠ .rows y rs true) (Y: ∀y rs,o'≠ .rows y rs true) (CE:o'.live=true)
 (M:w'.heap.size=w.heap.size) (q: ∀r,r≠μ k->w'.heap[r]? =w.heap[r]?) (V: ∀r x,w.shape? r=some x->w'.shape? r=some x)
 (ho:Evo w A μ s.heap w' A μ (upd s.heap k (some o'))->i7 w' A N μ (upd s.heap k (some o')) (μ k) o') (Q:w'.os=w.os/\w'.output=w.output:=by exact⟨rfl,rfl⟩):
 Rel N c ns A μ lam { s with heap:=upd s.heap k (some o') } a w':=by
 have D: ∀r,A r->r≠μ k:=fun r h e=>R.aH r h ⟨k,o,i,F,p,e.symm⟩
 have E:Evo w A μ s.heap w' A μ (upd s.heap k (some o')):=by
  refine⟨fun r h=>q r (D r h),fun _ h=>h,fun b d h=> ?_,V⟩
  by_cases e:b=k
  ·subst e;rw[i]at h;cases h;exact⟨o',af,L,fun _=>rfl⟩
  ·exact⟨d,by rw[aP _ _ e];exact h,O.le_refl d,fun _=>rfl⟩
 have z: ∀b d,(upd s.heap k (some o')) b=some d->(b=k/\d=o')\/(b≠k/\s.heap b=some d):=by
  intro b d h
  by_cases e:b=k
  ·subst e;simp at h;exact .inl ⟨rfl,h.symm⟩
  ·rw[aP _ _ e]at h;exact .inr ⟨e,h⟩
 have B: ∀b d,(upd s.heap k (some o')) b=some d->d.live=true-> ∃u,s.heap b=some u/\u.live=true:=by
  intro b d h l;rcases z b d h with⟨rfl,rfl⟩ | ⟨_,h⟩
  ·exact⟨o,i,p⟩
  ·exact⟨d,h,l⟩
 have Z: ∀r:Nat,w.heap[r]? =some (Obj.deferred (some []))->w'.heap[r]? =w.heap[r]? :=fun r h=>q r (fun e=>R.ndef i p (e▸h))
 refine{ R with defers:=R.defers.evo Z (fun _ _ h=>h),env:=fun t=>(R.env t).evo E,loc:= ?_,heap:= ?_,hinj:= ?_,lh:= ?_,aH:= ?_,alt:= ?_,afz:= ?_,fresh:= ?_,glob:= ?_,cout:=⟨Q.1.trans R.cout.1,Q.2.trans R.cout.2⟩,csize:= ?_,ckeep:= ?_,cshp:= ?_,clive:= ?_,chp:= ?_ }
 ·intro t cs h;obtain⟨n,f⟩:=R.loc t cs h;exact⟨n,f.evo E (q _ (R.lh t k o (by rw[h];rfl) i p))⟩
 ·intro b d h;rcases z b d h with⟨rfl,rfl⟩ | ⟨e,h⟩
  ·exact ho E
  ·cases l:d.live with
   | false=>cases d<;>simp_all [O.live];trivial
   | true=>exact(R.heap b d h).evo E (q _ (fun m=>e (R.hinj b k d o h i l p m)))
 ·intro b W d u n f l1 l2 m;obtain⟨J,K,I⟩:=B b d n l1;obtain⟨p2,q2,m2⟩:=B W u f l2;exact R.hinj b W J p2 K q2 I m2 m
 ·intro t b d ht h l;obtain⟨J,K,I⟩:=B b d h l;exact R.lh t b J ht K I
 ·rintro r P ⟨b,d,h,C,l,m⟩;rcases z b d h with⟨rfl,rfl⟩ | ⟨e,h⟩
  ·exact D r P m.symm
  ·exact R.aH r P ⟨b,d,h,C,l,m⟩
 ·intro r h;rw[M];exact R.alt r h
 ·intro b y rs h;rcases z b _ h with⟨rfl,g⟩ | ⟨e,h⟩
  ·exact absurd g.symm (Y y rs)
  ·exact R.afz b y rs h
 ·intro b h;have:b≠k:=by rintro rfl;have:=R.fresh b h;simp[i]at this
  simp only[aP _ _ this];exact R.fresh b h
 ·intro g j x h;obtain⟨n,⟨te,X⟩,v,hv,hr⟩:=R.glob g j x h;exact⟨n,⟨te,E.shp _ _ X⟩,v,by rw[cell?_eq (q _ (D _ n))];exact hv,hr.mono E.blk E.sub⟩
 ·rw[M];exact R.csize
 ·intro r n f;rw[q r ?_]
  ·exact R.ckeep r n f
  ·rintro rfl;rcases R.clive _ ⟨k,o,i,F,p,rfl⟩with h | h
   ·exact f h
   ·omega
 ·intro r x h;exact V r x (R.cshp r x h)
 ·rintro r ⟨b,d,h,C,l,m⟩;rcases z b d h with⟨rfl,rfl⟩ | ⟨e,h⟩
  ·exact R.clive r ⟨b,o,i,F,p,m⟩
  ·exact R.clive r ⟨b,d,h,C,l,m⟩
 ·intro b d h;obtain⟨u,f,S,U⟩:=R.chp b d h
  by_cases e:b=k
  ·subst e;rw[i]at f;cases f;exact⟨o',af,O.le_trans S L,fun _=>U p⟩
  ·exact⟨u,by simp only[aP _ _ e];exact f,S,U⟩
theorem Rel.kill (R:Rel N c ns A μ lam s a w) {k:Nat} {o:O} (F:s.heap k=some o):Rel N c ns A μ lam { s with heap:=upd s.heap k (some .dead) } a w:=by
 have E:Evo w A μ s.heap w A μ (upd s.heap k (some .dead)):=by
  refine⟨fun _ _=>rfl,fun _ h=>h,fun b d h=> ?_,fun _ _ h=>h⟩
  by_cases e:b=k
  ·subst e;exact⟨.dead,af,by cases d<;>trivial,fun _=>rfl⟩
  ·exact⟨d,by rw[aP _ _ e];exact h,O.le_refl d,fun _=>rfl⟩
 have g: ∀b d,(upd s.heap k (some .dead)) b=some d->d.live=true->b≠k/\s.heap b=some d:=by
  intro b d h f
  by_cases e:b=k
  ·subst e;simp at h;subst h;simp[O.live]at f
  ·rw[aP _ _ e]at h;exact⟨e,h⟩
 refine{ R with env:=fun t=>(R.env t).evo E,loc:= ?_,heap:= ?_,hinj:= ?_,lh:= ?_,aH:= ?_,afz:=fun b J rs h=>R.afz b J rs (g b _ h rfl).2,fresh:= ?_,clive:= ?_,chp:= ?_ }
 ·intro t cs h;obtain⟨n,i⟩:=R.loc t cs h;exact⟨n,i.evo E rfl⟩
 ·intro b d h
  cases f:d.live with
  | false=>cases d<;>simp_all [O.live];trivial
  | true=>exact(R.heap b d (g b d h f).2).evo E rfl
 ·intro b u d l n i v x j;exact R.hinj b u d l (g b d n v).2 (g u l i x).2 v x j
 ·intro t b d I h f;exact R.lh t b d I (g b d h f).2 f
 ·rintro r z ⟨b,d,h,m,f,j⟩;exact R.aH r z ⟨b,d,(g b d h f).2,m,f,j⟩
 ·intro b h;have:b≠k:=by rintro rfl;have:=R.fresh b h;simp[F]at this
  simp only[aP _ _ this];exact R.fresh b h
 ·rintro r ⟨b,d,h,m,f,j⟩;exact R.clive r ⟨b,d,(g b d h f).2,m,f,j⟩
 ·intro b d h;obtain⟨l,i,B,C⟩:=R.chp b d h;obtain⟨y,q,D,K⟩:=E.hp b l i;refine⟨y,q,O.le_trans B D,fun p=>C ?_⟩;have:=g b y q p;rw[this.2]at i;cases i;exact p
theorem Rel.orphan_kill (R:Rel N c ns A μ lam s a w) {k:Nat} {o:O} (b:s.heap k=some o) (d:o.live=true) (g: ∀m rs,o≠ .rows m rs true):
 Orphan c A μ lam { s with heap:=upd s.heap k (some .dead) } (μ k):=by
 refine⟨fun h=>R.aH _ h ⟨k,o,b,g,d,rfl⟩,fun t h=>R.lh t k o h b d,fun i l h f j=> ?_,R.clive _ ⟨k,o,b,g,d,rfl⟩⟩
 by_cases e:i=k
 ·subst e;simp at h;subst h;simp[O.live]at f
 ·simp only[aP _ _ e]at h;exact e (R.hinj i k l o h b f d j)
theorem Rel.adoptL (R:Rel N c ns A μ lam s a w) (d:Nat) (E:d<ns) (I:s.used d=false) {r:Nat} (l:Orphan c A μ lam s r) {cs:List V}
 (F:qV w A N.nm μ s.heap r cs):
 Rel N c ns A μ (upd lam d r) (s.apply (some d) { val:=.lb,loc:=some cs }) (a.put (some d) (.pointer (some ⟨r,0,none⟩))) w:=by
 have m:d<a.tmps.size:=by rw[R.size];exact E
 have D:s.apply (some d) { val:=.lb,loc:=some cs }= { s with env:=upd s.env d .lb,adr:=upd s.adr d none,loc:=upd s.loc d (some cs) }:=rfl;rw[D]
 have j: ∀t,((upd s.loc d (some cs)) t).isSome=true->t=d\/(t≠d/\(s.loc t).isSome=true):=by
  intro t h
  by_cases e:t=d
  ·exact .inl e
  ·exact .inr ⟨e,by rwa[aP _ _ e]at h⟩
 refine{ R with size:=by rw[QG];exact R.size,defers:=by rw[Md];exact R.defers,env:= ?_,loc:= ?_,adr:= ?_,linj:= ?_,lh:= ?_,aL:= ?_,cloc:= ?_ }
 ·intro t;rw[pL a d t _ m]
  by_cases f:t=d
  ·subst f;simp[aO]
  ·simp only[aP _ _ f,ac f];exact R.env t
 ·intro t cs' h;rw[pL a d t _ m]
  by_cases f:t=d
  ·subst f;simp only[cV,rG]at h;subst h;simp only[cV,aU];exact⟨trivial,F⟩
  ·simp only[aP _ _ f]at h;simp only[aP _ _ f,ac f];exact R.loc t cs' h
 ·intro t b o h;rw[pL a d t _ m]
  by_cases f:t=d
  ·subst f;simp at h
  ·simp only[aP _ _ f]at h;obtain⟨u,B,C⟩:=R.adr t b o h;have n:b≠d:=by intro n;subst n;simp[I]at u
   simp only[aP _ _ n,ac f];exact⟨u,B,C⟩
 ·intro t p g z i;rcases j t g with rfl | ⟨e,q⟩<;>rcases j p z with rfl | ⟨e',y⟩
  ·rfl
  ·simp only[cV,aP _ _ e']at i;exact absurd i.symm (l.l p y)
  ·simp only[cV,aP _ _ e]at i;exact absurd i (l.l t q)
  ·simp only[aP _ _ e,aP _ _ e']at i;exact R.linj t p q y i
 ·intro t k o g h x;rcases j t g with rfl | ⟨e,g⟩
  ·simp only[cV];exact fun e=>l.h k o h x e.symm
  ·simp only[aP _ _ e];exact R.lh t k o g h x
 ·rintro J v ⟨t,g,i⟩;rcases j t g with rfl | ⟨e,g⟩
  ·simp only[cV]at i;subst i;exact l.a v
  ·simp only[aP _ _ e]at i;exact R.aL J v ⟨t,g,i⟩
 ·intro t g;rcases j t g with rfl | ⟨e,g⟩
  ·simp only[cV];exact l.x
  ·simp only[aP _ _ e];exact R.cloc t g
theorem Rel.changeL (R:Rel N c ns A μ lam s a w) {b:Nat} {cs cs':List V} {w':World} (z:s.loc b=some cs)
 (q:w'.heap.size=w.heap.size) (d: ∀r,r≠lam b->w'.heap[r]? =w.heap[r]?) (B: ∀r x,w.shape? r=some x->w'.shape? r=some x)
 (Q:Evo w A μ s.heap w' A μ s.heap->qV w' A N.nm μ s.heap (lam b) cs') (u:w'.os=w.os/\w'.output=w.output:=by exact⟨rfl,rfl⟩):
 Rel N c ns A μ lam { s with loc:=upd s.loc b (some cs') } a w':=by
 have f:(s.loc b).isSome=true:=by rw[z];rfl
 have y: ∀r,A r->r≠lam b:=fun r h e=>R.aL r h ⟨b,f,e.symm⟩
 have E:Evo w A μ s.heap w' A μ s.heap:=⟨fun r h=>d r (y r h),fun _ h=>h,fun _ o h=>⟨o,h,O.le_refl o,fun _=>rfl⟩,B⟩
 have l: ∀t,((upd s.loc b (some cs')) t).isSome=true->(s.loc t).isSome=true:=by
  intro t h
  by_cases e:t=b
  ·subst e;exact f
  ·rwa[aP _ _ e]at h
 have F: ∀r:Nat,w.heap[r]? =some (Obj.deferred (some []))->w'.heap[r]? =w.heap[r]? :=fun r h=>d r (fun e=>R.ndef_loc f (e▸h))
 refine{ R with defers:=R.defers.evo F (fun _ _ h=>h),env:=fun t=>(R.env t).evo E,loc:= ?_,adr:= ?_,heap:= ?_,linj:= ?_,lh:= ?_,aL:= ?_,alt:= ?_,glob:= ?_,cout:=⟨u.1.trans R.cout.1,u.2.trans R.cout.2⟩,csize:= ?_,ckeep:= ?_,cshp:= ?_,cloc:= ?_ }
 ·intro t I h
  by_cases e:t=b
  ·subst e;simp only[cV,rG]at h;subst h;exact⟨(R.loc t cs z).1,Q E⟩
  ·simp only[aP _ _ e]at h;obtain⟨i,n⟩:=R.loc t I h;exact⟨i,n.evo E (d _ (fun m=>e (R.linj t b (by rw[h];rfl) f m)))⟩
 ·intro t b' o h;obtain⟨K,L,M⟩:=R.adr t b' o h;refine⟨K,?_,M⟩
  by_cases e:b'=b
  ·subst e;simp
  ·simp only[aP _ _ e];exact L
 ·intro k o h
  cases P:o.live with
  | false=>cases o<;>simp_all [O.live];trivial
  | true=>exact(R.heap k o h).evo E (d _ (fun m=>R.lh b k o f h P m.symm))
 ·intro t C g J;exact R.linj t C (l t g) (l C J)
 ·intro t k o g;exact R.lh t k o (l t g)
 ·rintro r p ⟨t,g,m⟩;exact R.aL r p ⟨t,l t g,m⟩
 ·intro r h;rw[q];exact R.alt r h
 ·intro g j x h;obtain⟨i,⟨U,D⟩,v,S,p⟩:=R.glob g j x h;exact⟨i,⟨U,E.shp _ _ D⟩,v,by rw[cell?_eq (d _ (y _ i))];exact S,p.mono E.blk E.sub⟩
 ·rw[q];exact R.csize
 ·intro r i n;rw[d r ?_]
  ·exact R.ckeep r i n
  ·rintro rfl;rcases R.cloc b f with h | h
   ·exact n h
   ·omega
 ·intro r x h;exact B r x (R.cshp r x h)
 ·intro t g;exact R.cloc t (l t g)
theorem Rel.freeze (R:Rel N c ns A μ lam s a w) {k i:Nat} {rs:List (List V)} {B:Bool} (f:s.heap k=some (.rows i rs B)):
 Rel N c ns (fun r=>A r\/r=μ k) μ lam { s with heap:=upd s.heap k (some (.rows i rs true)) } a w:=by
 have E:Evo w A μ s.heap w (fun r=>A r\/r=μ k) μ (upd s.heap k (some (.rows i rs true))):=by
  refine⟨fun _ _=>rfl,fun _ h=> .inl h,fun b d h=> ?_,fun _ _ h=>h⟩
  by_cases e:b=k
  ·subst e;rw[f]at h;cases h;exact⟨.rows i rs true,af,⟨rfl,rfl⟩,fun _=>rfl⟩
  ·exact⟨d,by rw[aP _ _ e];exact h,O.le_refl d,fun _=>rfl⟩
 have q: ∀b d,(upd s.heap k (some (.rows i rs true))) b=some d->(b=k/\d= .rows i rs true)\/(b≠k/\s.heap b=some d):=by
  intro b d h
  by_cases e:b=k
  ·subst e;simp at h;exact .inl ⟨rfl,h.symm⟩
  ·rw[aP _ _ e]at h;exact .inr ⟨e,h⟩
 have C: ∀b d,(upd s.heap k (some (.rows i rs true))) b=some d->d.live=true-> ∃p,s.heap b=some p/\p.live=true:=by
  intro b d h m;rcases q b d h with⟨rfl,rfl⟩ | ⟨_,h⟩
  ·exact⟨_,f,rfl⟩
  ·exact⟨d,h,m⟩
 have X: ∀r:Nat,w.heap[r]? =some (Obj.deferred (some []))->(A r\/r=μ k)->A r:=fun r h h'=>h'.resolve_right (fun e=>R.ndef f rfl (e▸h))
 refine{ R with defers:=R.defers.evo (fun _ _=>rfl) X,env:=fun t=>(R.env t).evo E,loc:= ?_,heap:= ?_,hinj:= ?_,lh:= ?_,aH:= ?_,aL:= ?_,alt:= ?_,afz:= ?_,fresh:= ?_,glob:= ?_,csub:= ?_,canew:= ?_,clive:= ?_,chp:= ?_ }
 ·intro t cs h;obtain⟨o,n⟩:=R.loc t cs h;exact⟨o,n.evo E rfl⟩
 ·intro b d h;rcases q b d h with⟨rfl,rfl⟩ | ⟨e,h⟩
  ·obtain⟨Y,Z,z,o,n,F,I,D⟩:=(R.heap b _ f).evo E rfl;exact⟨Y,Z,z,o,af,F,I,D⟩
  ·exact(R.heap b d h).evo E rfl
 ·intro b Q d p o n l1 l2 l;obtain⟨K,L,J⟩:=C b d o l1;obtain⟨p2,q2,m2⟩:=C Q p n l2;exact R.hinj b Q K p2 L q2 J m2 l
 ·intro t b d ht h m;obtain⟨K,L,J⟩:=C b d h m;exact R.lh t b K ht L J
 ·rintro r y ⟨b,d,h,u,m,l⟩;rcases q b d h with⟨rfl,rfl⟩ | ⟨e,h⟩
  ·exact u i rs rfl
  ·rcases y with y | rfl
   ·exact R.aH r y ⟨b,d,h,u,m,l⟩
   ·exact e (R.hinj b k d _ h f m rfl l)
 ·rintro r (y | rfl) ⟨t,g,l⟩
  ·exact R.aL r y ⟨t,g,l⟩
  ·exact R.lh t k _ g f rfl l
 ·rintro r (h | rfl)
  ·exact R.alt r h
  ·exact R.lt_live f rfl
 ·intro b P M h;rcases q b _ h with⟨rfl,h⟩ | ⟨e,h⟩
  ·exact .inr rfl
  ·exact .inl (R.afz b P M h)
 ·intro b h;have:b≠k:=by rintro rfl;have:=R.fresh b h;simp[f]at this
  simp only[aP _ _ this];exact R.fresh b h
 ·intro g j x h;obtain⟨o,⟨te,W⟩,v,hv,hr⟩:=R.glob g j x h;exact⟨.inl o,⟨te,W⟩,v,hv,hr.mono E.blk E.sub⟩
 ·intro r h;exact .inl (R.csub r h)
 ·rintro r (h | rfl)
  ·exact R.canew r h
  ·cases B with
   | true=>exact R.canew _ (R.afz k i rs f)
   | false=>exact .inr (R.clive _ ⟨k,_,f,af,rfl,rfl⟩)
 ·rintro r ⟨b,d,h,u,m,l⟩;rcases q b d h with⟨rfl,rfl⟩ | ⟨e,h⟩
  ·exact absurd rfl (u i rs)
  ·exact R.clive r ⟨b,d,h,u,m,l⟩
 ·intro b d h;obtain⟨p,n,F,I⟩:=R.chp b d h;obtain⟨S,D,h6,h7⟩:=E.hp b p n;refine⟨S,D,O.le_trans F h6,fun U=>I ?_⟩;obtain⟨o4,h8,h9⟩:=C b S D U;rw[h8]at n;cases n;exact h9
end
end Rg
end
section
namespace Rg
theorem zA.{u} {α:Type u} (a b:α):(some a=some b)=(a=b):=rG a b
theorem zB.{u,v} {α:Type u} {b:α} {β:Type v} {x:Option β} {f:β->Option α}:x.bind f=some b<->∃ a,x=some a/\f a=some b:=Option.bind_eq_some_iff
theorem zC.{u} {α β:Type u}:(bind:Option α->(α->Option β)->Option β)=Option.bind:=rfl
theorem zH.{u} {α:Type u} {i:Nat} {a:α} {l:List α}:l[i]? = some a<->∃ h:i<l.length,l[i]=a:=List.getElem?_eq_some_iff
theorem zD.{u,v} {α:Type u} {β:Type v} (a:α) (f:α->Option β):(some a).bind f=f a:=rfl
theorem zI.{u} {α:Type u} {l:List α} {i:Nat} (h:i<l.length):l[i]? = some l[i]:=List.getElem?_eq_getElem h
theorem zF (a b:Bool):((a&&b)=true)=(a=true/\b=true):=Bool.and_eq_true a b
theorem zE.{u,v} {α:Type u} {b:α} {β:Type v} {x:Option β} {f:β->α}:x.map f=some b<->∃ a,x=some a/\f a=b:=Option.map_eq_some_iff
theorem zG:(false=true)=False:=Bool.false_eq_true
theorem zJ.{u,v} {α:Type u} {β:Type v} {f:α->β} {l:List α} {i:Nat}:(l.map f)[i]? = l[i]?.map f:=List.getElem?_map
theorem zK.{u} {α:Type u} {l:List α} {i:Nat} {a:α}:l.getD i a=l[i]?.getD a:=List.getD_eq_getElem?_getD
theorem zL.{u} {α:Type u} {l:List α} {i:Nat} {a:α} (h:l[i]? = some a):a∈l:=List.mem_of_getElem? h
theorem zM.{u} {α:Type u} {as bs:List α}:(as++bs).length=as.length+bs.length:=List.length_append
theorem zN.{u} {α:Type u} {p:α->Bool} {l:List α}:l.all p=true<->∀ x,x∈l->p x=true:=List.all_eq_true
theorem zO.{u} {α:Type u} {l:List α} {i j:Nat}:(l.take i)[j]? = if j<i then l[j]? else none:=List.getElem?_take
theorem zQ.{u} {α:Type u} (as bs cs:List α):as++bs++cs=as++(bs++cs):=List.append_assoc as bs cs
abbrev zU:V:=.t (.int .u64 0)
end Rg
end
