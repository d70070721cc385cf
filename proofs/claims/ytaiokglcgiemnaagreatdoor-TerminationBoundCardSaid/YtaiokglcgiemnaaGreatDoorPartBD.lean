/- Part of the proof of the laws of the package relyguardlaw36: an abstract machine for the program's functions, what they compute, and that the machine is the program's. No condition. (H20b H20c H20d H20e H20f H20g H62b H62c H61d H61e H61f H61g H61h) -/
import Derived.Test.YtaiokglcgiemnaaGreatDoorPartBC
set_option linter.unusedSimpArgs false
set_option linter.unusedVariables false
section
namespace Rg
open Go
end Rg
end
section
namespace Rg
open Go
end Rg
end
section
namespace Rg
open Go
end Rg
end
section
namespace Rg
open Go
section
end
end Rg
end
section
namespace Rg
open Go
structure Vis where
 c:Config
 fr:Int
 x:Choice
 deriving Inhabited
def v0 (p:Prog):Vis:=⟨startM p,-1,⟨0,0,0⟩⟩
theorem formed_small {p:Prog} (hf:formedM p=true):p.cells.length<=32/\(∀y∈p.cells,y.w<=8)/\(∀x∈p.threads,x.points<=48):=by
 have hr:=ok_iff.1 (show p.ok by simpa[formedM]using hf)
 obtain⟨⟨b1,_⟩,b5⟩:=limits_iff.1 hr.lim
 refine⟨b1,fun y hy=> ?_,fun x hx=>(b5 x hx).1⟩
 obtain⟨i,hi⟩:=List.getElem?_of_mem hy
 have:=(cellErr_iff.1 (hr.cells i y hi)).1
 simp only[cellBad,Bool.or_eq_false_iff,decide_eq_false_iff_not]at this
 omega
def cellsB (A V:Expr):List Int:=sortedM (A.sup 2++V.sup 2)
theorem width_of {p:Prog} (hf:formedM p=true) {y:Cell} (hy:y∈p.cells):1<=y.w/\y.w<=8:=by
 have hr:=ok_iff.1 (show p.ok by simpa[formedM]using hf)
 obtain⟨i,hi⟩:=List.getElem?_of_mem hy
 have:=(cellErr_iff.1 (hr.cells i y hi)).1
 simp only[cellBad,Bool.or_eq_false_iff,decide_eq_false_iff_not]at this
 omega
theorem cellsB_in {p:Prog} {A V:Expr} (hA:A.valid p.cells false=true) (hV:V.valid p.cells false=true): ∀c∈cellsB A V,0<=c/\c<p.cells.length:=by
 intro c hc
 rw[cellsB,sortedM_mem,List.mem_append]at hc
 rcases hc with hc | hc
 ·exact valid_in hA 2 (.inl rfl) c hc
 ·exact valid_in hV 2 (.inl rfl) c hc
theorem cellsB_len (A V:Expr):(cellsB A V).length<=64:=by
 have h1:=sortedM_len (A.sup 2++V.sup 2)
 have h2:=sup_len 2 A
 have h3:=sup_len 2 V
 rw[List.length_append]at h1
 rw[cellsB];omega
def sortL (l:List Int):List Int:=l.mergeSort fun x y=>decide (x<=y)
theorem sortR_den (H:Nat->Option O) (x n:Nat) (v:V) (l:List Int) (ho:OwnB H x v 1 (rowsI l)) (hl:l.length<2^40):
 ∃r h' n',DenR Γ G 74 [v] H n=some (r,h',n')/\r= .tup []/\OwnB h' x v 1 (rowsI (sortL l))/\n'=n:=by
 rcases ho with⟨rfl,hr⟩ | ⟨k,rfl,hk,hh⟩
 ·have hl0:l=[]:=by
   have:=congrArg List.length hr
   rw[rowsI_len]at this
   exact List.eq_nil_of_length_eq_zero this
  subst hl0
  exact⟨_,_,_,denR_ext Γ74 rfl rfl rfl,rfl,.inl ⟨rfl,by rw[sortL,List.mergeSort_nil];rfl⟩,rfl⟩
 ·rw[rowsI_len]
  refine⟨_,upd H k (some (.rows 1 (rowsI (sortL l)) false)),n,denR_ext Γ74 rfl rfl (by
   simp only[extSem,hh,intsOf_rowsI,Option.bind_some,ofInts_rowsI]
   rw[if_pos (by exact⟨trivial,by omega⟩)];rfl),rfl,.inr ⟨k,by rw[rowsI_len,sortL,List.length_mergeSort],hk,by rw[upd_same]⟩,rfl⟩
theorem compactR_den (H:Nat->Option O) (x n:Nat) (v:V) (l:List Int) (ho:OwnB H x v 1 (rowsI l)) (hl:l.length<2^40):
 ∃r h' n',DenR Γ G 75 [v] H n=some (r,h',n')/\r= .t (ints (Go.Lib.compact l))/\n'=n:=by
 rcases ho with⟨rfl,hr⟩ | ⟨k,rfl,hk,hh⟩
 ·have hl0:l=[]:=by
   have:=congrArg List.length hr
   rw[rowsI_len]at this
   exact List.eq_nil_of_length_eq_zero this
  subst hl0
  exact⟨_,_,_,denR_ext Γ75 rfl rfl rfl,rfl,rfl⟩
 ·rw[rowsI_len]
  exact⟨_,_,_,denR_ext Γ75 rfl rfl (by
   simp only[extSem,hh,intsOf_rowsI,Option.bind_some,ofInts_rowsI]
   rw[if_pos ⟨trivial,by omega⟩]),rfl,rfl⟩
theorem OwnB.cellsV {h:Nat->Option O} {x:Nat} {v:V} {sz:Nat} {rows:List (List V)} (o:OwnB h x v sz rows):V.cells v=some [v]:=by
 rcases o with⟨rfl,_⟩ | ⟨k,rfl,_,_⟩<;>rfl
theorem OwnB.upd' {h:Nat->Option O} {x k:Nat} {v:V} {sz:Nat} {rows:List (List V)} {o':Option O} (o:OwnB h x v sz rows) (hk:x<=k):OwnB (updC h k o') (k+3) v sz rows:=by
 rcases o with o | ⟨q,h1,h2,h3⟩
 ·exact .inl o
 ·exact .inr ⟨q,h1,by omega,by rw[updC_at,if_neg (by omega)];exact h3⟩
theorem rowsI_at {s:List Int} {c:Nat} (h:c<s.length):(rowsI s)[c]? =some [vi s[c]]:=by simp[rowsI,h]
theorem rowsI_st (s:List Int) (c:Nat) (v:Int):(rowsI s).set c [.t (.int .i64 v)]=rowsI (s.set c v):=by simp[rowsI,List.map_set]
theorem toT1_rowsI {h:Nat->Option O} {k len:Nat} {s:List Int} {fz:Bool} (hk:h k=some (.rows 1 (rowsI s) fz)) (hl:len=s.length):toT1 h (.ms k 0 len)=some (.t (ints s)):=by
 have h1:=rows_toT h 999 (s.map fun n=>[ti n]) (ints_norm _)
 have h2:toT h 1000 (.ms k 0 len)=some (ints s):=by
  rw[toT,hk]
  simp only[rd,Nat.zero_add,List.drop_zero]
  rw[if_pos (by rw[rowsI_len];omega),List.take_of_length_le (by rw[rowsI_len];omega)]
  simp only[Option.bind_eq_bind,Option.bind_some]
  rw[show rowsI s=(s.map fun n=>[ti n]).map (·.map V.t)from rfl,h1]
  rfl
 simp only[toT1,h2,Option.map_some]
theorem bound_den (p:Prog) (hs:p.sane) (hf:formedM p=true) {t j:Nat} {x:Thread} {l:Loop} {A:Expr} (hx:p.threads[t]? =some x) (hl:x.loops[j]? =some l) (hL:LoopF p x l A):
 Den Γ G 336 [(.agg [.t (.sl ((p).cells.map (Cell.enc))),.t (.sl ((p).modules.map (Contract.enc))),.t (.sl ((p).locks.map (Lock.enc))),.t (.sl ((p).threads.map (Thread.enc)))]),vi t,vi j]=some (.tup [vi (if bitsM p (cellsB A l.variant)>12 then 0 else bestM p (cellsB A l.variant) A l.variant),vi (if bitsM p (cellsB A l.variant)>12 then 2 else 0)]):=by
 have hv:=valid36_den p hs hf hx hl
 obtain⟨hd,hhd⟩: ∃n:Nat,l.head=n:=⟨l.head.toNat,by have:=hL.h0;omega⟩
 have hA:=hL.hA
 rw[hhd,Int.toNat_natCast]at hA
 (refine den_ofY Γ336 rfl ?_;dsimp only[f336])
 simp -dsimp -implicitDefEqProofs only[go_sem,seval,hv,hx,hl,hhd,hA]
 refine rawK_of (supportP_den A _ _) ?_
 rintro r1 h1 n1 ⟨a3,a2,rfl,oa3,oa2,hn1,hk1⟩
 have q1:=oa3.valOf
 have q2:=oa2.valOf
 simp -dsimp -implicitDefEqProofs only[go_sem,seval,q1,q2]
 refine rawK_of (supportP_den l.variant _ _) ?_
 rintro r2 h2 n2 ⟨b3,b2,rfl,ob3,ob2,hn2,hk2⟩
 have q3:=ob3.valOf
 have q4:=ob2.valOf
 have oa2':OwnB h2 n2 a2 1 (rowsI (A.sup 2)):=oa2.keep (by omega) fun k hk _=>(hk2 k (by omega)).1
 have c2:=oa2.cellsV
 have c4:=ob2.cellsV
 unfold V.cells at c2 c4
 simp -dsimp -implicitDefEqProofs only[go_sem,seval,q2,q3,q4,c2,c4]
 have hsA:=sup_len 2 A
 have hsV:=sup_len 2 l.variant
 refine rawK_of (concat_den (A.sup 2) (l.variant.sup 2) (by omega) (by omega) _ _ (n2+2) a2 b2 (by rw[updC_at,if_pos rfl]) (by omega) (oa2'.upd' (by omega)) (ob2.upd' (by omega))) ?_
 clear oa2 oa3 ob2 ob3 oa2' hk1 hk2 q1 q2 q3 q4 c2 c4
 rintro r h3 n3 ho
 have q1:=ho.valOf
 simp -dsimp -implicitDefEqProofs only[go_sem,seval,q1]
 refine rawK_of (sortR_den _ _ _ _ _ ho (by simp;omega)) ?_
 rintro r4 h4 n4 ⟨rfl,ho4,hn4⟩
 simp -dsimp -implicitDefEqProofs only[go_sem,seval,q1]
 refine rawK_of (compactR_den _ _ _ _ _ ho4 (by rw[sortL,List.length_mergeSort];simp;omega)) ?_
 rintro r5 h5 n5 ⟨rfl,hn5⟩
 rw[show Go.Lib.compact (sortL (A.sup 2++l.variant.sup 2))=cellsB A l.variant from rfl]
 generalize hC:cellsB A l.variant=L
 have hLi:=cellsB_in hL.vA hL.vV
 have hLl:=cellsB_len A l.variant
 rw[hC]at hLi hLl
 have hw8: ∀(c:Int) (y:Cell),p.cells[c.toNat]? =some y->1<=y.w/\y.w<=8/\wOf p c=y.w.toNat:=fun c y hy=>⟨(width_of hf (List.mem_of_getElem? hy)).1,(width_of hf (List.mem_of_getElem? hy)).2,by rw[wOf,hy]⟩
 have hbits: ∀i,bitsM p (L.take i)<=8*i:=by
  intro i
  induction i with
  | zero=>simp[bitsM]
  | succ i ih=>
    by_cases hi:i<L.length
    ·obtain⟨c,hc,hcm⟩:=get_of hi
     obtain⟨c0,c1⟩:=hLi c hcm
     obtain⟨y,hy,_⟩:=get_of (show c.toNat<p.cells.length by omega)
     obtain⟨_,w2,w3⟩:=hw8 c y hy
     rw[take_succ_of hc,bitsM_snoc,w3];omega
    ·rw[List.take_of_length_le (by omega)]at ih⊢;omega
 simp -dsimp -implicitDefEqProofs only[go_sem,seval]
 refine loopYH 151097280707754937450496 L.length (fun i f h z=>(f 64).v=vi i/\(f 15).v=vi (bitsM p (L.take i))) rfl ⟨by simp -dsimp -implicitDefEqProofs only[go_sem,seval],by simp -dsimp -implicitDefEqProofs only[go_sem,seval];rfl⟩ ?_
 rintro i f u H q bs hi ⟨h64,h15⟩
 have hw:=wrapS i (by omega)
 simp -dsimp -implicitDefEqProofs only[go_sem,seval,h64]
 refine csplit (fun h=> ?_) (fun h=> ?_)<;>(try rw[h])<;>(try simp only[bools]at h)<;>(try simp -dsimp -implicitDefEqProofs only[go_sem,seval,h64])
 ·obtain⟨c,hc,hcm⟩:=get_of ‹i<L.length›
  obtain⟨c0,c1⟩:=hLi c hcm
  obtain⟨y,hy,_⟩:=get_of (show c.toNat<p.cells.length by omega)
  obtain⟨w1,w2,w3⟩:=hw8 c y hy
  have hb:=hbits i
  have hwb:IntKind.i64.wrap ((bitsM p (L.take i):Int)+y.w)=bitsM p (L.take (i+1)):=by
   rw[take_succ_of hc,bitsM_snoc,w3,Int.natCast_add,show((y.w.toNat:Nat):Int)=y.w by omega]
   exact wrap64 (by omega)
  simp -dsimp -implicitDefEqProofs only[go_sem,seval,h64,h15,hc,c0,hy]
  exact⟨by omega,by simp -dsimp -implicitDefEqProofs only[go_sem,seval,hw],by simp -dsimp -implicitDefEqProofs only[go_sem,seval,hwb]⟩
 ·have:i=L.length:=by omega
  subst this
  rw[List.take_length]at h15
  simp -dsimp -implicitDefEqProofs only[go_sem,seval,h15]
  by_cases hb:bitsM p L>12
  ·have hb':(bitsM p L:Int)>12:=by omega
   rw[if_pos hb,if_pos hb]
   simp -dsimp -implicitDefEqProofs only[go_sem,seval,hb']
  ·have hb': ¬(bitsM p L:Int)>12:=by omega
   rw[if_neg hb,if_neg hb]
   have hcl:=(formed_small hf).1
   have e1:(p.cells.length:Int)<=4294967296:=by omega
   have hsh:IntKind.i64.wrap (1*2^min (bitsM p L) 64)=((2^bitsM p L:Nat):Int):=by
    have:(2:Nat)^bitsM p L<=4096:=Nat.pow_le_pow_right (n:=2) (j:=12) (by omega) (by omega)
    rw[show min (bitsM p L) 64=bitsM p L from Nat.min_eq_left (by omega),Int.one_mul,show(2:Int)^bitsM p L=((2^bitsM p L:Nat):Int)by simp]
    generalize(2:Nat)^bitsM p L=z at *
    exact wrap64 (by omega)
   have hb0: ¬(bitsM p L:Int)<0:=by omega
   simp -dsimp -implicitDefEqProofs only[go_sem,seval,hb',e1,Int.le_refl,h15,hsh,hb0]
   clear hsh
   have hz12:(2:Nat)^bitsM p L<=4096:=Nat.pow_le_pow_right (n:=2) (j:=12) (by omega) (by omega)
   unfold bestM
   generalize hZ:(2:Nat)^bitsM p L=Z at *
   refine loopYH 21778071482940022976029747207499580440576 Z (fun n f h z=>(f 85).v=vi n/\(f 18).v=vi (foldB p L A l.variant n).2/\h (q+1+2+1+3)=some (.rows 1 (rowsI (foldB p L A l.variant n).1) false)/\q+1+2+1+3<z) rfl ⟨by simp -dsimp -implicitDefEqProofs only[go_sem,seval],by simp -dsimp -implicitDefEqProofs only[go_sem,seval];rfl,by simp -dsimp -implicitDefEqProofs only[go_sem,seval];simp[foldB,rowsI],by simp -dsimp -implicitDefEqProofs only[go_sem,seval];omega⟩ ?_
   rintro n f2 u2 H2 z2 bs2 hn ⟨h85,h18,hkey,hkz⟩
   have hw2:=wrapS n (by omega)
   simp -dsimp -implicitDefEqProofs only[go_sem,seval,h85]
   refine csplit (fun h=> ?_) (fun h=> ?_)<;>(try rw[h])<;>(try simp only[bools]at h)<;>(try simp -dsimp -implicitDefEqProofs only[go_sem,seval,h85])
   ·refine loopYH 83076748498617202771107666373640192 L.length (fun i f h z=>(f 90).v=vi i/\(f 20).v=vi ((n:Int)/ 2^bitsM p (L.take i))/\h (q+1+2+1+3)=some (.rows 1 (rowsI (stM p (L.take i) n (foldB p L A l.variant n).1)) false)/\q+1+2+1+3<z) rfl ⟨by simp -dsimp -implicitDefEqProofs only[go_sem,seval],by simp -dsimp -implicitDefEqProofs only[go_sem,seval];simp[bitsM],by simp -dsimp -implicitDefEqProofs only[go_sem,seval];exact hkey,by simp -dsimp -implicitDefEqProofs only[go_sem,seval];omega⟩ ?_
    rintro i f3 u3 H3 z3 bs3 hi3 ⟨h90,h20,hkey3,hkz3⟩
    have hw3:=wrapS i (by omega)
    simp -dsimp -implicitDefEqProofs only[go_sem,seval,h90]
    refine csplit (fun h=> ?_) (fun h=> ?_)<;>(try rw[h])<;>(try simp only[bools]at h)<;>(try simp -dsimp -implicitDefEqProofs only[go_sem,seval,h90])
    ·obtain⟨c,hc,hcm⟩:=get_of ‹i<L.length›
     obtain⟨c0,c1⟩:=hLi c hcm
     obtain⟨y,hy,_⟩:=get_of (show c.toNat<p.cells.length by omega)
     obtain⟨w1,w2,w3⟩:=hw8 c y hy
     have k1: ¬y.w<0:=by omega
     have k2:IntKind.i64.wrap (1*2^min y.w.toNat 64)=2^y.w.toNat:=pow_shl (by omega)
     have k3:IntKind.i64.wrap (2^y.w.toNat-1)=2^y.w.toNat-1:=pow_sub (by omega)
     have k4: ∀a:Int,IntKind.i64.wrap ((BitVec.ofInt IntKind.i64.bits a&&& BitVec.ofInt IntKind.i64.bits (2^y.w.toNat-1)).toNat)=a % 2^y.w.toNat:=fun a=>and_mask a y.w (by omega)
     have k5: ∀a:Int,a.fdiv (2^min y.w.toNat 64)=a/ 2^y.w.toNat:=fun a=>shr_div (by omega)
     have hsl:c.toNat<(stM p (L.take i) n (foldB p L A l.variant n).1).length:=by rw[stM_len,foldB_len];omega
     have hgt:=rowsI_at hsl
     simp -dsimp -implicitDefEqProofs only[go_sem,seval,h90,h20,hc,c0,c1,hy,hkey3,k1,k2,k3,k4,k5,hgt,rowsI_st]
     refine⟨by omega,by simp -dsimp -implicitDefEqProofs only[go_sem,seval,hw3],?_,?_,by simp -dsimp -implicitDefEqProofs only[go_sem,seval];omega⟩
     ·simp -dsimp -implicitDefEqProofs only[go_sem,seval,take_succ_of hc,bitsM_snoc,w3,Int.pow_add]
      rw[Int.ediv_ediv_of_nonneg (Int.le_of_lt (pow2_pos _))]
     ·simp -dsimp -implicitDefEqProofs only[go_sem,seval,take_succ_of hc,stM_snoc,w3]
    ·have:i=L.length:=by omega
     subst this
     rw[List.take_length]at hkey3
     have hlen:=foldB_len p L A l.variant n
     have hsl:(stM p L n (foldB p L A l.variant n).1).length=p.cells.length:=by rw[stM_len,hlen]
     have hT:=toT1_rowsI (h:=H3) (len:=p.cells.length) hkey3 hsl.symm
     have hE1:=evalP_den A (stM p L n (foldB p L A l.variant n).1) (stM p L n (foldB p L A l.variant n).1)
     have hE2:=evalP_den l.variant (stM p L n (foldB p L A l.variant n).1) (stM p L n (foldB p L A l.variant n).1)
     simp -dsimp -implicitDefEqProofs only[go_sem,seval,hA,↓hT,hE1]
     have hs1:(foldB p L A l.variant (n+1)).1=stM p L n (foldB p L A l.variant n).1:=by rw[foldB_succ];rfl
     by_cases hA1:A.eval (stM p L n (foldB p L A l.variant n).1) (stM p L n (foldB p L A l.variant n).1)=1
     ·have hs2:(foldB p L A l.variant (n+1)).2=if l.variant.eval (stM p L n (foldB p L A l.variant n).1) (stM p L n (foldB p L A l.variant n).1)>(foldB p L A l.variant n).2 then l.variant.eval (stM p L n (foldB p L A l.variant n).1) (stM p L n (foldB p L A l.variant n).1)else(foldB p L A l.variant n).2:=by
       rw[foldB_succ,stepB];simp only[if_pos hA1]
      simp -dsimp -implicitDefEqProofs only[go_sem,seval,hA1,h18,↓hT,hE2,h85]
      refine⟨by omega,by simp -dsimp -implicitDefEqProofs only[go_sem,seval,hw2],?_,by simp -dsimp -implicitDefEqProofs only[go_sem,seval,hs1];exact hkey3,by simp -dsimp -implicitDefEqProofs only[go_sem,seval];omega⟩
      simp -dsimp -implicitDefEqProofs only[go_sem,seval,hs2]
     ·have hs2:(foldB p L A l.variant (n+1)).2=(foldB p L A l.variant n).2:=by
       rw[foldB_succ,stepB];simp only[if_neg hA1]
      simp -dsimp -implicitDefEqProofs only[go_sem,seval,hA1,h85]
      refine⟨by omega,by simp -dsimp -implicitDefEqProofs only[go_sem,seval,hw2],by simp -dsimp -implicitDefEqProofs only[go_sem,seval,hs2,h18],by simp -dsimp -implicitDefEqProofs only[go_sem,seval,hs1];exact hkey3,by simp -dsimp -implicitDefEqProofs only[go_sem,seval];omega⟩
   ·have:n=Z:=by omega
    subst this
    simp -dsimp -implicitDefEqProofs only[go_sem,seval,h18]
def sumI (l:List Int):Int:=l.foldl (· + ·) 0
theorem sumI_snoc (l:List Int) (x:Int):sumI (l++[x])=sumI l+x:=by simp[sumI]
def wsM (p:Prog) (l:List Int):List Int:=l.map fun c=>(wOf p c:Int)
theorem foldl_add: ∀(l:List Int) (a:Int),l.foldl (· + ·) a=a+l.foldl (· + ·) 0
 | [],a=>by simp
 | x::l,a=>by
   rw[List.foldl_cons,List.foldl_cons,foldl_add l (a+x),foldl_add l (0+x)];omega
theorem sum_ws (p:Prog): ∀l:List Int,sumI (wsM p l)=bitsM p l
 | []=>by simp[wsM,sumI,bitsM]
 | c::l=>by
   have ih:=sum_ws p l
   have e:sumI (wsM p (c::l))=wOf p c+sumI (wsM p l):=by
    rw[wsM,List.map_cons,sumI,List.foldl_cons,foldl_add]
    rw[sumI,wsM];omega
   rw[e,ih]
   simp[bitsM]
theorem sum_den (l:List Int) (h: ∀n∈l,0<=n/\n<=8) (hl:l.length<=2^20):Den Γ G 352 [.t (ints l)]=some (vi (sumI l)):=by
 have hb: ∀i,0<=sumI (l.take i)/\sumI (l.take i)<=8*i:=by
  intro i
  induction i with
  | zero=>simp[sumI]
  | succ i ih=>
    by_cases hi:i<l.length
    ·obtain⟨n,hn,hm⟩:=get_of hi
     have:=h n hm
     rw[take_succ_of hn,sumI_snoc];omega
    ·rw[List.take_of_length_le (by omega)]at ih⊢;omega
 (refine den_ofY Γ352 rfl ?_;dsimp only[f352])
 simp -dsimp -implicitDefEqProofs only[go_sem,seval]
 refine loopY 131064 l.length (fun i f=>(f 4).v=vi i/\(f 3).v=vi (sumI (l.take i))) rfl rfl ⟨by simp -dsimp -implicitDefEqProofs only[go_sem,seval],by simp -dsimp -implicitDefEqProofs only[go_sem,seval];rfl⟩ ?_
 rintro i f u x bs hi ⟨h4,h3⟩
 have hw:=wrapS i (by omega)
 simp -dsimp -implicitDefEqProofs only[go_sem,seval,h4]
 refine csplit (fun h=> ?_) (fun h=> ?_)<;>(try rw[h])<;>(try simp only[bools]at h)<;>(try simp -dsimp -implicitDefEqProofs only[go_sem,seval,h4])
 ·obtain⟨n,hn,hm⟩:=get_of ‹i<l.length›
  have h1:=hb i
  have h2:=hb (i+1)
  rw[take_succ_of hn,sumI_snoc]at h2
  have hwn:IntKind.i64.wrap (sumI (l.take i)+n)=sumI (l.take i)+n:=wrap64 (by omega)
  simp -dsimp -implicitDefEqProofs only[go_sem,seval,h4,h3,hn,hwn]
  refine⟨by omega,by simp -dsimp -implicitDefEqProofs only[go_sem,seval,hw],by simp -dsimp -implicitDefEqProofs only[go_sem,seval,take_succ_of hn,sumI_snoc]⟩
 ·have:i=l.length:=by omega
  subst this
  rw[List.take_length]at h3
  simp -dsimp -implicitDefEqProofs only[go_sem,seval,h3]
def RiseB (l:List Int) (b:Int):Prop:=l.Pairwise (· < ·)/\ ∀n∈l,0<=n/\n<b
theorem RiseB.at {l:List Int} {b:Int} (h:RiseB l b) {i:Nat} {n:Int} (hn:l[i]? =some n):0<=n/\n<b/\(0<i-> ∃m,l[i-1]? =some m/\m<n):=by
 have h1:=h.2 n (List.mem_of_getElem? hn)
 refine⟨h1.1,h1.2,fun hi=> ?_⟩
 have hlt:=(List.getElem?_eq_some_iff.1 hn).1
 have hm:=List.getElem?_eq_getElem (show i-1<l.length by omega)
 refine⟨_,hm,?_⟩
 have:=List.pairwise_iff_getElem.1 h.1 (i-1) i (by omega) hlt (by omega)
 rw[(List.getElem?_eq_some_iff.1 hn).2]at this
 exact this
theorem rising10_den (l:List Int) (b:Int) (hR:RiseB l b) (hl:l.length<2^20):Den Γ G 369 [.t (ints l),vi b]=some (vb true):=by
 (refine den_ofY Γ369 rfl ?_;dsimp only[f369])
 simp -dsimp -implicitDefEqProofs only[go_sem,seval]
 refine loopY 2199023255536 l.length (fun i f=>(f 5).v=vi i) rfl rfl (by simp -dsimp -implicitDefEqProofs only[go_sem,seval]) ?_
 rintro i f u x bs hi h5
 have hw:=wrapS i (by omega)
 simp -dsimp -implicitDefEqProofs only[go_sem,seval,h5]
 refine csplit (fun h=> ?_) (fun h=> ?_)<;>(try rw[h])<;>(try simp only[bools]at h)<;>(try simp -dsimp -implicitDefEqProofs only[go_sem,seval,h5])
 ·obtain⟨n,hn,hm⟩:=get_of ‹i<l.length›
  obtain⟨h1,h2,h3⟩:=hR.at hn
  have e1: ¬n<0:=by omega
  have e2: ¬n>=b:=by omega
  by_cases hi0:i=0
  ·subst hi0
   simp -dsimp -implicitDefEqProofs only[go_sem,seval,h5,hn,e1,e2]
   exact⟨by omega,by simp -dsimp -implicitDefEqProofs only[go_sem,seval,hw]⟩
  ·obtain⟨m,hm1,hm2⟩:=h3 (by omega)
   have e3:(i:Int)>0:=by omega
   have e4: ¬n<=m:=by omega
   have e5:IntKind.i64.wrap ((i:Int)-1)=((i-1:Nat):Int):=by rw[show((i:Int)-1)=((i-1:Nat):Int)by omega];exact wrap64 (by omega)
   simp -dsimp -implicitDefEqProofs only[go_sem,seval,h5,hn,e1,e2,e3,e4,e5,hm1]
   exact⟨by omega,by simp -dsimp -implicitDefEqProofs only[go_sem,seval,hw]⟩
theorem bits10_den (p:Prog) (l:List Int) (most:Int) (hR:RiseB l 32) (hw8: ∀c∈l,1<=wOf p c/\wOf p c<=8) (hl:l.length<=32) (hm:(bitsM p l:Int)<=most):
 Den Γ G 370 [.t (ints l),.t (ints (wsM p l)),vi most]=some (vi (bitsM p l)):=by
 have hlw:(wsM p l).length=l.length:=by simp[wsM]
 have e0: ¬(l.length:Int)>32:=by omega
 have hb: ∀i,bitsM p (l.take i)<=8*i:=by
  intro i
  induction i with
  | zero=>simp[bitsM]
  | succ i ih=>
    by_cases hi:i<l.length
    ·obtain⟨c,hc,hcm⟩:=get_of hi
     have:=hw8 c hcm
     rw[take_succ_of hc,bitsM_snoc];omega
    ·rw[List.take_of_length_le (by omega)]at ih⊢;omega
 (refine den_ofY Γ370 rfl ?_;dsimp only[f370])
 simp -dsimp -implicitDefEqProofs only[go_sem,seval,hlw,e0]
 refine loopY 9444732965739289903552 l.length (fun i f=>(f 8).v=vi i/\(f 7).v=vi (bitsM p (l.take i))) rfl rfl ⟨by simp -dsimp -implicitDefEqProofs only[go_sem,seval],by simp -dsimp -implicitDefEqProofs only[go_sem,seval];rfl⟩ ?_
 rintro i f u x bs hi ⟨h8,h7⟩
 have hw:=wrapS i (by omega)
 simp -dsimp -implicitDefEqProofs only[go_sem,seval,h8]
 refine csplit (fun h=> ?_) (fun h=> ?_)<;>(try rw[h])<;>(try simp only[bools]at h)<;>(try simp -dsimp -implicitDefEqProofs only[go_sem,seval,h8])
 ·obtain⟨n,hn,hnm⟩:=get_of ‹i<l.length›
  obtain⟨h1,h2,h3⟩:=hR.at hn
  obtain⟨w1,w2⟩:=hw8 n hnm
  have hwn:(wsM p l)[i]? =some (wOf p n:Int):=by simp[wsM,hn]
  have hbi:=hb i
  have hs:IntKind.i64.wrap ((bitsM p (l.take i):Int)+wOf p n)=bitsM p (l.take (i+1)):=by
   rw[take_succ_of hn,bitsM_snoc,Int.natCast_add]
   exact wrap64 (by omega)
  have e1: ¬n<0:=by omega
  have e2: ¬n>=32:=by omega
  have e6: ¬((wOf p n:Int)<1):=by omega
  have e7: ¬((wOf p n:Int)>8):=by omega
  by_cases hi0:i=0
  ·subst hi0
   simp -dsimp -implicitDefEqProofs only[go_sem,seval,h8,h7,hn,e1,e2,e6,e7,hwn,hs]
   exact⟨by omega,by simp -dsimp -implicitDefEqProofs only[go_sem,seval,hw],by simp -dsimp -implicitDefEqProofs only[go_sem,seval];exact hs⟩
  ·obtain⟨m,hm1,hm2⟩:=h3 (by omega)
   have e3:(i:Int)>0:=by omega
   have e4: ¬n<=m:=by omega
   have e5:IntKind.i64.wrap ((i:Int)-1)=((i-1:Nat):Int):=by rw[show((i:Int)-1)=((i-1:Nat):Int)by omega];exact wrap64 (by omega)
   simp -dsimp -implicitDefEqProofs only[go_sem,seval,h8,h7,hn,e1,e2,e3,e4,e5,e6,e7,hm1,hwn,hs]
   exact⟨by omega,by simp -dsimp -implicitDefEqProofs only[go_sem,seval,hw],by simp -dsimp -implicitDefEqProofs only[go_sem,seval]⟩
 ·have:i=l.length:=by omega
  subst this
  rw[List.take_length]at h7
  have e8: ¬((bitsM p l:Int)>most):=by omega
  simp -dsimp -implicitDefEqProofs only[go_sem,seval,h7,e8]
theorem bitsM_le {p:Prog} (hf:formedM p=true): ∀l:List Int,bitsM p l<=8*l.length
 | []=>by simp[bitsM]
 | c::l=>by
   have ih:=bitsM_le hf l
   have hw:wOf p c<=8:=by
    unfold wOf
    split
    ·rename_i y hy
     have:=width_of hf (List.mem_of_getElem? hy)
     omega
    ·omega
   have e:bitsM p (c::l)=wOf p c+bitsM p l:=by simp[bitsM]
   rw[e,List.length_cons];omega
theorem own_toT1 {h:Nat->Option O} {x:Nat} {v:V} {l:List Int} (o:OwnB h x v 1 (rowsI l)):toT1 h v=some (.t (ints l)):=by
 have:=own_reify (es:=l.map fun n=>[ti n]) o (ints_norm _)
 rcases o with⟨rfl,he⟩ | ⟨k,rfl,_,_⟩
 ·have:l=[]:=by simpa[rowsI]using he
  subst this;rfl
 ·simp only[toT1,this,Option.map_some]
theorem widths10_den (p:Prog) (hf:formedM p=true) (l:List Int) (hR:RiseB l p.cells.length):Den Γ G 351 [.t (.sl (p.cells.map Cell.enc)),.t (ints l)]=some (.tup [.t (ints (wsM p l)),vb true]):=by
 obtain⟨s1,s2,_⟩:=formed_small hf
 have hll:l.length<=32:=by
  have:=nodup_len 32 l (hR.1.imp fun h=>by omega) fun k hk=>by have:=hR.2 k hk;omega
  omega
 have hw8: ∀c∈l,1<=wOf p c/\wOf p c<=8:=fun c hc=>by
  have:=hR.2 c hc
  obtain⟨y,hy,hym⟩:=get_of (show c.toNat<p.cells.length by omega)
  have:=width_of hf hym
  rw[wOf,hy]
  simp only
  omega
 have hm: ¬(32<(p.cells.length:Int)):=by omega
 have hr1:=rising10_den l p.cells.length hR (by omega)
 have hbb:=bitsM_le hf l
 have hr2:=bits10_den p l 256 ⟨hR.1,fun n hn=>by have:=hR.2 n hn;omega⟩ hw8 hll (by omega)
 (refine den_ofY Γ351 rfl ?_;dsimp only[f351])
 simp -dsimp -implicitDefEqProofs only[go_sem,seval,hm,hr1]
 refine loopYH 4294934720 l.length (fun i f h x=>(f 7).v=vi i/\OwnB h x (f 6).v 1 (rowsI ((wsM p l).take i))) rfl ⟨by simp -dsimp -implicitDefEqProofs only[go_sem,seval],.inr ⟨_,by simp -dsimp -implicitDefEqProofs only[go_sem,seval];rfl,by simp -dsimp -implicitDefEqProofs only[go_sem,seval],by simp -dsimp -implicitDefEqProofs only[go_sem,seval];rfl⟩⟩ ?_
 rintro i f u H x bs hi ⟨h7,hown⟩
 have hw:=wrapS i (by omega)
 simp -dsimp -implicitDefEqProofs only[go_sem,seval,h7]
 refine csplit (fun h=> ?_) (fun h=> ?_)<;>(try rw[h])<;>(try simp only[bools]at h)<;>(try simp -dsimp -implicitDefEqProofs only[go_sem,seval,h7])
 ·obtain⟨c,hc,hcm⟩:=get_of ‹i<l.length›
  have hc0:=hR.2 c hcm
  obtain⟨y,hy,hym⟩:=get_of (show c.toNat<p.cells.length by omega)
  have hwy:=width_of hf hym
  have hwc:(wsM p l)[i]? =some y.w:=by
   simp only[wsM,List.getElem?_map,hc,Option.map_some,wOf,hy]
   rw[show((y.w.toNat:Nat):Int)=y.w by omega]
  have v1:=hown.valOf
  have v2:=hown.r2
  have v3:=hown.r3
  simp -dsimp -implicitDefEqProofs only[go_sem,seval,h7,hc,hc0.1,hy,v1,v2,v3]
  refine putA_app1 (hown.upd (by omega) _) (by omega) (by rw[rowsI_len];simp;omega) (by decide) rfl (rowsI_all _) ?_
  intro v hp hO hoffs hkeep
  have w1:=hO.valOf
  rw[show rowsI ((wsM p l).take i)++[[V.t (ti y.w)]]=rowsI ((wsM p l).take (i+1))from by rw[take_succ_of hwc,rowsI_app]]at hO
  simp -dsimp -implicitDefEqProofs only[go_sem,seval,w1,h7]
  exact⟨by omega,by simp -dsimp -implicitDefEqProofs only[go_sem,seval,hw],by simp -dsimp -implicitDefEqProofs only[go_sem,seval];exact hO.le (by omega)⟩
 ·have:i=l.length:=by omega
  subst this
  rw[show(wsM p l).take l.length=wsM p l from List.take_of_length_le (by simp[wsM])]at hown
  have v1:=hown.valOf
  have hT:=own_toT1 hown
  have v5:=hown.resVal
  simp only[Rg.resVal]at v5
  have hge:(bitsM p l:Int)>=0:=by omega
  simp -dsimp -implicitDefEqProofs only[go_sem,seval,v1,↓hT,hr2,hge,v5]
theorem state10_den (p:Prog) (hf:formedM p=true) (l:List Int) (hR:RiseB l p.cells.length) (h12:bitsM p l<=12) (n:Nat) (hn:n<2^bitsM p l) (base:List Int) (hb:base.length=32) (z:V)
 (H:Nat->Option O) (nx:Nat) (vb:V) (hvb:valOf vb=some vb) (hrb: ∀j,nx<=j-> ∀o,rowsS (updC H j o) vb=some (rowsI base)):
 ∃r h' n',DenR Γ G 353 [.agg [.t (ints l),.t (ints (wsM p l)),z],vi n,vb] H nx=some (r,h',n')/\OwnB h' n' r 1 (rowsI (stM p l n base)):=by
 obtain⟨s1,s2,_⟩:=formed_small hf
 have hll:l.length<=32:=by
  have:=nodup_len 32 l (hR.1.imp fun h=>by omega) fun k hk=>by have:=hR.2 k hk;omega
  omega
 have hw8: ∀c∈l,1<=wOf p c/\wOf p c<=8:=fun c hc=>by
  have:=hR.2 c hc
  obtain⟨y,hy,hym⟩:=get_of (show c.toNat<p.cells.length by omega)
  have:=width_of hf hym
  rw[wOf,hy]
  simp only
  omega
 have hr2:=bits10_den p l 12 ⟨hR.1,fun n hn=>by have:=hR.2 n hn;omega⟩ hw8 hll (by omega)
 have hr3:=sum_den (wsM p l) (fun n hn=>by
  obtain⟨c,hc,rfl⟩:=List.mem_map.1 hn
  have:=hw8 c hc;omega) (by simp[wsM];omega)
 rw[sum_ws]at hr3
 have hr4:=power_den (bitsM p l) (by omega)
 rw[Int.toNat_natCast]at hr4
 have e1: ¬((bitsM p l:Int)<0):=by omega
 have hz12:(2:Nat)^bitsM p l<=4096:=Nat.pow_le_pow_right (n:=2) (j:=12) (by omega) (by omega)
 have hcast:(2:Int)^bitsM p l=((2^bitsM p l:Nat):Int):=by simp
 have e2:IntKind.i64.wrap ((2:Int)^bitsM p l-1)=2^bitsM p l-1:=by
  rw[hcast]
  have:0<(2:Nat)^bitsM p l:=Nat.pow_pos (by omega)
  generalize(2:Nat)^bitsM p l=q at *
  exact wrap64 (by omega)
 have e3:IntKind.i64.wrap ((BitVec.ofInt IntKind.i64.bits n&&& BitVec.ofInt IntKind.i64.bits (2^bitsM p l-1)).toNat)=(n:Int):=by
  have:=and_mask n (bitsM p l) (by omega)
  rw[Int.toNat_natCast]at this
  rw[this,Int.emod_eq_of_lt (by omega) (by rw[hcast];omega)]
 have hrb1:=hrb (nx+2+0) (by omega) (some (.rows 1 [] false))
 (refine denR_ofY Γ353 rfl ?_;dsimp only[f353])
 simp -dsimp -implicitDefEqProofs only[go_sem,seval,hvb,hrb1]
 refine putA_app (a:=[]) (x:=nx+3) (.inr ⟨nx+2+0,rfl,by omega,by simp[hpC_cons,hpC_nil,updC_at]⟩) (by omega) (by rw[rowsI_len,hb];decide) (by decide) (rowsI_all _) rfl ?_
 rw[show([]:List (List V))++rowsI base=rowsI base from rfl]
 intro v hp hO _ _
 rcases hO with⟨_,he⟩ | ⟨k,rfl,hk,hh⟩
 ·have:=congrArg List.length he
  rw[rowsI_len,hb]at this
  cases this
 rw[rowsI_len,hb]
 simp -dsimp -implicitDefEqProofs only[go_sem,seval,hr2,e1,hr3,hr4,e2,e3]
 refine loopYH 2305843009079476994 l.length (fun i f h x=>(f 8).v=vi i/\(f 1).v=vi ((n:Int)/ 2^bitsM p (l.take i))/\h k=some (.rows 1 (rowsI (stM p (l.take i) n base)) false)/\k<x) rfl ⟨by simp -dsimp -implicitDefEqProofs only[go_sem,seval],by simp -dsimp -implicitDefEqProofs only[go_sem,seval];simp[bitsM],by simp -dsimp -implicitDefEqProofs only[go_sem,seval];exact hh,by simp -dsimp -implicitDefEqProofs only[go_sem,seval];omega⟩ ?_
 rintro i f u H x bs hi ⟨h8,h1,hkey,hkx⟩
 have hw:=wrapS i (by omega)
 simp -dsimp -implicitDefEqProofs only[go_sem,seval,h8]
 refine csplit (fun h=> ?_) (fun h=> ?_)<;>(try rw[h])<;>(try simp only[bools]at h)<;>(try simp -dsimp -implicitDefEqProofs only[go_sem,seval,h8])
 ·obtain⟨c,hc,hcm⟩:=get_of ‹i<l.length›
  obtain⟨c0,c1⟩:=hR.2 c hcm
  obtain⟨w1,w2⟩:=hw8 c hcm
  have hwc:(wsM p l)[i]? =some (wOf p c:Int):=by simp[wsM,hc]
  have hpw:=power_den (wOf p c) (by omega)
  rw[Int.toNat_natCast]at hpw
  have hc32:c<32:=by omega
  have hp0:=pow2_pos (wOf p c)
  have hq0:0<=(n:Int)/ 2^bitsM p (l.take i):=Int.ediv_nonneg (by omega) (Int.le_of_lt (pow2_pos _))
  have hq1:(n:Int)/ 2^bitsM p (l.take i)<=n:=Int.ediv_le_self _ (by omega)
  have e4:((2:Int)^wOf p c=0)=False:=eq_false (by omega)
  have e5:((n:Int)/ 2^bitsM p (l.take i)).tmod (2^wOf p c)=(n:Int)/ 2^bitsM p (l.take i) % 2^wOf p c:=Int.tmod_eq_emod_of_nonneg hq0
  have e6:IntKind.i64.wrap (((n:Int)/ 2^bitsM p (l.take i)).tdiv (2^wOf p c))=(n:Int)/ 2^bitsM p (l.take i)/ 2^wOf p c:=by
   rw[Int.tdiv_eq_ediv_of_nonneg hq0]
   have h1:0<=(n:Int)/ 2^bitsM p (l.take i)/ 2^wOf p c:=Int.ediv_nonneg hq0 (by omega)
   have h2:(n:Int)/ 2^bitsM p (l.take i)/ 2^wOf p c<=(n:Int)/ 2^bitsM p (l.take i):=Int.ediv_le_self _ hq0
   exact wrap64 (by omega)
  have hsl:c.toNat<(stM p (l.take i) n base).length:=by rw[stM_len];omega
  have hgt:=rowsI_at hsl
  simp -dsimp -implicitDefEqProofs only[go_sem,seval,h8,h1,hc,hwc,hpw,c0,hc32,hkey,e4,e5,e6,hgt,rowsI_st]
  refine⟨by omega,by simp -dsimp -implicitDefEqProofs only[go_sem,seval,hw],?_,?_,by simp -dsimp -implicitDefEqProofs only[go_sem,seval];omega⟩
  ·simp -dsimp -implicitDefEqProofs only[go_sem,seval,take_succ_of hc,bitsM_snoc,Int.pow_add]
   rw[Int.ediv_ediv_of_nonneg (Int.le_of_lt (pow2_pos _))]
  ·simp -dsimp -implicitDefEqProofs only[go_sem,seval,take_succ_of hc,stM_snoc]
 ·have:i=l.length:=by omega
  subst this
  rw[List.take_length]at hkey
  exact .inr ⟨k,by rw[rowsI_len,stM_len,hb];rfl,by simp -dsimp only[go_sem];omega,hkey⟩
theorem inc_ext: ∀{l m:List Int},l.Pairwise (· < ·)->m.Pairwise (· < ·)->(∀x,x∈l<->x∈m)->l=m
 | [],[],_,_,_=>rfl
 | [],y::m,_,_,h=>by have:=(h y).2 (by simp);simp at this
 | x::l,[],_,_,h=>by have:=(h x).1 (by simp);simp at this
 | x::l,y::m,h1,h2,h=>by
   obtain⟨a1,a2⟩:=List.pairwise_cons.1 h1
   obtain⟨b1,b2⟩:=List.pairwise_cons.1 h2
   have hxy:x=y:=by
    rcases List.mem_cons.1 ((h x).1 (by simp))with e | e
    ·exact e
    ·rcases List.mem_cons.1 ((h y).2 (by simp))with e' | e'
     ·exact e'.symm
     ·have:=b1 x e
      have:=a1 y e'
      omega
   subst hxy
   rw[inc_ext a2 b2 fun z=>⟨fun hz=> ?_,fun hz=> ?_⟩]
   ·rcases List.mem_cons.1 ((h z).1 (by simp[hz]))with e | e
    ·have:=a1 z hz;omega
    ·exact e
   ·rcases List.mem_cons.1 ((h z).2 (by simp[hz]))with e | e
    ·have:=b1 z hz;omega
    ·exact e
def mkB (s:List Bool) (l:List Int):List Bool:=l.foldl (fun s c=>s.set c.toNat true) s
theorem mkB_snoc (s:List Bool) (l:List Int) (c:Int):mkB s (l++[c])=(mkB s l).set c.toNat true:=by simp[mkB]
theorem mkB_len (s:List Bool): ∀l:List Int,(mkB s l).length=s.length:=by
 intro l
 induction l generalizing s with
 | nil=>rfl
 | cons c l ih=>rw[mkB,List.foldl_cons];have:=ih (s.set c.toNat true);rw[mkB]at this;rw[this];simp
theorem mkB_get {s:List Bool} {j:Nat} (hj:j<s.length): ∀{l:List Int},(mkB s l).getD j false=true<->s.getD j false=true\/ ∃c∈l,c.toNat=j:=by
 intro l
 induction l generalizing s with
 | nil=>simp[mkB]
 | cons c l ih=>
   have e:mkB s (c::l)=mkB (s.set c.toNat true) l:=rfl
   rw[e,ih (s:=s.set c.toNat true) (by simpa using hj)]
   by_cases h:c.toNat=j
   ·simp[List.getD_eq_getElem?_getD,List.getElem?_set,h,hj]
   ·simp[List.getD_eq_getElem?_getD,List.getElem?_set,h]
def no32:List Bool:=List.replicate 32 false
theorem no32_len:no32.length=32:=by simp[no32]
def markL (A V:Expr):List Bool:=mkB (mkB no32 (A.sup 2)) (V.sup 2)
theorem marked_sorted (l:List Bool) (i:Nat):(marked l i).Pairwise (· < ·):=by
 unfold marked
 rw[List.pairwise_map]
 exact(List.pairwise_lt_range.filter _).imp fun h=>by omega
theorem marked_cells {p:Prog} (hf:formedM p=true) {A V:Expr} (hA:A.valid p.cells false=true) (hV:V.valid p.cells false=true):marked (markL A V) 32=cellsB A V:=by
 refine inc_ext (marked_sorted _ _) (sortedM_sorted _) fun c=> ?_
 have hcl:=(formed_small hf).1
 have key: ∀n:Nat,n<32->((markL A V).getD n false=true<-> ∃c∈A.sup 2++V.sup 2,c.toNat=n):=fun n hn=>by
  rw[markL,mkB_get (by rw[mkB_len,no32_len];exact hn),mkB_get (by rw[no32_len];exact hn)]
  have:no32.getD n false=false:=by rw[no32,List.getD_eq_getElem?_getD,List.getElem?_replicate,if_pos hn];rfl
  rw[this]
  constructor
  ·rintro((h | ⟨c,h1,h2⟩) | ⟨c,h1,h2⟩)
   ·cases h
   ·exact⟨c,by simp[h1],h2⟩
   ·exact⟨c,by simp[h1],h2⟩
  ·rintro⟨c,h1,h2⟩
   rcases List.mem_append.1 h1 with h1 | h1
   ·exact .inl (.inr ⟨c,h1,h2⟩)
   ·exact .inr ⟨c,h1,h2⟩
 have hin: ∀c∈A.sup 2++V.sup 2,0<=c/\c<p.cells.length:=fun c hc=>by
  have:=cellsB_in hA hV c (by rw[cellsB,sortedM_mem];exact hc)
  exact this
 rw[show cellsB A V=sortedM (A.sup 2++V.sup 2)from rfl,sortedM_mem]
 constructor
 ·intro h
  have h0:0<=c:=by
   simp only[marked,List.mem_map,List.mem_filter]at h
   obtain⟨j,_,rfl⟩:=h;omega
  obtain⟨n,rfl⟩: ∃n:Nat,c=n:=⟨c.toNat,by omega⟩
  rw[marked_mem]at h
  obtain⟨d,hd,hn⟩:=(key n h.1).1 h.2
  have:=hin d hd
  rw[show(n:Int)=d by omega];exact hd
 ·intro h
  have:=hin c h
  obtain⟨n,rfl⟩: ∃n:Nat,c=n:=⟨c.toNat,by omega⟩
  rw[marked_mem]
  exact⟨by omega,(key n (by omega)).2 ⟨_,h,by simp⟩⟩
def stR (p:Prog) (l:List Int) (n:Nat):List Int:=stM p l n (List.replicate 32 0)
def bestR (p:Prog) (l:List Int) (A V:Expr) (k:Nat):Int:=(List.range k).foldl (fun b n=>if A.ev (stR p l n) (stR p l n)=1 then(if V.ev (stR p l n) (stR p l n)>b then V.ev (stR p l n) (stR p l n)else b)else b) 0
theorem bestR_succ (p:Prog) (l:List Int) (A V:Expr) (k:Nat):bestR p l A V (k+1)=if A.ev (stR p l k) (stR p l k)=1 then(if V.ev (stR p l k) (stR p l k)>bestR p l A V k then V.ev (stR p l k) (stR p l k)else bestR p l A V k)else bestR p l A V k:=by
 rw[bestR,List.range_succ,List.foldl_append];rfl
theorem denS_any36 {r:V} {h:Nat->Option O} {vs:List V} {K:V->(Nat->Option O)->Prop} {w:WK K} (hk: ∀h',K r h'):denS (some r) false h vs K w:=by
 unfold denS
 simp only
 split
 ·exact hk _
 ·exact⟨fun h=>Bool.noConfusion h,hk _⟩
theorem rowsB_at {s:List Bool} {c:Nat} (h:c<s.length):(rowsB s)[c]? =some [vb s[c]]:=by simp[rowsB,h]
theorem rowsB_st (s:List Bool) (c:Nat) (v:Bool):(rowsB s).set c [.t (.bool v)]=rowsB (s.set c v):=by simp[rowsB,List.map_set]
theorem toT1_rowsB {h:Nat->Option O} {k len:Nat} {s:List Bool} {fz:Bool} (hk:h k=some (.rows 1 (rowsB s) fz)) (hl:len=s.length):toT1 h (.ms k 0 len)=some (.t (.sl (s.map fun b=>[tb b]))):=by
 have h1:=rows_toT h 999 (s.map fun b=>[tb b]) (by
  intro e he t ht
  obtain⟨n,_,rfl⟩:=List.mem_map.1 he
  simp at ht;subst ht;rfl)
 have h2:toT h 1000 (.ms k 0 len)=some (.sl (s.map fun b=>[tb b])):=by
  rw[toT,hk]
  have e:rowsB s=(s.map fun b=>[tb b]).map (·.map V.t):=by simp[rowsB]
  simp only[rd,Nat.zero_add,List.drop_zero]
  rw[e,if_pos (by simp;omega),List.take_of_length_le (by simp;omega)]
  simp only[Option.bind_eq_bind,Option.bind_some]
  rw[h1]
  rfl
 simp only[toT1,h2,Option.map_some]
theorem boundR_den (p:Prog) (hs:p.sane) (hf:formedM p=true) {t j:Nat} {x:Thread} {l:Loop} {A:Expr} (hx:p.threads[t]? =some x) (hl:x.loops[j]? =some l) (hL:LoopF p x l A):
 Den Γ G 337 [(.agg [.t (.sl ((p).cells.map (Cell.enc))),.t (.sl ((p).modules.map (Contract.enc))),.t (.sl ((p).locks.map (Lock.enc))),.t (.sl ((p).threads.map (Thread.enc)))]),vi t,vi j]=some (.tup [vi (if bitsM p (cellsB A l.variant)>12 then 0 else bestR p (cellsB A l.variant) A l.variant (2^bitsM p (cellsB A l.variant))),vi (if bitsM p (cellsB A l.variant)>12 then 2 else 0)]):=by
 have hh:hasLoop p t j=true:=by
  have h1:=(List.getElem?_eq_some_iff.1 hl).1
  simp[hasLoop,hf,hx];exact h1
 have hv:=hasR_den p hs t j
 rw[hh]at hv
 obtain⟨hd,hhd⟩: ∃n:Nat,l.head=n:=⟨l.head.toNat,by have:=hL.h0;omega⟩
 have hA:=hL.hA
 rw[hhd,Int.toNat_natCast]at hA
 have hs1:=supportR_den A
 have hs2:=supportR_den l.variant
 have hin:=cellsB_in hL.vA hL.vV
 have hcl:=(formed_small hf).1
 (refine den_ofY Γ337 rfl ?_;dsimp only[f337])
 simp -dsimp -implicitDefEqProofs only[go_sem,seval,hv,hx,hl,hhd,hA,hs1,hs2]
 have hA32: ∀c∈A.sup 2,0<=c/\c<32:=fun c hc=>by
  have:=hin c (by rw[cellsB,sortedM_mem];simp[hc]);omega
 have hV32: ∀c∈l.variant.sup 2,0<=c/\c<32:=fun c hc=>by
  have:=hin c (by rw[cellsB,sortedM_mem];simp[hc]);omega
 have hlA:=sup_len 2 A
 have hlV:=sup_len 2 l.variant
 refine loopYH 4721213561365038399488 (A.sup 2).length (fun i f h z=>(f 15).v=vi i/\h 46=some (.rows 1 (rowsB (mkB no32 ((A.sup 2).take i))) false)/\46<z) rfl ⟨by simp -dsimp -implicitDefEqProofs only[go_sem,seval],by simp -dsimp -implicitDefEqProofs only[go_sem,seval];rfl,by simp -dsimp -implicitDefEqProofs only[go_sem,seval]⟩ ?_
 rintro i f u H q bs hi ⟨h15,hk,hq⟩
 have hw:=wrapS i (by omega)
 simp -dsimp -implicitDefEqProofs only[go_sem,seval,h15]
 refine csplit (fun h=> ?_) (fun h=> ?_)<;>(try rw[h])<;>(try simp only[bools]at h)<;>(try simp -dsimp -implicitDefEqProofs only[go_sem,seval,h15])
 ·obtain⟨c,hc,hcm⟩:=get_of ‹i<(A.sup 2).length›
  obtain⟨c0,c1⟩:=hA32 c hcm
  have hgt:=rowsB_at (s:=mkB no32 ((A.sup 2).take i)) (c:=c.toNat) (by rw[mkB_len,no32_len];omega)
  simp -dsimp -implicitDefEqProofs only[go_sem,seval,h15,hc,c0,c1,hk,hgt,rowsB_st]
  exact⟨by omega,by simp -dsimp -implicitDefEqProofs only[go_sem,seval,hw],by simp -dsimp -implicitDefEqProofs only[go_sem,seval,take_succ_of hc,mkB_snoc],by simp -dsimp -implicitDefEqProofs only[go_sem,seval];omega⟩
 have hi':i=(A.sup 2).length:=by omega
 subst hi'
 rw[List.take_length]at hk
 clear hw h15 h
 refine loopYH 19338090747351197150150656 (l.variant.sup 2).length (fun i f h z=>(f 16).v=vi i/\h 46=some (.rows 1 (rowsB (mkB (mkB no32 (A.sup 2)) ((l.variant.sup 2).take i))) false)/\46<z) rfl ⟨by simp -dsimp -implicitDefEqProofs only[go_sem,seval],by simp -dsimp -implicitDefEqProofs only[go_sem,seval];exact hk,by simp -dsimp -implicitDefEqProofs only[go_sem,seval];omega⟩ ?_
 clear hk hq
 rintro i f2 u2 H2 q2 bs2 hi2 ⟨h16,hk,hq⟩
 have hw:=wrapS i (by omega)
 by_cases hlt:i<(l.variant.sup 2).length
 ·obtain⟨c,hc,hcm⟩:=get_of hlt
  obtain⟨c0,c1⟩:=hV32 c hcm
  have hlt1:=eq_true hlt
  have hgt:=rowsB_at (s:=mkB (mkB no32 (A.sup 2)) ((l.variant.sup 2).take i)) (c:=c.toNat) (by rw[mkB_len,mkB_len,no32_len];omega)
  simp -dsimp -implicitDefEqProofs only[go_sem,seval,h16,hlt1,hc,c0,c1,hk,hgt,rowsB_st]
  exact⟨by omega,by simp -dsimp -implicitDefEqProofs only[go_sem,seval,hw],by simp -dsimp -implicitDefEqProofs only[go_sem,seval,take_succ_of hc,mkB_snoc],by simp -dsimp -implicitDefEqProofs only[go_sem,seval];omega⟩
 have hi2':i=(l.variant.sup 2).length:=by omega
 subst hi2'
 rw[List.take_length]at hk
 have hlt1:=eq_false hlt
 have hT:=toT1_rowsB (len:=32) hk (by rw[mkB_len,mkB_len,no32_len])
 have hmk:=marked_den (markL A l.variant) (by rw[markL,mkB_len,mkB_len,no32_len];decide)
 rw[show(markL A l.variant).length=32 by rw[markL,mkB_len,mkB_len,no32_len],marked_cells hf hL.vA hL.vV]at hmk
 rw[show mkB (mkB no32 (A.sup 2)) (l.variant.sup 2)=markL A l.variant from rfl]at hT
 have hR:RiseB (cellsB A l.variant) p.cells.length:=⟨sortedM_sorted _,hin⟩
 have hwd:=widths10_den p hf _ hR
 generalize hC:cellsB A l.variant=L at *
 have hw8: ∀c∈L,1<=wOf p c/\wOf p c<=8:=fun c hc=>by
  have:=hR.2 c hc
  obtain⟨y,hy,hym⟩:=get_of (show c.toNat<p.cells.length by omega)
  have:=width_of hf hym
  rw[wOf,hy]
  simp only
  omega
 have hll:L.length<=32:=by
  have:=nodup_len 32 L (hR.1.imp fun h=>by omega) fun k hk=>by have:=hR.2 k hk;omega
  omega
 have hsum:=sum_den (wsM p L) (fun n hn=>by
  obtain⟨c,hc,rfl⟩:=List.mem_map.1 hn
  have:=hw8 c hc;omega) (by simp[wsM];omega)
 rw[sum_ws]at hsum
 simp -dsimp -implicitDefEqProofs only[go_sem,seval,h16,hlt1,↓hT,hmk]
 refine denS_any36 fun H4=> ?_
 clear hT hmk hk
 by_cases hb:bitsM p L>12
 ·have hb':(bitsM p L:Int)>12:=by omega
  rw[if_pos hb,if_pos hb]
  simp -dsimp -implicitDefEqProofs only[go_sem,seval,hwd,hsum,hb']
 ·have hb': ¬(bitsM p L:Int)>12:=by omega
  rw[if_neg hb,if_neg hb]
  simp -dsimp -implicitDefEqProofs only[go_sem,seval,hwd,hsum,hb']
  have hpw:=power_den (bitsM p L) (by omega)
  rw[Int.toNat_natCast,show(2:Int)^bitsM p L=((2^bitsM p L:Nat):Int)by simp]at hpw
  have hz12:(2:Nat)^bitsM p L<=4096:=Nat.pow_le_pow_right (n:=2) (j:=12) (by omega) (by omega)
  refine loopYH 5316911349314363377500527492784455680 (2^bitsM p L) (fun n f h z=>(f 22).v=vi n/\(f 21).v=vi (bestR p L A l.variant n)) rfl ⟨by simp -dsimp -implicitDefEqProofs only[go_sem,seval],by simp -dsimp -implicitDefEqProofs only[go_sem,seval];rfl⟩ ?_
  rintro n f3 u3 H3 q3 bs3 hn ⟨h22,h21⟩
  have hw3:=wrapS n (by omega)
  by_cases hlt:n<2^bitsM p L
  ·have hlt1:=eq_true hlt
   have hdA:=formed_deep (show A.formed=true by have:=hL.vA;simp only[Expr.valid,Bool.and_eq_true]at this;exact this.1)
   have hdV:=formed_deep (show l.variant.formed=true by have:=hL.vV;simp only[Expr.valid,Bool.and_eq_true]at this;exact this.1)
   have hE1:=value_den (stR p L n) (stR p L n) 40 A hdA
   have hE2:=value_den (stR p L n) (stR p L n) 40 l.variant hdV
   simp -dsimp -implicitDefEqProofs only[go_sem,seval,h22,hsum,hpw,hlt1]
   refine rawK_of (state10_den p hf L hR (by omega) n hlt (List.replicate 32 0) (by simp) _ _ _ _ rfl ?_) ?_
   ·intro j hj o
    have : ¬(q3+5+2=j):=by omega
    unfold rowsS
    simp only[updC_at,if_neg this,if_pos rfl]
    rfl
   rintro r h' n' ho
   have v1:=ho.valOf
   have hT:=own_toT1 ho
   rw[show stM p L n (List.replicate 32 0)=stR p L n from rfl]at hT
   by_cases hA1:A.ev (stR p L n) (stR p L n)=1
   ·have hb2:bestR p L A l.variant (n+1)=if l.variant.ev (stR p L n) (stR p L n)>bestR p L A l.variant n then l.variant.ev (stR p L n) (stR p L n)else bestR p L A l.variant n:=by
     rw[bestR_succ,if_pos hA1]
    simp -dsimp -implicitDefEqProofs only[go_sem,seval,v1,hA,↓hT,hE1,hA1,h21,h22,hE2]
    refine⟨by omega,by simp -dsimp -implicitDefEqProofs only[go_sem,seval,hw3],?_⟩
    simp -dsimp -implicitDefEqProofs only[go_sem,seval,hb2]
   ·have hb2:bestR p L A l.variant (n+1)=bestR p L A l.variant n:=by
     rw[bestR_succ,if_neg hA1]
    simp -dsimp -implicitDefEqProofs only[go_sem,seval,v1,hA,↓hT,hE1,hA1,h21,h22]
    refine⟨by omega,by simp -dsimp -implicitDefEqProofs only[go_sem,seval,hw3],?_⟩
    simp -dsimp -implicitDefEqProofs only[go_sem,seval,hb2,h21]
  ·have hlt1:=eq_false hlt
   have:n=2^bitsM p L:=by omega
   subst this
   simp -dsimp -implicitDefEqProofs only[go_sem,seval,h22,hsum,hpw,hlt1,h21]
theorem lawBound36_den (hh:Den Γ G 334 []=some (vb true)) (p:Prog) (hl:p.lite) (t j:Int) (mem:List Int):Den Γ G 328 [(.agg [.t (.sl ((p).cells.map (Cell.enc))),.t (.sl ((p).modules.map (Contract.enc))),.t (.sl ((p).locks.map (Lock.enc))),.t (.sl ((p).threads.map (Thread.enc)))]),vi t,vi j,.t (ints mem)]=some (vb true):=by
 have hg:=good36_den p hl t j
 (refine den_ofY Γ328 rfl ?_;dsimp only[f328])
 cases hgd:fewM p&&hasLoop p t j
 ·rw[hgd]at hg
  simp -dsimp -implicitDefEqProofs only[go_sem,seval,hh,hg]
 ·rw[hgd]at hg
  simp only[Bool.and_eq_true]at hgd
  obtain⟨hfw,hlp⟩:=hgd
  have hs:=few_sane hl hfw
  obtain⟨hf,tn,jn,x,l,rfl,rfl,hx,hlo⟩:=hasLoop_of hlp
  obtain⟨A,hL⟩:=loopF_of hf hx hlo
  have hb:=bound_den p hs hf hx hlo hL
  have hbr:=boundR_den p hs hf hx hlo hL
  have hA:=hL.hA
  obtain⟨hd,hhd⟩: ∃n:Nat,l.head=n:=⟨l.head.toNat,by have:=hL.h0;omega⟩
  rw[hhd,Int.toNat_natCast]at hA
  by_cases hm:mem.length>40
  ·have hm':(mem.length:Int)>40:=by omega
   simp -dsimp -implicitDefEqProofs only[go_sem,seval,hh,hg,hm']
  ·have hm': ¬(mem.length:Int)>40:=by omega
   by_cases h12:bitsM p (cellsB A l.variant)>12
   ·rw[if_pos h12,if_pos h12]at hb hbr
    simp -dsimp -implicitDefEqProofs only[go_sem,seval,hh,hg,hm',hx,hlo,hb,hbr]
   ·rw[if_neg h12,if_neg h12]at hb hbr
    have hvf:l.variant.formed=true:=by have:=hL.vV;simp only[Expr.valid,Bool.and_eq_true]at this;exact this.1
    have hr:=foldB_range p (cellsB A l.variant) A l.variant hvf (2^bitsM p (cellsB A l.variant))
    have hge:=fun h=>best_ge hL.vA hL.vV (l:=cellsB A l.variant) (fun c hc=>by rw[cellsB,sortedM_mem];simp[hc]) (fun c hc=>by rw[cellsB,sortedM_mem];simp[hc])
     ((sortedM_sorted _).imp_of_mem fun{a b} ha hb' h=>by
       have h1:=cellsB_in hL.vA hL.vV a ha
       have h2:=cellsB_in hL.vA hL.vV b hb'
       omega) (fun c hc=>by have:=cellsB_in hL.vA hL.vV c hc;omega) mem h
    rw[show(foldB p (cellsB A l.variant) A l.variant (2^bitsM p (cellsB A l.variant))).2=bestM p (cellsB A l.variant) A l.variant from rfl]at hr
    generalize bestM p (cellsB A l.variant) A l.variant=B at *
    generalize bestR p (cellsB A l.variant) A l.variant (2^bitsM p (cellsB A l.variant))=B2 at *
    have hw:=node_w (deep_node (formed_deep hvf))
    have hpw:=power_den l.variant.w (by omega)
    have e1: ¬B<0:=by omega
    have e2: ¬B>=2^l.variant.w.toNat:=by omega
    have hE1:=evalP_den A mem mem
    have hE2:=evalP_den l.variant mem mem
    by_cases hA1:A.eval mem mem=1
    ·have e3:=hge hA1
     simp -dsimp -implicitDefEqProofs only[go_sem,seval,hh,hg,hm',hx,hlo,hb,hbr,e1,e2,hpw,hhd,hA,hE1,hA1,hE2,e3]
    ·simp -dsimp -implicitDefEqProofs only[go_sem,seval,hh,hg,hm',hx,hlo,hb,hbr,e1,e2,hpw,hhd,hA,hE1,hA1]
end Rg
end
