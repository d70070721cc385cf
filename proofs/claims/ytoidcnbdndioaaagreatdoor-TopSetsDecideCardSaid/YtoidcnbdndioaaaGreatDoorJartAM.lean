/- Part of the proof of laws of relyguardtop. No condition. -/
import Derived.Test.YtoidcnbdndioaaaGreatDoorJartAL
import Derived.Test.YtoidcnbdndioaaaGreatDoorJartAJ
import Derived.Test.YtoidcnbdndioaaaGreatDoorJartAK
set_option linter.unusedSimpArgs false
set_option linter.unusedVariables false
section
namespace Rg
open Go
theorem zMm {x:Nat} (hx:x<2^63):(BitVec.ofInt 64 (x:Int)).toNat=x:=by simp[BitVec.toNat_ofInt];omega
theorem zMq {a b:Nat} (ha:a<2^60) (hb:b<2^60):IntKind.i64.wrap ((BitVec.ofInt IntKind.i64.bits (a:Int) ||| BitVec.ofInt IntKind.i64.bits (b:Int)).toNat:Int)=((a ||| b:Nat):Int):=by
 show IntKind.i64.wrap ((BitVec.ofInt 64 (a:Int) ||| BitVec.ofInt 64 (b:Int)).toNat:Int)=_;rw[BitVec.toNat_or,zMm (by omega),zMm (by omega)];have:=Nat.or_lt_two_pow ha hb;exact zaH (by omega)
theorem zKN {n low:Nat} (hn:n<2^low) (x:Nat):n ||| x*2^low=n+x*2^low:=by
 have:=Nat.shiftLeft_add_eq_or_of_lt hn x;rw[Nat.shiftLeft_eq]at this;rw[Nat.or_comm,<- this,Nat.add_comm]
theorem zHV {p:Prog} {mem:List Int} (c:Int): ∀l:List Int,zGD p mem (l++[c])=zGD p mem l+2^zcD p l*(atI mem c % 2^wOf p c)
 | []=>by simp[zGD,zcD]
 | d::l=>by
   have hb:zcD p (d::l)=wOf p d+zcD p l:=by simp[zcD]
   rw[List.cons_append,zGD,zHV c l,zGD,hb,Int.mul_add,Int.pow_add,Int.mul_assoc,Int.add_assoc]
theorem zIR (p:Prog) (l s st:List Int) (S:Shp l (wsM p l)) (AE: ∀c∈l,c.toNat<st.length) (BA:st.length<2^40):
 Den Γ G 556 [zGs l (wsM p l) s,.t (ints st)]=some (vi (zGD p st l)):=by
 have a1:=zGA l (wsM p l) s S.inc S.len S.shp S.w S.sum.2;have FZ:l.length<=32:=S.len
 have Ad: ∀i c,l[i]? =some c->0<=c/\c<32/\1<=wOf p c/\wOf p c<=8:=fun i c hc=>by
  have h1:=S.shp;simp only[zG1,zF,zN,decide_eq_true_eq]at h1;have h2:=h1.2 (c,(wOf p c:Int)) (zL (i:=i) (by rw[List.getElem?_zip_eq_some];exact⟨hc,by rw[wsM,zJ,hc];rfl⟩));simp only at h2;omega
 have S6: ∀i,zcD p (l.take i)<=12:=fun i=>by
  have h1:=S.sum.2;rw[zHm]at h1
  have h2:zcD p l=zcD p (l.take i)+zcD p (l.drop i):=by
   rw[zcD,zcD,zcD,<- List.sum_append,<- List.map_append,List.take_append_drop]
  omega
 unfold zGs at a1⊢
 (refine zag Γ556 rfl ?_;dsimp only[zLe])
 simp -dsimp -implicitDefEqProofs only[go_sem,seval,a1];refine zaT 70368744113120 l.length (fun i f=>(f 16).v=vi i/\(f 5).v=vi (zGD p st (l.take i))/\(f 6).v=vi (zcD p (l.take i))) rfl rfl ⟨by simp -dsimp -implicitDefEqProofs only[go_sem,seval],by simp -dsimp -implicitDefEqProofs only[go_sem,seval];rfl,by simp -dsimp -implicitDefEqProofs only[go_sem,seval];rfl⟩ ?_;rintro i f u x bb hi ⟨g16,g5,g6⟩;have hw:=zan i (by omega)
 by_cases AV:i<l.length
 ·have DB:=eq_true AV;obtain⟨c,hc,BI⟩:=zai AV;obtain⟨c0,c1,w0,w1⟩:=Ad i c hc;have FQ:(wsM p l)[i]? =some (wOf p c:Int):=by rw[wsM,zJ,hc];rfl
  have AL:=AE c BI;have b1:(c<(st.length:Int))=True:=eq_true (by omega);obtain⟨v,hv,_⟩:=zai AL;have Bj:atI st c=v:=by rw[atI,zK,hv];rfl
  have RF:(2:Int)^wOf p c<=2^8:=by exact_mod_cast Nat.pow_le_pow_right (n:=2) (by omega) w1
  have Nt:=zcn (wOf p c);have s0:((wOf p c:Int)<0)=False:=eq_false (by omega)
  have s1:IntKind.i64.wrap (1*2^min (wOf p c) 64)=2^wOf p c:=by
   rw[Nat.min_eq_left (by omega),Int.one_mul];exact zaH (by omega)
  have s2:IntKind.i64.wrap (2^wOf p c-1)=2^wOf p c-1:=zaH (by omega);have s3:=ziA v (wOf p c:Int) (by omega);rw[Int.toNat_natCast]at s3;have k0:=S6 i;have k1:=S6 (i+1);rw[zaf hc,zhF]at k1;have l0:((zcD p (l.take i):Int)<0)=False:=eq_false (by omega);have m0:=Int.emod_nonneg v (b:=2^wOf p c) (by omega);have m1:=Int.emod_lt_of_pos v Nt;obtain⟨r,hr⟩: ∃r:Nat,v % 2^wOf p c=(r:Int):=⟨(v % 2^wOf p c).toNat,by omega⟩
  have Tb:r<2^wOf p c:=by
   have:(r:Int)<((2^wOf p c:Nat):Int):=by rw[<- hr];push_cast;exact m1
   exact_mod_cast this
  obtain⟨n1,n2⟩:=zGC (p:=p) (mem:=st) (l.take i);obtain⟨q,hq⟩: ∃q:Nat,zGD p st (l.take i)=(q:Int):=⟨(zGD p st (l.take i)).toNat,by omega⟩
  have HN:q<2^zcD p (l.take i):=by
   have:(q:Int)<((2^zcD p (l.take i):Nat):Int):=by rw[<- hq];push_cast;exact n2
   exact_mod_cast this
  have SS:r*2^zcD p (l.take i)<2^12:=by
   have h1:r*2^zcD p (l.take i)<2^wOf p c*2^zcD p (l.take i):=Nat.mul_lt_mul_of_pos_right Tb (Nat.two_pow_pos _);rw[<- Nat.pow_add]at h1;exact Nat.lt_of_lt_of_le h1 (Nat.pow_le_pow_right (by omega) (by omega))
  have Tc:q<2^12:=Nat.lt_of_lt_of_le HN (Nat.pow_le_pow_right (by omega) k0)
  have s4:IntKind.i64.wrap ((r:Int)*2^min (zcD p (l.take i)) 64)=((r*2^zcD p (l.take i):Nat):Int):=by
   rw[Nat.min_eq_left (by omega),show((r:Int)*2^zcD p (l.take i))=((r*2^zcD p (l.take i):Nat):Int)by push_cast;rfl];exact zaH (by omega)
  have s5:=zMq (a:=q) (b:=r*2^zcD p (l.take i)) (by omega) (by omega);rw[zKN HN]at s5;rw[hq]at g5;rw[hr]at s3;have s6:IntKind.i64.wrap ((zcD p (l.take i):Int)+(wOf p c:Int))=((zcD p (l.take i)+wOf p c:Nat):Int):=by rw[zaH (by omega)];omega
  simp -dsimp -implicitDefEqProofs only[go_sem,seval,g16,g5,g6,DB,hc,FQ,b1,c0,hv,s0,s1,s2,s3,l0,s4,s5,s6];refine⟨AV,by simp -dsimp -implicitDefEqProofs only[go_sem,seval,hw],?_,?_⟩
  ·simp -dsimp -implicitDefEqProofs only[go_sem,seval,zaf hc,zHV,hq,Bj,hr]
   push_cast
   rw[Int.mul_comm]
  ·simp -dsimp -implicitDefEqProofs only[go_sem,seval,zaf hc,zhF]
 ·have DB:=eq_false AV;have:i=l.length:=by omega
  subst this;rw[List.take_length]at g5;simp -dsimp -implicitDefEqProofs only[go_sem,seval,g16,DB,g5]
theorem zHv (a b:Int):Den Γ G 557 [vi a,vi b]=some (vi (if a<b then -1 else if a>b then 1 else 0)):=by
 have h1: ∀z:Int,Den Γ G 144 [vi z]=some (vb false):=fun z=>by
  (refine zag Γ144 rfl ?_;dsimp only[f144])
  simp -dsimp -implicitDefEqProofs only[go_sem,seval,bne_self_eq_false]
 have h2:Den Γ G 558 [vi a,vi b]=some (vi (if a<b then -1 else if a>b then 1 else 0)):=by
  (refine zag Γ558 rfl ?_;dsimp only[zLc])
  by_cases c1:a<b
  ·have c1':=eq_true c1;simp -dsimp -implicitDefEqProofs only[go_sem,seval,h1,c1']
  ·have c1':=eq_false c1
   by_cases c2:a>b
   ·have c2':=eq_true c2;simp -dsimp -implicitDefEqProofs only[go_sem,seval,h1,c1',c2']
   ·have c2':=eq_false c2;simp -dsimp -implicitDefEqProofs only[go_sem,seval,h1,c1',c2']
 (refine zag Γ557 rfl ?_;dsimp only[zLd])
 simp -dsimp -implicitDefEqProofs only[go_sem,seval,h2]
theorem zIw {L:List Nat} (h:L.Pairwise (· < ·)) (t:Nat): ∀(i:Nat) (x:Nat),L[i]? =some x->(x<t<->i<(L.filter (· <t)).length):=by
 induction L with
 | nil=>intro i x hx;simp at hx
 | cons a L ih=>
   intro i x hx;obtain⟨p1,p2⟩:=List.pairwise_cons.1 h
   by_cases ha:a<t
   ·rw[List.filter_cons,if_pos (by simpa using ha),List.length_cons]
    cases i with
    | zero=>simp at hx;subst hx;simp[ha]
    | succ i=>rw[ih p2 i x (by simpa using hx)];omega
   ·have D7:L.filter (· <t)=[]:=List.filter_eq_nil_iff.2 fun y hy=>by have:=p1 y hy;simp;omega
    rw[List.filter_cons,if_neg (by simpa using ha),D7]
    have : ¬x<t:=by
     cases i with
     | zero=>simp at hx;omega
     | succ i=>have:=p1 x (zL (by simpa using hx));omega
    simp[this]
theorem zIJ (L:List Nat) (h:L.Pairwise (· < ·)) (hl:L.length<2^40) (t:Nat):Den Γ G 555 [.t (ints (nI L)),vi t,.t (.fn 557 [] [])]=some (.tup [vi (L.filter (· <t)).length,vb (L.contains t)]):=by
 have Hx:(nI L).length=L.length:=by simp
 have RH:(L.filter (· <t)).length<=L.length:=List.length_filter_le _ _
 generalize hm:(L.filter (· <t)).length=m at *
 (refine zag Γ555 rfl ?_;dsimp only[zLf])
 simp -dsimp -implicitDefEqProofs only[go_sem,seval,Hx];refine zaT 34359709184 L.length (fun i f=> ∃a b:Nat,(f 9).v=vi a/\(f 10).v=vi b/\a<=m/\m<=b/\b<=L.length/\b-a+i<=L.length) rfl rfl ⟨0,L.length,by simp -dsimp -implicitDefEqProofs only[go_sem,seval],by simp -dsimp -implicitDefEqProofs only[go_sem,seval],by omega,RH,by omega,by omega⟩ ?_;rintro i f u x bb hi ⟨a,b,g9,g10,Cp,Ll,D4,Ca⟩
 by_cases Ad:a<b
 ·have Af:((a:Int)<(b:Int))=True:=eq_true (by omega);have w1:IntKind.i64.wrap ((a:Int)+(b:Int))=((a+b:Nat):Int):=by rw[zaH (by omega)];omega
  have w2:IntKind.u64.wrap ((a+b:Nat):Int)=((a+b:Nat):Int):=zHj (by omega)
  have w3:((a+b:Nat):Int).fdiv (2^min 1 64)=(((a+b)/ 2:Nat):Int):=by
   rw[Int.fdiv_eq_ediv_of_nonneg _ (by decide)];rw[show(2:Int)^min 1 64=2 from rfl];omega
  have w4:IntKind.i64.wrap (((a+b)/ 2:Nat):Int)=(((a+b)/ 2:Nat):Int):=zaH (by omega);have hq:(a+b)/ 2<L.length:=by omega
  obtain⟨n,hn,_⟩:=zai hq;have Su:(nI L)[(a+b)/ 2]? =some (n:Int):=by rw[zJ,hn];rfl
  have Ho:=zIw h t _ _ hn;rw[hm]at Ho;have hc:=zHv (n:Int) (t:Int)
  by_cases Sy:n<t
  ·rw[if_pos (by omega)]at hc;have w5:IntKind.i64.wrap ((((a+b)/ 2:Nat):Int)+1)=(((a+b)/ 2+1:Nat):Int):=zan _ (by omega);have Hy:=Ho.1 Sy;simp -dsimp -implicitDefEqProofs only[go_sem,seval,g9,g10,Af,w1,w2,w3,w4,Su,hc,w5];exact⟨by omega,(a+b)/ 2+1,b,by simp -dsimp -implicitDefEqProofs only[go_sem,seval],by simp -dsimp -implicitDefEqProofs only[go_sem,seval,g10],by omega,Ll,D4,by omega⟩
  ·have CG: ∃z:Int,(z<0)=False/\Den Γ G 557 [vi (n:Int),vi (t:Int)]=some (vi z):=by
    rw[if_neg (by omega)]at hc;split at hc
    ·exact⟨1,by simp,hc⟩
    ·exact⟨0,by simp,hc⟩
   obtain⟨z,hz,CG⟩:=CG;have Hy: ¬(a+b)/ 2<m:=fun h=>Sy (Ho.2 h)
   simp -dsimp -implicitDefEqProofs only[go_sem,seval,g9,g10,Af,w1,w2,w3,w4,Su,CG,hz];exact⟨by omega,a,(a+b)/ 2,by simp -dsimp -implicitDefEqProofs only[go_sem,seval,g9],by simp -dsimp -implicitDefEqProofs only[go_sem,seval],Cp,by omega,by omega,by omega⟩
 ·have Af:((a:Int)<(b:Int))=False:=eq_false (by omega);have e1:a=m:=by omega
  subst e1
  by_cases QO:a<L.length
  ·have PS:((a:Int)<(L.length:Int))=True:=eq_true (by omega);obtain⟨n,hn,GE⟩:=zai QO;have Su:(nI L)[a]? =some (n:Int):=by rw[zJ,hn];rfl
   have Ho:=zIw h t _ _ hn;rw[hm]at Ho;have Bv: ¬n<t:=fun h=>by have:=Ho.1 h;omega
   have hc:=zHv (n:Int) (t:Int);rw[if_neg (by omega)]at hc
   have Ez:L.contains t=decide (n=t):=by
    rw[Bool.eq_iff_iff,List.contains_iff_mem,decide_eq_true_eq];constructor
    ·intro ht;obtain⟨j,hj,S2⟩:=List.getElem_of_mem ht;have Dp:=zI hj;have h1:=zIw h t _ _ Dp;rw[hm,S2]at h1
     have h2:a<=j:=by
      rcases Nat.lt_or_ge j a with h3 | h3
      ·exact absurd (h1.2 h3) (by omega)
      ·exact h3
     rcases Nat.lt_or_ge a j with h3 | h3
     ·have h4:=List.pairwise_iff_getElem.1 h a j QO hj h3;rw[(zH.1 hn).2,S2]at h4;omega
     ·have:a=j:=by omega
      subst this;rw[<- S2,(zH.1 hn).2]
    ·rintro rfl;exact GE
   rw[Ez]
   by_cases Sy:n=t
   ·rw[if_neg (by omega)]at hc;simp -dsimp -implicitDefEqProofs only[go_sem,seval,g9,g10,Af,PS,Su,hc];simp[Sy]
   ·rw[if_pos (by omega)]at hc;simp -dsimp -implicitDefEqProofs only[go_sem,seval,g9,g10,Af,PS,Su,hc];simp[Sy]
  ·have PS:((a:Int)<(L.length:Int))=False:=eq_false (by omega)
   have Ez:L.contains t=false:=by
    rw[Bool.eq_false_iff];intro ht;rw[List.contains_iff_mem]at ht;obtain⟨j,hj,S2⟩:=List.getElem_of_mem ht;have h1:=zIw h t _ _ (zI hj);rw[hm,S2]at h1;exact absurd (h1.2 (by omega)) (by omega)
   rw[Ez];simp -dsimp -implicitDefEqProofs only[go_sem,seval,g9,g10,Af,PS]
theorem zHh (p:Prog) (l st:List Int) {L:List Nat} (S:Shp l (wsM p l)) (E:Elems (wsM p l) L) (AE: ∀c∈l,c.toNat<st.length) (BA:st.length<2^40):
 Den Γ G 519 [zGs l (wsM p l) (nI L),.t (ints st)]=some (vb (L.contains (zGD p st l).toNat)):=by
 have a1:=zGz S E;have a2:=zIR p l (nI L) st S AE BA;obtain⟨n1,_⟩:=zGC (p:=p) (mem:=st) l;obtain⟨n,hn⟩: ∃n:Nat,zGD p st l=(n:Int):=⟨(zGD p st l).toNat,by omega⟩
 have a3:=zIJ L E.inc (by have:=E.len S;omega) n;rw[hn]at a2⊢;rw[Int.toNat_natCast];unfold zGs at a1 a2⊢
 (refine zag Γ519 rfl ?_;dsimp only[zLx])
 simp -dsimp -implicitDefEqProofs only[go_sem,seval,a1,a2,a3]
end Rg
end
section
namespace Rg
open Go
def zKB (a b:Expr):V:=.agg [.t (.str (bs [])),vi 0,vi 0,vi 0,vi 0,vi 0,.t (ti a.op),.t (ti a.w),.t (ti a.n),.t (.sl (a.kids.map Expr.enc)),.t (ti b.op),.t (ti b.w),.t (ti b.n),.t (.sl (b.kids.map Expr.enc))]
def unL (a b:List Int):List Int:=zhp (a++b)
theorem zHQ (a b:List Int) (ha:a.length<2^20) (hb:b.length<2^20):Den Γ G 583 [.t (ints a),.t (ints b)]=some (.t (ints (unL a b))):=by
 (refine zag Γ583 rfl ?_;dsimp only[zKZ])
 simp -dsimp -implicitDefEqProofs only[go_sem,seval];refine zas (zIo a b ha hb _ _ _ _ _ (by simp[zaC,zaA,zaa]) (by omega) (zKC.tree _ _ _) (zKC.tree _ _ _)) ?_;rintro r h' n' hO;have y1:=hO.valOf;simp -dsimp -implicitDefEqProofs only[go_sem,seval,y1];refine zas (zrw _ _ _ _ _ hO (by rw[zM];omega)) ?_;rintro r2 h2 n2 ⟨rfl,Cz,rfl⟩;simp -dsimp -implicitDefEqProofs only[go_sem,seval,y1];refine zas (zng _ _ _ _ _ Cz (by rw[zqa,List.length_mergeSort,zM];omega)) ?_;rintro r3 h3 n3 ⟨rfl,rfl⟩;simp -dsimp -implicitDefEqProofs only[go_sem,seval];rfl
theorem zaF.toT1F {h h':Nat->Option O} {x:Nat} {v:V} {l:List Int} (o:zaF h x v 1 (zae l)) (hf:zJW h h'):Rg.toT1 h' v=some (.t (ints l)):=by
 rcases o with⟨rfl,he⟩ | ⟨k,rfl,_,hk⟩
 ·have:l=[]:=by simpa[zae]using he
  subst this;rfl
 ·obtain⟨fz,Ah⟩:=hf _ _ _ _ hk;rw[zab];exact zp6 Ah rfl
theorem zHA (a b:Expr):Den Γ G 552 [zKB a b]=some (.tup [.t (ints (unL (a.sup 3) (b.sup 3))),.t (ints (unL (a.sup 2) (b.sup 2)))]):=by
 have s1:=zfp 2 a;have s2:=zfp 2 b;have s3:=zfp 3 a;have s4:=zfp 3 b;unfold zKB
 (refine zag Γ552 rfl ?_;dsimp only[zLi])
 simp -dsimp -implicitDefEqProofs only[go_sem,seval];refine zas (zfo a _ _) ?_;rintro r h1 n1 ⟨a3,a2,rfl,oa3,oa2,Fj,A3⟩;have y1:=oa3.valOf;have y2:=oa2.valOf;simp -dsimp -implicitDefEqProofs only[go_sem,seval,y1,y2];refine zas (zfo b _ _) ?_;rintro r h2 n2 ⟨b3,b2,rfl,ob3,ob2,Fh,AF⟩;have y3:=ob3.valOf;have y4:=ob2.valOf;have oa3':zaF h2 n2 a3 1 (zae (a.sup 3)):=oa3.keep (by omega) fun k hk _=>(AF k (by omega)).1
 have oa2':zaF h2 n2 a2 1 (zae (a.sup 2)):=oa2.keep (by omega) fun k hk _=>(AF k (by omega)).1
 have t1:=oa3'.toT1;have t2:=ob3.toT1;have u1:=zHQ (a.sup 3) (b.sup 3) (by omega) (by omega);have u2:=zHQ (a.sup 2) (b.sup 2) (by omega) (by omega);simp -dsimp -implicitDefEqProofs only[go_sem,seval,y1,y2,y3,y4,↓t1,↓t2,u1];refine zGr (fun _=>True) (fun _ _=>trivial) fun h3 _ hf=> ?_
 have t3:=oa2'.toT1F hf;have t4:=ob2.toT1F hf;simp -dsimp -implicitDefEqProofs only[go_sem,seval,y1,y2,y3,y4,↓t3,↓t4,u2];refine zGr (fun _=>True) (fun _ _=>trivial) fun h4 _ Cv=> ?_
 simp -dsimp -implicitDefEqProofs only[go_sem,seval]
def zIp (l s s':List Int):Prop:=s.length=s'.length/\ ∀j,(∀c∈l,c.toNat≠j)->s.getD j 0=s'.getD j 0
theorem zIp.set {c:Int} {l s s':List Int} (h:zIp (c::l) s s') (v:Int):zIp l (s.set c.toNat v) (s'.set c.toNat v):=by
 refine⟨by simp[h.1],fun j hj=> ?_⟩
 by_cases hc:c.toNat=j
 ·subst hc;simp only[zK,List.getElem?_set,if_true,h.1]
 ·have:=h.2 j fun d hd=>by
   rcases List.mem_cons.1 hd with rfl | hd
   ·exact hc
   ·exact hj d hd
  simp only[zK]at this;simp only[zK,List.getElem?_set,hc,if_false,this]
theorem zHC {p:Prog}: ∀{l:List Int} {n:Int} {s s':List Int},zIp l s s'->stM p l n s=stM p l n s'
 | [],n,s,s',h=>by
   refine List.ext_getElem h.1 fun j h1 h2=> ?_
   have:=h.2 j (by simp);simp only[stM]at h1 h2⊢;rw[zK,zK,zI h1,zI h2]at this
   exact this
 | c::l,n,s,s',h=>by rw[stM,stM,zHC (h.set _)]
theorem zI2 (p:Prog) (l:List Int) (n:Int) (s:List Int):zIp l (stM p l n s) s:=⟨zlf l n s,fun j hj=>zG0 hj⟩
def WOk (cells:List Cell) (l:List Int):Prop:= ∀c∈l,0<=c/\ ∃y,cells[c.toNat]? =some y/\1<=y.w/\y.w<=8
theorem WOk.wOf {cells:List Cell} {l:List Int} (h:WOk cells l) {c:Int} (hc:c∈l) {y:Cell} (hy:cells[c.toNat]? =some y):(wOf (pC cells) c:Int)=y.w/\1<=wOf (pC cells) c/\wOf (pC cells) c<=8:=by
 obtain⟨h0,z,hz,h1,h2⟩:=h c hc;rw[hy]at hz;cases hz;have:Rg.wOf (pC cells) c=y.w.toNat:=by rw[Rg.wOf];show(match cells[c.toNat]? with | some x=>x.w.toNat | none=>0)=_;rw[hy]
 rw[this];omega
def zHd (cells:List Cell) (D:List Int) (n:Nat):List Int:=stM (pC cells) D (n:Int) (List.replicate cells.length 0)
def zGY (cells:List Cell) (D N:List Int) (n:Nat):List Int:=stM (pC cells) N ((n:Int)/ 2^zcD (pC cells) D) (List.replicate cells.length 0)
theorem zH8 {cells:List Cell} {l:List Int} (h:WOk cells l) {i:Nat} {c:Int} (hc:l[i]? =some c) {y:Cell} (hy:cells[c.toNat]? =some y) (n:Int) (hn:0<=n/\n<2^40) (s:List Int):
 ((y.w:Int)<0)=False/\IntKind.i64.wrap (1*2^min y.w.toNat 64)=2^wOf (pC cells) c/\IntKind.i64.wrap (2^wOf (pC cells) c-1)=2^wOf (pC cells) c-1/\
   IntKind.i64.wrap ((BitVec.ofInt IntKind.i64.bits (n/ 2^zcD (pC cells) (l.take i))&&& BitVec.ofInt IntKind.i64.bits (2^wOf (pC cells) c-1)).toNat:Int)=n/ 2^zcD (pC cells) (l.take i) % 2^wOf (pC cells) c/\
   (n/ 2^zcD (pC cells) (l.take i)).fdiv (2^min y.w.toNat 64)=n/ 2^zcD (pC cells) (l.take (i+1))/\
   (stM (pC cells) (l.take i) n s).set c.toNat (n/ 2^zcD (pC cells) (l.take i) % 2^wOf (pC cells) c)=stM (pC cells) (l.take (i+1)) n s:=by
 obtain⟨w1,w2,w3⟩:=h.wOf (zL hc) hy;have RF:(2:Int)^wOf (pC cells) c<=2^8:=by exact_mod_cast Nat.pow_le_pow_right (n:=2) (by omega) w3
 have Nt:=zcn (wOf (pC cells) c);have e1:y.w.toNat=wOf (pC cells) c:=by omega
 have s3:=ziA (n/ 2^zcD (pC cells) (l.take i)) (wOf (pC cells) c:Int) (by omega);rw[Int.toNat_natCast]at s3;refine⟨eq_false (by omega),?_,zaH (by omega),s3,?_,?_⟩
 ·rw[e1,Nat.min_eq_left (by omega),Int.one_mul];exact zaH (by omega)
 ·rw[e1,Nat.min_eq_left (by omega),Int.fdiv_eq_ediv_of_nonneg _ (Int.le_of_lt Nt),zaf hc,zhF,Int.pow_add,Int.ediv_ediv_of_nonneg (Int.le_of_lt (zcn _))]
 ·rw[zaf hc,zoQ]
theorem zIQ (cells:List Cell) (By:cells.length<=2^20) (D N:List Int) (hD:WOk cells D) (hN:WOk cells N) (SQ:D.length<=2^20) (SP:N.length<=2^20) (hb:zcD (pC cells) D+zcD (pC cells) N<=14) (ky n0:Nat)
 (Inv:Nat->(Nat->Option O)->Nat->Prop) (Stop:Nat->(Nat->Option O)->Nat->Nat->Nat->Prop)
 (A4: ∀i H n H' n',Inv i H n->(∀j,j<n0->H' j=H j)->n<=n'->Inv i H' n')
 (SF: ∀i H n n' kb ka,Stop i H n kb ka->n<=n'->Stop i H n' kb ka)
 (Fe: ∀i,i<2^(zcD (pC cells) D+zcD (pC cells) N)-> ∀H n kb ka,Inv i H n->H kb=some (.rows 1 (zae (zHd cells D i)) false)->H ka=some (.rows 1 (zae (zGY cells D N i)) false)->n0<=kb->kb<n->n0<=ka->ka<n->
   ∃cont h' n',DenY Γ G ky [.ms kb 0 cells.length,.ms ka 0 cells.length] H n=some (vb cont,h',n')/\n<=n'/\(if cont then Inv (i+1) h' n'/\h' kb=H kb/\h' ka=H ka else Stop i h' n' kb ka))
 (H:Nat->Option O) (h0:Inv 0 H n0):
 ∃r h' n',DenR Γ G 584 [.yl ky,.t (.ip [.sl (cells.map Cell.enc)]),.t (.ip [ti (zcD (pC cells) D+zcD (pC cells) N:Nat)]),.t (.ip [ints D]),.t (.ip [ints N])] H n0=some (r,h',n')/\
  (Inv (2^(zcD (pC cells) D+zcD (pC cells) N)) h' n'\/ ∃i kb ka,i<2^(zcD (pC cells) D+zcD (pC cells) N)/\Stop i h' n' kb ka):=by
 have Bb:(cells.map Cell.enc).length=cells.length:=by simp
 have m0:(0:Int)<=(cells.length:Int):=by omega
 have m1:(cells.length:Int)<=4294967296:=by omega
 have m2:(cells.length:Int)<=(cells.length:Int):=Int.le_refl _
 generalize hB:zcD (pC cells) D+zcD (pC cells) N=B at *
 have s0:((B:Int)<0)=False:=eq_false (by omega);have SJ:(2:Nat)^B<=2^14:=Nat.pow_le_pow_right (by omega) (by omega)
 have s1:IntKind.i64.wrap (1*2^min B 64)=((2^B:Nat):Int):=by
  have h4:(1*2^min B 64:Int)=((2^B:Nat):Int):=by
   rw[Nat.min_eq_left (by omega)];push_cast;omega
  rw[h4]
  generalize(2:Nat)^B=q at SJ⊢
  exact zaH (by omega)
 have ON:List.replicate cells.length [zi]=zae (List.replicate cells.length 0):=by simp[zae]
 (refine zay Γ584 rfl ?_;dsimp only[zKY])
 simp -dsimp -implicitDefEqProofs only[go_sem,seval,Bb,m0,m1,m2,s0,s1]
 refine zaq 19342813113834066791115520 (2^B) (fun i f h x=>(f 22).v=vi i/\Inv i h x/\n0+6<=x/\ ∃sb sa,h (n0+2)=some (.rows 1 (zae sb) false)/\h (n0+5)=some (.rows 1 (zae sa) false)/\zIp D sb (List.replicate cells.length 0)/\zIp N sa (List.replicate cells.length 0)) rfl
  ⟨by simp -dsimp -implicitDefEqProofs only[go_sem,seval],A4 _ _ _ _ _ h0 (fun j hj=>by simp only[zaC,zaA];rw[zaa,if_neg (by omega),zaa,if_neg (by omega)]) (by simp -dsimp -implicitDefEqProofs only[go_sem,seval];omega),by simp -dsimp -implicitDefEqProofs only[go_sem,seval];omega,List.replicate cells.length 0,List.replicate cells.length 0,?_,?_,⟨rfl,fun _ _=>rfl⟩,⟨rfl,fun _ _=>rfl⟩⟩ ?_
 ·simp only[zaC,zaA];rw[zaa,if_neg (by omega),zaa,if_pos rfl,ON]
 ·simp only[zaC,zaA];rw[zaa,if_pos rfl,ON]
 rintro i f u h x bb hi ⟨g22,hI,hx,sb,sa,Do,Ew,eb,ea⟩;have hw:=zan i (by omega)
 by_cases AV:i<2^B
 rotate_left
 ·have DB:=eq_false AV;have:i=2^B:=by omega
  subst this;simp -dsimp -implicitDefEqProofs only[go_sem,seval,g22,DB];exact .inl (A4 _ _ _ _ _ hI (fun j _=>rfl) (by simp -dsimp -implicitDefEqProofs only[go_sem,seval];omega))
 have DB:=eq_true AV;have lb:sb.length=cells.length:=by rw[eb.1];simp
 have la:sa.length=cells.length:=by rw[ea.1];simp
 simp -dsimp -implicitDefEqProofs only[go_sem,seval,g22,DB]
 refine zaq 4503599358937600 D.length (fun q f1 h1 x1=>(f1 28).v=vi q/\(f1 9).v=vi ((i:Int)/ 2^zcD (pC cells) (D.take q))/\h1 (n0+2)=some (.rows 1 (zae (stM (pC cells) (D.take q) i sb)) false)/\(∀j,j≠n0+2->h1 j=h j)/\x<=x1) rfl
  ⟨by simp -dsimp -implicitDefEqProofs only[go_sem,seval],by simp -dsimp -implicitDefEqProofs only[go_sem,seval];simp[zcD],by simp -dsimp -implicitDefEqProofs only[go_sem,seval];exact Do,(fun j _=>rfl),by simp -dsimp -implicitDefEqProofs only[go_sem,seval];omega⟩ ?_
 rintro q f1 u1 h1 x1 bb1 hq ⟨g28,g9,A3,RJ,KA⟩;have Cj:=zan q (by omega)
 by_cases Ed:q<D.length
 ·have Si:=eq_true Ed;obtain⟨c,hc,BI⟩:=zai Ed;obtain⟨c0,y,hy,y1,y2⟩:=hD c BI;obtain⟨k1,k2,k3,k4,k5,k6⟩:=zH8 hD hc hy (i:Int) ⟨by omega,by omega⟩ sb;have FF:c.toNat<cells.length:=(zH.1 hy).1;have b1:(c<(cells.length:Int))=True:=eq_true (by omega);have B5:=zud (s:=stM (pC cells) (D.take q) i sb) (c:=c.toNat) (by rw[zlf,lb];exact FF);simp -dsimp -implicitDefEqProofs only[go_sem,seval,g28,g9,Si,hc,hy,c0,b1,A3,B5,k1,k2,k3,k4,k5,zuc,k6];refine⟨Ed,by simp -dsimp -implicitDefEqProofs only[go_sem,seval,Cj],by simp -dsimp -implicitDefEqProofs only[go_sem,seval],by simp -dsimp -implicitDefEqProofs only[go_sem,seval],fun j hj=> ?_,by simp -dsimp -implicitDefEqProofs only[go_sem,seval];omega⟩;simp only[zaC,zaA];rw[zaa,if_neg hj];exact RJ j hj
 have Si:=eq_false Ed;have:q=D.length:=by omega
 subst this;rw[List.take_length]at A3 g9;simp -dsimp -implicitDefEqProofs only[go_sem,seval,g28,Si]
 refine zaq 302231436889258784203264 N.length (fun q f2 h2 x2=>(f2 54).v=vi q/\(f2 9).v=vi ((i:Int)/ 2^zcD (pC cells) D/ 2^zcD (pC cells) (N.take q))/\h2 (n0+5)=some (.rows 1 (zae (stM (pC cells) (N.take q) ((i:Int)/ 2^zcD (pC cells) D) sa)) false)/\(∀j,j≠n0+5->h2 j=h1 j)/\x<=x2) rfl
  ⟨by simp -dsimp -implicitDefEqProofs only[go_sem,seval],by simp -dsimp -implicitDefEqProofs only[go_sem,seval,g9];simp[zcD],by simp -dsimp -implicitDefEqProofs only[go_sem,seval];rw[RJ _ (by omega)];exact Ew,(fun j _=>rfl),by simp -dsimp -implicitDefEqProofs only[go_sem,seval];omega⟩ ?_
 rintro q f2 u2 h2 x2 bb2 HN ⟨g54,g9b,AF,H1,ML⟩;have BO:=zan q (by omega)
 by_cases G3:q<N.length
 ·have Hi:=eq_true G3;obtain⟨c,hc,BI⟩:=zai G3;obtain⟨c0,y,hy,y1,y2⟩:=hN c BI;have Dq:0<=(i:Int)/ 2^zcD (pC cells) D:=Int.ediv_nonneg (by omega) (Int.le_of_lt (zcn _));have B8:(i:Int)/ 2^zcD (pC cells) D<=i:=Int.ediv_le_self _ (by omega);obtain⟨k1,k2,k3,k4,k5,k6⟩:=zH8 hN hc hy ((i:Int)/ 2^zcD (pC cells) D) ⟨by omega,by omega⟩ sa;have FF:c.toNat<cells.length:=(zH.1 hy).1;have b1:(c<(cells.length:Int))=True:=eq_true (by omega);have B5:=zud (s:=stM (pC cells) (N.take q) ((i:Int)/ 2^zcD (pC cells) D) sa) (c:=c.toNat) (by rw[zlf,la];exact FF);simp -dsimp -implicitDefEqProofs only[go_sem,seval,g54,g9b,Hi,hc,hy,c0,b1,AF,B5,k1,k2,k3,k4,k5,zuc,k6];refine⟨G3,by simp -dsimp -implicitDefEqProofs only[go_sem,seval,BO],by simp -dsimp -implicitDefEqProofs only[go_sem,seval],by simp -dsimp -implicitDefEqProofs only[go_sem,seval],fun j hj=> ?_,by simp -dsimp -implicitDefEqProofs only[go_sem,seval];omega⟩;simp only[zaC,zaA];rw[zaa,if_neg hj];exact H1 j hj
 have Hi:=eq_false G3;have:q=N.length:=by omega
 subst this;rw[List.take_length]at AF;simp -dsimp -implicitDefEqProofs only[go_sem,seval,g54,Hi];have eB:stM (pC cells) D i sb=zHd cells D i:=zHC eb;have eA:stM (pC cells) N ((i:Int)/ 2^zcD (pC cells) D) sa=zGY cells D N i:=zHC ea;have Sz:h2 (n0+2)=some (.rows 1 (zae (zHd cells D i)) false):=by rw[H1 _ (by omega),A3,eB]
 have S0:h2 (n0+5)=some (.rows 1 (zae (zGY cells D N i)) false):=by rw[AF,eA]
 have IG:Inv i h2 (x2+1+5):=A4 _ _ _ _ _ hI (fun j hj=>by rw[H1 j (by omega),RJ j (by omega)]) (by omega);obtain⟨cont,h',n',q1,q2,q3⟩:=Fe i AV h2 (x2+1+5) (n0+2) (n0+5) IG Sz S0 (by omega) (by omega) (by omega) (by omega);refine zas (P:=fun r RR n''=>r=vb cont/\RR=h'/\n''=n') ⟨_,h',n',q1,rfl,rfl,rfl⟩ ?_;rintro r RR n'' ⟨rfl,rfl,rfl⟩;cases cont
 ·simp -dsimp -implicitDefEqProofs only[go_sem,seval];exact .inr ⟨i,_,_,AV,SF _ _ _ _ _ _ q3 (by omega)⟩
 ·obtain⟨r1,r2,r3⟩:=q3;simp -dsimp -implicitDefEqProofs only[go_sem,seval,g22];refine⟨AV,by simp -dsimp -implicitDefEqProofs only[go_sem,seval,hw],A4 _ _ _ _ _ r1 (fun j _=>rfl) (by simp -dsimp -implicitDefEqProofs only[go_sem,seval];omega),by simp -dsimp -implicitDefEqProofs only[go_sem,seval];omega,_,_,r2.trans Sz,r3.trans S0,?_,?_⟩
  ·exact zI2 _ _ _ _
  ·exact zI2 _ _ _ _
end Rg
end
section
namespace Rg
open Go
noncomputable def envC:(Nat->Slot)->Nat->V:=(Classical.choice (⟨⟨fun sl t=>(sl t).v,rfl⟩⟩:Nonempty {g:(Nat->Slot)->Nat->V// g=fun sl t=>(sl t).v})).1
theorem zsV:envC=fun sl t=>(sl t).v:=(Classical.choice (⟨⟨fun sl t=>(sl t).v,rfl⟩⟩:Nonempty {g:(Nat->Slot)->Nat->V// g=fun sl t=>(sl t).v})).2
@[go_sem ↓]theorem zBO (sl:Nat->Slot) (t:Nat):envC sl t=(sl t).v:=by rw[zsV]
@[go_sem ↓]theorem zzA (f:Nat->V) (i j:Nat) (v:V):updC f i v j=pk (j==i) v (f j) ⟨0⟩:=by rw[zaL,zql];rfl
def zrK (env:Nat->V) (ps:List Nat) (vs:List V):Nat->Slot:=fun t=>⟨zhB env ps vs t,none,none⟩
noncomputable def rndS:(Nat->V)->List Nat->List V->Nat->Slot:=(Classical.choice (⟨⟨zrK,rfl⟩⟩:Nonempty {g:(Nat->V)->List Nat->List V->Nat->Slot// g=zrK})).1
theorem znO:rndS=zrK:=(Classical.choice (⟨⟨zrK,rfl⟩⟩:Nonempty {g:(Nat->V)->List Nat->List V->Nat->Slot// g=zrK})).2
@[go_sem ↓]theorem zzE (env:Nat->V) (t:Nat):(rndS env [] [] t).v=env t:=by rw[znO];rfl
@[go_sem ↓]theorem zyg (env:Nat->V) (p:Nat) (ps:List Nat) (v:V) (vs:List V) (t:Nat):(rndS env (p::ps) (v::vs) t).v=(rndS (updC env p v) ps vs t).v:=by rw[znO,zaL];rfl
section
variable {Γ:Nat->Option F} {G:Nat->List T}
def zBm (o:Option (V×(Nat->Option O)×Nat)) (k:Nat) (K:Ex->(Nat->Option O)->Nat->Prop) (_:WK K):Prop:=
 ∃r h' n',o=some (r,h',n')/\ ∃env ps bd st e,h' k=some (.loop env ps bd st)/\st.ends=some e/\K e (updC h' k (some .dead)) n'
@[go_sem ↓]theorem zAZ (x:Opd) (ps:List Nat) (bd:C) (Q:Ex->M->Prop) (sl:Nat->Slot) (u:Nat->Bool) (h:Nat->Option O) (n b:Nat) (w:W3 (.rangeF x ps bd) Q ⟨sl,u,h,n,b⟩):
 wC Γ G (.rangeF x ps bd) Q ⟨sl,u,h,n,b⟩ w=fnK (zaW G sl x) (fun g a c=>zBm (DenR Γ G g (a++[V.yl n]++c) (updC h n (some (.loop (envC sl) ps bd .ready))) (n+1)) n (fun e h' n'=>Q e ⟨sl,u,h',n',b⟩) ⟨0⟩) ⟨0⟩:=by
 unfold wC;rw[zbS,zaL,zsV];simp only[wpC,za2]
 cases zaW G sl x with
 | none=>rfl
 | some v=>
   simp only[zD,fnK]
   cases zfC v with
   | none=>rfl
   | some q=>
     obtain⟨g,a,c⟩:=q;simp only[zBm,zaL];apply propext;constructor
     ·rintro⟨r,h',n',hc,_,env',ps',bd',st,e,hl,he,hQ⟩;exact⟨r,h',n',zcI.2 hc,env',ps',bd',st,e,hl,he,hQ⟩
     ·rintro⟨r,h',n',hc,env',ps',bd',st,e,hl,he,hQ⟩;exact⟨r,h',n',zcI.1 hc,zxp (zcI.1 hc),env',ps',bd',st,e,hl,he,hQ⟩
theorem znN {o:Option (V×(Nat->Option O)×Nat)} {k:Nat} {K:Ex->(Nat->Option O)->Nat->Prop} {w:WK K} {P:Ex->(Nat->Option O)->Nat->Prop}
 (h: ∃r h' n',o=some (r,h',n')/\ ∃env ps bd st e,h' k=some (.loop env ps bd st)/\st.ends=some e/\P e h' n') (hk: ∀e h' n',P e h' n'->K e (updC h' k (some .dead)) n'):zBm o k K w:=by
 obtain⟨r,h',n',e1,env,ps,bd,st,e,e2,e3,hp⟩:=h;exact⟨r,h',n',e1,env,ps,bd,st,e,e2,e3,hk e h' n' hp⟩
def FiY (P:Ex->(Nat->Option O)->Nat->Prop) (e:Ex) (m:M):Prop:=P e m.heap m.nxt
@[go_sem ↓]theorem zCV (P:Ex->(Nat->Option O)->Nat->Prop) (e:Ex) (sl:Nat->Slot) (u:Nat->Bool) (h:Nat->Option O) (n b:Nat):FiY P e ⟨sl,u,h,n,b⟩=SpN (P e h n) ⟨0⟩:=rfl
def zy2 (o:Option O) (K:(Nat->V)->List Nat->C->Prop) (_:WK K):Prop:=match o with
 | some (.loop env ps bd .enter)=>K env ps bd
 | _=>False
@[go_sem]theorem zy1 (env:Nat->V) (ps:List Nat) (bd:C) (K:(Nat->V)->List Nat->C->Prop) (w:WK K):zy2 (some (.loop env ps bd .enter)) K w=K env ps bd:=rfl
variable (Γ G) in
def FiA (k:Nat) (cb:C) (Q:Ex->M->Prop):Ex->M->Prop
 | .normal,m=>zy2 (m.heap k) (fun env ps bd=>wC Γ G cb Q ⟨m.sl,m.used,updC m.heap k (some (.loop env ps bd .busy)),m.nxt,m.bas⟩ ⟨0⟩) ⟨0⟩
 | _,_=>False
@[go_sem ↓]theorem zCW (k:Nat) (cb:C) (Q:Ex->M->Prop) (sl:Nat->Slot) (u:Nat->Bool) (h:Nat->Option O) (n b:Nat):
 FiA Γ G k cb Q .normal ⟨sl,u,h,n,b⟩=zy2 (h k) (fun env ps bd=>wC Γ G cb Q ⟨sl,u,updC h k (some (.loop env ps bd .busy)),n,b⟩ ⟨0⟩) ⟨0⟩:=rfl
theorem zjy {k:Nat} {vs:List V} {h:Nat->Option O} {n:Nat} {env:Nat->V} {ps:List Nat} {ca cb:C} {P:Ex->(Nat->Option O)->Nat->Prop} (hk:h k=some (.loop env ps (.round ca cb) .ready)) (hl:vs.length=ps.length)
 (hb: ∀e h' n',P e h' n'-> ∃env' ps' bd',h' k=some (.loop env' ps' bd' .busy))
 (hw:wC Γ G ca (qOf Γ G [] (FiA Γ G k cb (qOf Γ G [] (FiY P)))) ⟨rndS env ps vs,fun _=>false,updC h k (some (.loop env ps (.round ca cb) .enter)),n,n⟩ ⟨0⟩):
 ∃e h' n',P e h' n'/\ ∃env' ps' bd',h' k=some (.loop env' ps' bd' .busy)/\DenY Γ G k vs h n=some (.t (.bool (decide (e=Ex.normal))),updC h' k (some (.loop env' ps' bd' e.toL)),n'):=by
 unfold wC at hw;rw[zbS,zcz,znO,zaL]at hw;obtain⟨e0,m1,hA,hF⟩:=zq7 hw
 cases e0 with
 | exit id=>exact hF.elim
 | ret=>exact hF.elim
 | normal=>
   have K2:zy2 (m1.heap k) (fun env ps bd=>wC Γ G cb (zqi Γ G [] (FiY P)) ⟨m1.sl,m1.used,updC m1.heap k (some (.loop env ps bd .busy)),m1.nxt,m1.bas⟩ ⟨0⟩) ⟨0⟩:=by
    exact hF
   unfold zy2 at K2;split at K2
   ·rename_i env1 ps1 bd1 A3;unfold wC at K2;rw[zbS,zaL]at K2;obtain⟨e,m',hB,hP⟩:=zq7 K2;obtain⟨env',ps',bd',Ah⟩:=hb _ _ _ hP;refine⟨e,m'.heap,m'.nxt,hP,env',ps',bd',Ah,zlM.2 ⟨env,ps,ca,cb,m1.st,env1,ps1,bd1,env',ps',bd',e,m'.st,hk,hl,hA,A3,hB,Ah,rfl,by rw[zaL];rfl,rfl⟩⟩
   ·exact K2.elim
end
end Rg
end
section
namespace Rg
open Go
def zGx (a b:Expr) (o m:List Int):Bool:=decide (a.eval o m=1)&&decide (b.eval o m=0)
def zKu (a b:Expr):List T:=[.str (bs []),ti 0,ti 0,ti 0,ti 0,ti 0,ti a.op,ti a.w,ti a.n,.sl (a.kids.map Expr.enc),ti b.op,ti b.w,ti b.n,.sl (b.kids.map Expr.enc)]
theorem zIz (a b:Expr) (o m:List Int):Den Γ G 553 [.t (ints o),.t (ints m),.t (.ip (zKu a b))]=some (vb (zGx a b o m)):=by
 have e1:=zd4 a o m;have e2:=zd4 b o m;unfold zKu zGx
 (refine zag Γ553 rfl ?_;dsimp only[zLh])
 by_cases c1:a.eval o m=1
 ·have c1':=eq_true c1
  by_cases c2:b.eval o m=0
  ·have c2':=eq_true c2;simp -dsimp -implicitDefEqProofs only[go_sem,seval,e1,e2,c1',c2']
  ·have c2':=eq_false c2;simp -dsimp -implicitDefEqProofs only[go_sem,seval,e1,e2,c1',c2']
 ·have c1':=eq_false c1;simp -dsimp -implicitDefEqProofs only[go_sem,seval,e1,e2,c1'];rfl
theorem zI7 (cells:List Cell) (D N:List Int) (B:Int):Den Γ G 554 [.t (.sl (cells.map Cell.enc)),.t (ints D),.t (ints N),vi B]=
 some (.t (.fn 584 [] [.ip [.sl (cells.map Cell.enc)],.ip [ti B],.ip [ints D],.ip [ints N]])):=by
 (refine zag Γ554 rfl ?_;dsimp only[zLg])
 simp -dsimp -implicitDefEqProofs only[go_sem,seval]
theorem neK {h:Nat->Option O} {k k':Nat} {o o':O} (h1:h k=some o) (h2:h k'=some o') (ho:o≠o'):k≠k':=by
 rintro rfl;rw[h1]at h2;exact ho (Option.some.inj h2)
structure DK where
 ky:Nat
 k3:Nat
 k4:Nat
 k5:Nat
 k6:Nat
 k7:Nat
 kf:Nat
structure DI (K:DK) (env:Nat->V) (a b:Expr) (h:Nat->Option O):Prop where
 hk:h K.ky=some (.loop env [76,77] zHe .ready)
 h3:h K.k3=some (.rows 14 [(zKu a b).map V.t] false)
 hf:h K.kf=some (.rows 1 [[.fn 553 [] [.mp K.k3 0 0]]] false)
 h4: ∃y,h K.k4=some (.rows 1 [[y]] false)
 h5: ∃y,h K.k5=some (.rows 1 [[y]] false)
 h6: ∃y,h K.k6=some (.rows 1 [[y]] false)
 h7: ∃y,h K.k7=some (.rows 1 [[y]] false)
structure DE (K:DK) (env:Nat->V):Prop where
 ef:env 17= .mp K.kf 0 0
 e4:env 4= .mp K.k4 0 0
 e5:env 5= .mp K.k5 0 0
 e6:env 6= .mp K.k6 0 0
 e7:env 7= .mp K.k7 0 0
 n45:K.k4≠K.k5
 n46:K.k4≠K.k6
 n47:K.k4≠K.k7
 n56:K.k5≠K.k6
 n57:K.k5≠K.k7
 n67:K.k6≠K.k7
theorem zKi {K:DK} {env:Nat->V} {a b:Expr} {h:Nat->Option O} {n kb ka:Nat} {o m:List Int} (E:DE K env) (I:DI K env a b h) (hb:h kb=some (.rows 1 (zae o) false)) (ha:h ka=some (.rows 1 (zae m) false)) (hf:zGx a b o m=false):
 ∃h' n',DenY Γ G K.ky [.ms kb 0 o.length,.ms ka 0 m.length] h n=some (vb true,h',n')/\(∀j,h' j=h j)/\n<=n':=by
 have:=zjy (Γ:=Γ) (G:=G) (vs:=[.ms kb 0 o.length,.ms ka 0 m.length]) (n:=n) (P:=fun ex h' n'=>ex= .normal/\h' K.ky=some (.loop env [76,77] zHe .busy)/\(∀j,j≠K.ky->h' j=h j)/\n<=n') I.hk rfl (fun ex h' n' hP=>⟨_,_,_,hP.2.1⟩) (by
  have nf:K.kf≠K.ky:=neK I.hf I.hk (by simp);have n3:K.k3≠K.ky:=neK I.h3 I.hk (by simp);have nb:kb≠K.ky:=neK hb I.hk (by simp);have na:ka≠K.ky:=neK ha I.hk (by simp);have t1: ∀x1 x2,toT1 (updC (updC h K.ky x1) K.ky x2) (.ms kb 0 o.length)=some (.t (ints o)):=fun x1 x2=>zp6 (fz:=false) (by rw[zaa,if_neg nb,zaa,if_neg nb];exact hb) rfl
  have t2: ∀x1 x2,toT1 (updC (updC h K.ky x1) K.ky x2) (.ms ka 0 m.length)=some (.t (ints m)):=fun x1 x2=>zp6 (fz:=false) (by rw[zaa,if_neg na,zaa,if_neg na];exact ha) rfl
  have t3: ∀x1 x2,toT1 (updC (updC h K.ky x1) K.ky x2) (.mp K.k3 0 0)=some (.t (.ip (zKu a b))):=fun x1 x2=>by
   simp only[toT1,toT];rw[zaa,if_neg n3,zaa,if_neg n3,I.h3];rfl
  have fd:=zIz a b o m;rw[hf]at fd;have e1:=E.ef;have h1:=I.hf;simp -dsimp -implicitDefEqProofs only[go_sem,seval,e1,h1,nf,↓t1,↓t2,↓t3,fd]
  refine⟨rfl,by rw[zaa,if_pos rfl];rfl,fun j hj=>by rw[zaa,if_neg hj,zaa,if_neg hj],by simp -dsimp -implicitDefEqProofs only[go_sem,seval];omega⟩)
 obtain⟨ex,h',n',⟨rfl,q1,q2,q3⟩,env',ps',bd',q6,q7⟩:=this;rw[q1]at q6;simp only[zA,O.loop.injEq]at q6;obtain⟨rfl,rfl,rfl,_⟩:=q6;refine⟨_,n',q7,fun j=> ?_,q3⟩;rw[zaa];split
 ·rename_i e;subst e;exact I.hk.symm
 ·exact q2 j ‹_›
theorem zKh {K:DK} {env:Nat->V} {a b:Expr} {h:Nat->Option O} {n kb ka:Nat} {o m:List Int} (E:DE K env) (I:DI K env a b h) (hb:h kb=some (.rows 1 (zae o) false)) (ha:h ka=some (.rows 1 (zae m) false)) (hf:zGx a b o m=true):
 ∃h' n',DenY Γ G K.ky [.ms kb 0 o.length,.ms ka 0 m.length] h n=some (vb false,h',n')/\(h' K.ky=some (.loop env [76,77] zHe (.done .ret))/\h' K.k4=some (.rows 1 [[vi 2]] false)/\h' K.k5=some (.rows 1 [[.ms kb 0 o.length]] false)/\
  h' K.k6=some (.rows 1 [[.ms ka 0 m.length]] false)/\h' K.k7=some (.rows 1 [[vi 0]] false)/\ ∀j,j≠K.ky->j≠K.k4->j≠K.k5->j≠K.k6->j≠K.k7->h' j=h j)/\n<=n':=by
 have n4:K.k4≠K.ky:=by obtain⟨y,hy⟩:=I.h4;exact neK hy I.hk (by simp)
 have n5:K.k5≠K.ky:=by obtain⟨y,hy⟩:=I.h5;exact neK hy I.hk (by simp)
 have n6:K.k6≠K.ky:=by obtain⟨y,hy⟩:=I.h6;exact neK hy I.hk (by simp)
 have n7:K.k7≠K.ky:=by obtain⟨y,hy⟩:=I.h7;exact neK hy I.hk (by simp)
 have:=zjy (Γ:=Γ) (G:=G) (vs:=[.ms kb 0 o.length,.ms ka 0 m.length]) (n:=n) (P:=fun ex h' n'=>ex= .ret/\h' K.ky=some (.loop env [76,77] zHe .busy)/\(h' K.k4=some (.rows 1 [[vi 2]] false)/\h' K.k5=some (.rows 1 [[.ms kb 0 o.length]] false)/\
  h' K.k6=some (.rows 1 [[.ms ka 0 m.length]] false)/\h' K.k7=some (.rows 1 [[vi 0]] false)/\ ∀j,j≠K.ky->j≠K.k4->j≠K.k5->j≠K.k6->j≠K.k7->h' j=h j)/\n<=n') I.hk rfl (fun ex h' n' hP=>⟨_,_,_,hP.2.1⟩) (by
  have nf:K.kf≠K.ky:=neK I.hf I.hk (by simp);have n3:K.k3≠K.ky:=neK I.h3 I.hk (by simp);have nb:kb≠K.ky:=neK hb I.hk (by simp);have na:ka≠K.ky:=neK ha I.hk (by simp);have t1: ∀x1 x2,toT1 (updC (updC h K.ky x1) K.ky x2) (.ms kb 0 o.length)=some (.t (ints o)):=fun x1 x2=>zp6 (fz:=false) (by rw[zaa,if_neg nb,zaa,if_neg nb];exact hb) rfl
  have t2: ∀x1 x2,toT1 (updC (updC h K.ky x1) K.ky x2) (.ms ka 0 m.length)=some (.t (ints m)):=fun x1 x2=>zp6 (fz:=false) (by rw[zaa,if_neg na,zaa,if_neg na];exact ha) rfl
  have t3: ∀x1 x2,toT1 (updC (updC h K.ky x1) K.ky x2) (.mp K.k3 0 0)=some (.t (.ip (zKu a b))):=fun x1 x2=>by
   simp only[toT1,toT];rw[zaa,if_neg n3,zaa,if_neg n3,I.h3];rfl
  have fd:=zIz a b o m;rw[hf]at fd;have e1:=E.ef;have e4:=E.e4;have e5:=E.e5;have e6:=E.e6;have e7:=E.e7;have h1:=I.hf;obtain⟨y4,h4⟩:=I.h4;obtain⟨y5,h5⟩:=I.h5;obtain⟨y6,h6⟩:=I.h6;obtain⟨y7,h7⟩:=I.h7;have z1:=E.n45;have z2:=E.n46;have z3:=E.n47;have z4:=E.n56;have z5:=E.n57;have z6:=E.n67;simp -dsimp -implicitDefEqProofs only[go_sem,seval,e1,e4,e5,e6,e7,h1,h4,h5,h6,h7,n4,n5,n6,n7,z1,z2,z3,z4,z5,z6,z1.symm,z2.symm,z3.symm,z4.symm,z5.symm,z6.symm,nf,↓t1,↓t2,↓t3,fd];have w1:=n4.symm;have w2:=n5.symm;have w3:=n6.symm;have w4:=n7.symm;have z1':=z1.symm;have z2':=z2.symm;have z3':=z3.symm;have z4':=z4.symm;have z5':=z5.symm;have z6':=z6.symm;refine⟨rfl,?_,⟨?_,?_,?_,?_,fun j j0 j4 j5 j6 j7=> ?_⟩,by simp -dsimp -implicitDefEqProofs only[go_sem,seval];omega⟩
  all_goals(simp only[zaC,zaA,zaa, *,if_true,if_false];try rfl))
 obtain⟨ex,h',n',⟨rfl,q1,⟨r4,r5,r6,r7,rj⟩,q3⟩,env',ps',bd',q6,q7⟩:=this;rw[q1]at q6;simp only[zA,O.loop.injEq]at q6;obtain⟨rfl,rfl,rfl,_⟩:=q6;refine⟨_,n',q7,⟨by rw[zaa,if_pos rfl];rfl,by rw[zaa,if_neg n4];exact r4,by rw[zaa,if_neg n5];exact r5,by rw[zaa,if_neg n6];exact r6,by rw[zaa,if_neg n7];exact r7,fun j j0 j4 j5 j6 j7=>by rw[zaa,if_neg j0];exact rj j j0 j4 j5 j6 j7⟩,q3⟩
theorem zKk (K:DK) {env:Nat->V} {a b:Expr} {cells:List Cell} {D N:List Int} {B:Nat} {H:Nat->Option O} {C:Ex->(Nat->Option O)->Nat->Prop} {w:WK C} (By:cells.length<=2^20) (hD:WOk cells D) (hN:WOk cells N) (SQ:D.length<=2^20) (SP:N.length<=2^20)
 (hB:zcD (pC cells) D+zcD (pC cells) N=B) (SR:B<=14)
 (hk:H K.ky=some (.loop env [76,77] zHe .ready)) (ef:env 17= .mp K.kf 0 0) (e4:env 4= .mp K.k4 0 0) (e5:env 5= .mp K.k5 0 0) (e6:env 6= .mp K.k6 0 0) (e7:env 7= .mp K.k7 0 0)
 (ne:K.k4≠K.k5/\K.k4≠K.k6/\K.k4≠K.k7/\K.k5≠K.k6/\K.k5≠K.k7/\K.k6≠K.k7)
 (h3:H K.k3=some (.rows 14 [(zKu a b).map V.t] false)) (hf:H K.kf=some (.rows 1 [[.fn 553 [] [.mp K.k3 0 0]]] false)) (h4: ∃y,H K.k4=some (.rows 1 [[y]] false)) (h5: ∃y,H K.k5=some (.rows 1 [[y]] false)) (h6: ∃y,H K.k6=some (.rows 1 [[y]] false)) (h7: ∃y,H K.k7=some (.rows 1 [[y]] false))
 (bd:K.k3<=K.ky/\K.k4<=K.ky/\K.k5<=K.ky/\K.k6<=K.ky/\K.k7<=K.ky/\K.kf<=K.ky)
 (hC: ∀h' n',((∀j,j<2^B->zGx a b (zHd cells D j) (zGY cells D N j)=false)->DI K env a b h'->C .normal (updC h' K.ky (some .dead)) n')/\
   (∀i kb ka,i<2^B->(∀j,j<i->zGx a b (zHd cells D j) (zGY cells D N j)=false)->zGx a b (zHd cells D i) (zGY cells D N i)=true->h' K.k4=some (.rows 1 [[vi 2]] false)->h' K.k5=some (.rows 1 [[.ms kb 0 cells.length]] false)->
     h' K.k6=some (.rows 1 [[.ms ka 0 cells.length]] false)->h' K.k7=some (.rows 1 [[vi 0]] false)->h' kb=some (.rows 1 (zae (zHd cells D i)) false)->h' ka=some (.rows 1 (zae (zGY cells D N i)) false)->K.ky<kb->K.ky<ka->C .ret (updC h' K.ky (some .dead)) n')):
 zBm (DenR Γ G 584 [.yl K.ky,.t (.ip [.sl (cells.map Cell.enc)]),.t (.ip [ti B]),.t (.ip [ints D]),.t (.ip [ints N])] H (K.ky+1)) K.ky C w:=by
 subst hB;obtain⟨b3,b4,b5,b6,b7,bf⟩:=bd;obtain⟨z1,z2,z3,z4,z5,z6⟩:=ne;have E:DE K env:=⟨ef,e4,e5,e6,e7,z1,z2,z3,z4,z5,z6⟩
 have lb: ∀i,(zHd cells D i).length=cells.length:=fun i=>by rw[zHd,zlf];simp
 have la: ∀i,(zGY cells D N i).length=cells.length:=fun i=>by rw[zGY,zlf];simp
 obtain⟨r,h',n',q1,q2⟩:=zIQ cells By D N hD hN SQ SP SR K.ky (K.ky+1)
  (fun i h n=>DI K env a b h/\ ∀j,j<i->zGx a b (zHd cells D j) (zGY cells D N j)=false)
  (fun i h n kb ka=>(∀j,j<i->zGx a b (zHd cells D j) (zGY cells D N j)=false)/\zGx a b (zHd cells D i) (zGY cells D N i)=true/\h K.ky=some (.loop env [76,77] zHe (.done .ret))/\h K.k4=some (.rows 1 [[vi 2]] false)/\h K.k5=some (.rows 1 [[.ms kb 0 cells.length]] false)/\
    h K.k6=some (.rows 1 [[.ms ka 0 cells.length]] false)/\h K.k7=some (.rows 1 [[vi 0]] false)/\h kb=some (.rows 1 (zae (zHd cells D i)) false)/\h ka=some (.rows 1 (zae (zGY cells D N i)) false)/\K.ky<kb/\K.ky<ka)
  (by
    rintro i h n h' n' ⟨I,hj⟩ hh _;obtain⟨y4,i4⟩:=I.h4;obtain⟨y5,i5⟩:=I.h5;obtain⟨y6,i6⟩:=I.h6;obtain⟨y7,i7⟩:=I.h7
    exact⟨⟨by rw[hh _ (by omega)];exact I.hk,by rw[hh _ (by omega)];exact I.h3,by rw[hh _ (by omega)];exact I.hf,⟨y4,by rw[hh _ (by omega)];exact i4⟩,⟨y5,by rw[hh _ (by omega)];exact i5⟩,⟨y6,by rw[hh _ (by omega)];exact i6⟩,⟨y7,by rw[hh _ (by omega)];exact i7⟩⟩,hj⟩)
  (fun i h n n' kb ka h1 _=>h1)
  (by
    rintro i hi h n kb ka ⟨I,hj⟩ hb ha k1 k2 k3 k4;cases H5:zGx a b (zHd cells D i) (zGY cells D N i)
    ·obtain⟨h',n',d1,d2,d3⟩:=zKi (n:=n) E I hb ha H5;rw[lb,la]at d1;have dh:h'=h:=funext d2;subst dh
     exact⟨true,h',n',d1,d3,⟨I,fun j Dp=>by
      rcases Nat.lt_or_ge j i with h1 | h1
      ·exact hj j h1
      ·obtain rfl:j=i:=by omega
       exact H5⟩,rfl,rfl⟩
    ·obtain⟨h',n',d1,⟨d2,d3,d4,d5,d6,d7⟩,d8⟩:=zKh (n:=n) E I hb ha H5;rw[lb]at d1 d4;rw[la]at d1 d5
     exact⟨false,h',n',d1,d8,hj,rfl,d2,d3,d4,d5,d6,by rw[d7 kb (by omega) (by omega) (by omega) (by omega) (by omega)];exact hb,by rw[d7 ka (by omega) (by omega) (by omega) (by omega) (by omega)];exact ha,by omega,by omega⟩)
  H ⟨⟨hk,h3,hf,h4,h5,h6,h7⟩,fun j hj=>by omega⟩
 rcases q2 with⟨I,hj⟩ | ⟨i,kb,ka,hi,hj,H5,d2,d3,d4,d5,d6,d7,d8,d9,d10⟩
 ·refine znN (P:=fun e h n=>e= .normal/\h=h'/\n=n') ⟨r,h',n',q1,_,_,_,_,_,I.hk,rfl,rfl,rfl,rfl⟩ ?_;rintro _ _ _ ⟨rfl,rfl,rfl⟩;exact(hC _ _).1 hj I
 ·refine znN (P:=fun e h n=>e= .ret/\h=h'/\n=n') ⟨r,h',n',q1,_,_,_,_,_,d2,rfl,rfl,rfl,rfl⟩ ?_;rintro _ _ _ ⟨rfl,rfl,rfl⟩;exact(hC _ _).2 i kb ka hi hj H5 d3 d4 d5 d6 d7 d8 d9 d10
theorem zGy {cells:List Cell} {e:Expr} {pair:Bool} (h:e.valid cells pair=true) {op:Int} (Ao:op=2\/op=3):WOk cells (e.sup op):=by
 intro c hc;obtain⟨h0,hf,x,hx,h1,h2⟩:=zrn hc;refine⟨h0,?_⟩;have hn:=zIf (zcp hf) hx;unfold Expr.valid at h;rw[hf,Bool.true_and,zvP (fun x=>zje cells pair) 40 e (zcp hf)]at h;have:=zN.1 h x hx;unfold zb3 at this;split at this
 ·cases this
 rw[if_pos (by rcases Ao with rfl | rfl<;>simp[h1])]at this;rw[h2]at this;split at this
 ·rename_i y hy;refine⟨y,hy,?_⟩
  have hw:1<=x.w/\x.w<=8:=by
   unfold zbk at hn;split at hn
   ·cases hn
   ·rename_i hh;omega
  have:y.w=x.w:=by simpa using this
  omega
 ·cases this
theorem zIg {cells:List Cell} {e:Expr} (h:zb3 cells false e=true):zb3 cells true e=true:=by
 unfold zb3 at h⊢;split at h
 ·cases h
 ·rename_i h3;rw[if_neg (by simp)];exact h
theorem zHl {cells:List Cell} {e:Expr} (h:e.valid cells false=true):e.valid cells true=true:=by
 unfold Expr.valid at h⊢;simp only[zF]at h⊢;refine⟨h.1,?_⟩;have h2:=h.2;rw[zvP (fun x=>zje cells false) 40 e (zcp h.1)]at h2;rw[zvP (fun x=>zje cells true) 40 e (zcp h.1)];exact zN.2 fun x hx=>zIg (zN.1 h2 x hx)
theorem zHk {cells:List Cell} {e:Expr} (h:e.valid cells false=true):e.sup 3=[]:=by
 cases hs:e.sup 3 with
 | nil=>rfl
 | cons c r=>
   exfalso;obtain⟨h0,hf,x,hx,h1,h2⟩:=zrn (e:=e) (op:=3) (c:=c) (by rw[hs];simp);obtain⟨_,_,h3⟩:=zHy h hx;omega
theorem WOk.un {cells:List Cell} {a b:List Int} (ha:WOk cells a) (hb:WOk cells b):WOk cells (unL a b):=fun c hc=>by
 rw[unL,ziF,List.mem_append]at hc;exact hc.elim (ha c) (hb c)
def zLI (cells:List Cell) (a b:Expr):V:=
 match(List.range (2^(zcD (pC cells) (unL (a.sup 3) (b.sup 3))+zcD (pC cells) (unL (a.sup 2) (b.sup 2))))).find? fun n=>zGx a b (zHd cells (unL (a.sup 3) (b.sup 3)) n) (zGY cells (unL (a.sup 3) (b.sup 3)) (unL (a.sup 2) (b.sup 2)) n)with
 | none=> .tup [vi 1,.t (ints []),.t (ints []),vi 0]
 | some n=> .tup [vi 2,.t (ints (zHd cells (unL (a.sup 3) (b.sup 3)) n)),.t (ints (zGY cells (unL (a.sup 3) (b.sup 3)) (unL (a.sup 2) (b.sup 2)) n)),vi 0]
structure HF (a b:Expr) (D N:List Int) (h:Nat->Option O):Prop where
 h0:h 0=some (.rows 14 [(zKu a b).map V.t] false)
 h1:h 1=some (.rows 1 [[vi 0]] false)
 h2:h 2=some (.rows 1 [[.t .nils]] false)
 h3:h 3=some (.rows 1 [[.t .nils]] false)
 h4:h 4=some (.rows 1 [[vi 0]] false)
 h55:h 55=some (.rows 1 [[.t (ints D)],[.t (ints N)]] false)
theorem zIa (p:Prog) (l:List Int) (i:Nat):zcD p (l.take i)<=zcD p l:=by
 have:zcD p l=zcD p (l.take i)+zcD p (l.drop i):=by
  rw[zcD,zcD,zcD,<- List.sum_append,<- List.map_append,List.take_append_drop]
 omega
set_option maxRecDepth 10000
theorem zHt (cells:List Cell) (By:cells.length<=2^20) (a b:Expr) (ha:a.valid cells true=true) (hb:b.valid cells true=true) (aw:a.w=1) (bw:b.w=1)
 (LP:zcD (pC cells) (unL (a.sup 3) (b.sup 3))+zcD (pC cells) (unL (a.sup 2) (b.sup 2))<=14):
 Den Γ G 518 [.t (.sl (cells.map Cell.enc)),zKB a b]=some (zLI cells a b):=by
 have a1:=zfS a cells true;have a2:=zfS b cells true;rw[ha]at a1;rw[hb]at a2;have sc:=zHA a b;have hD:WOk cells (unL (a.sup 3) (b.sup 3)):=(zGy ha (.inr rfl)).un (zGy hb (.inr rfl));have hN:WOk cells (unL (a.sup 2) (b.sup 2)):=(zGy ha (.inl rfl)).un (zGy hb (.inl rfl))
 have SQ:(unL (a.sup 3) (b.sup 3)).length<=64:=by
  have h1:=znG (a.sup 3++b.sup 3);have h2:=zfp 3 a;have h3:=zfp 3 b;rw[zM]at h1;rw[unL];omega
 have SP:(unL (a.sup 2) (b.sup 2)).length<=64:=by
  have h1:=znG (a.sup 2++b.sup 2);have h2:=zfp 2 a;have h3:=zfp 2 b;rw[zM]at h1;rw[unL];omega
 unfold zLI
 generalize unL (a.sup 3) (b.sup 3)=D at *
 generalize unL (a.sup 2) (b.sup 2)=N at *
 unfold zKB at sc⊢;have Bb:(cells.map Cell.enc).length=cells.length:=by simp
 have aw':=eq_true aw;have bw':=eq_true bw
 (refine zag Γ518 rfl ?_;dsimp only[zLy])
 simp -dsimp -implicitDefEqProofs only[go_sem,seval];refine zaD ?_;simp -dsimp -implicitDefEqProofs only[go_sem,seval,aw',a1];refine zaD ?_;simp -dsimp -implicitDefEqProofs only[go_sem,seval,bw',a2];refine zaD ?_;simp -dsimp -implicitDefEqProofs only[go_sem,seval,sc];refine zaD ?_;simp -dsimp -implicitDefEqProofs only[go_sem,seval];refine zaq 147537923792657518592 D.length (fun q f h x=>(f 55).v=vi q/\(f 12).v=vi (zcD (pC cells) (D.take q):Nat)/\HF a b D N h/\56<=x) rfl ⟨by simp -dsimp -implicitDefEqProofs only[go_sem,seval],by(try simp -dsimp -implicitDefEqProofs only[go_sem,seval]);(try rfl),⟨?_,?_,?_,?_,?_,?_⟩,by(try simp -dsimp -implicitDefEqProofs only[go_sem,seval]);(try omega)⟩ ?_
 ·simp only[zaC,zaA];(repeat(first | rw[zaa,if_pos rfl] | rw[zaa,if_neg (by omega)]));(try rfl)
 ·simp only[zaC,zaA];(repeat(first | rw[zaa,if_pos rfl] | rw[zaa,if_neg (by omega)]));(try rfl)
 ·simp only[zaC,zaA];(repeat(first | rw[zaa,if_pos rfl] | rw[zaa,if_neg (by omega)]));(try rfl)
 ·simp only[zaC,zaA];(repeat(first | rw[zaa,if_pos rfl] | rw[zaa,if_neg (by omega)]));(try rfl)
 ·simp only[zaC,zaA];(repeat(first | rw[zaa,if_pos rfl] | rw[zaa,if_neg (by omega)]));(try rfl)
 ·simp only[zaC,zaA];(repeat(first | rw[zaa,if_pos rfl] | rw[zaa,if_neg (by omega)]));(try rfl)
 rintro q f u h x bb hq ⟨g55,g12,hF,hx⟩;have Cj:=zan q (by omega)
 by_cases Ed:q<D.length
 ·have Si:=eq_true Ed;obtain⟨c,hc,BI⟩:=zai Ed;obtain⟨c0,y,hy,y1,y2⟩:=hD c BI;obtain⟨w1,w2,w3⟩:=hD.wOf BI hy;have ht:=zIa (pC cells) D q
  have k1:IntKind.i64.wrap ((zcD (pC cells) (D.take q):Int)+y.w)=((zcD (pC cells) (D.take (q+1)):Nat):Int):=by
   rw[zaf hc,zhF,zaH (by omega)];omega
  simp -dsimp -implicitDefEqProofs only[go_sem,seval,g55,g12,Si,hc,hy,c0,k1];exact⟨Ed,by simp -dsimp -implicitDefEqProofs only[go_sem,seval,Cj],by simp -dsimp -implicitDefEqProofs only[go_sem,seval],hF,by simp -dsimp -implicitDefEqProofs only[go_sem,seval];omega⟩
 have Si:=eq_false Ed;have:q=D.length:=by omega
 subst this;rw[List.take_length]at g12;have h55:=hF.h55;simp -dsimp -implicitDefEqProofs only[go_sem,seval,g55,Si];refine zaD ?_;simp -dsimp -implicitDefEqProofs only[go_sem,seval,h55];refine zaq 147537923792657518592 N.length (fun q f h x=>(f 55).v=vi q/\(f 12).v=vi (zcD (pC cells) D+zcD (pC cells) (N.take q):Nat)/\HF a b D N h/\56<=x) rfl ⟨by simp -dsimp -implicitDefEqProofs only[go_sem,seval],by(try simp -dsimp -implicitDefEqProofs only[go_sem,seval,g12]);(try rfl),hF,by simp -dsimp -implicitDefEqProofs only[go_sem,seval];omega⟩ ?_;rintro q f1 u1 h1 x1 bb1 Iz ⟨g55b,g12b,Rn,KA⟩;have BO:=zan q (by omega)
 by_cases G3:q<N.length
 ·have Si:=eq_true G3;obtain⟨c,hc,BI⟩:=zai G3;obtain⟨c0,y,hy,y1,y2⟩:=hN c BI;obtain⟨w1,w2,w3⟩:=hN.wOf BI hy;have ht:=zIa (pC cells) N q
  have k1:IntKind.i64.wrap (((zcD (pC cells) D+zcD (pC cells) (N.take q):Nat):Int)+y.w)=((zcD (pC cells) D+zcD (pC cells) (N.take (q+1)):Nat):Int):=by
   rw[zaf hc,zhF,zaH (by omega)];omega
  simp -dsimp -implicitDefEqProofs only[go_sem,seval,g55b,g12b,Si,hc,hy,c0,k1];exact⟨G3,by simp -dsimp -implicitDefEqProofs only[go_sem,seval,BO],by simp -dsimp -implicitDefEqProofs only[go_sem,seval],Rn,by simp -dsimp -implicitDefEqProofs only[go_sem,seval];omega⟩
 have Hi:=eq_false G3;have:q=N.length:=by omega
 subst this;rw[List.take_length]at g12b;simp -dsimp -implicitDefEqProofs only[go_sem,seval,g55b,Hi];refine zaD ?_
 generalize hB:zcD (pC cells) D+zcD (pC cells) N=B at *
 have b14:((B:Int)>14)=False:=eq_false (by omega);have pd:=zI7 cells D N (B:Int);simp -dsimp -implicitDefEqProofs only[go_sem,seval,g12b,b14,pd]
 refine zKk ⟨x1+1+2+1+2+3+5,0,1,2,3,4,x1+1+2+1+2+1⟩ (a:=a) (b:=b) By hD hN (by omega) (by omega) hB LP (by(try dsimp only);rw[zaa,if_pos rfl]) (by simp -dsimp -implicitDefEqProofs only[go_sem,seval]) (by simp -dsimp -implicitDefEqProofs only[go_sem,seval]) (by simp -dsimp -implicitDefEqProofs only[go_sem,seval]) (by simp -dsimp -implicitDefEqProofs only[go_sem,seval]) (by simp -dsimp -implicitDefEqProofs only[go_sem,seval]) (by simp)
  (by(try dsimp only);rw[zaa,if_neg (by omega),zaa,if_neg (by omega),zaa,if_neg (by omega)];exact Rn.h0) (by(try dsimp only);rw[zaa,if_neg (by omega),zaa,if_pos rfl])
  ⟨_,by(try dsimp only);rw[zaa,if_neg (by omega),zaa,if_neg (by omega),zaa,if_neg (by omega)];exact Rn.h1⟩ ⟨_,by(try dsimp only);rw[zaa,if_neg (by omega),zaa,if_neg (by omega),zaa,if_neg (by omega)];exact Rn.h2⟩
  ⟨_,by(try dsimp only);rw[zaa,if_neg (by omega),zaa,if_neg (by omega),zaa,if_neg (by omega)];exact Rn.h3⟩ ⟨_,by(try dsimp only);rw[zaa,if_neg (by omega),zaa,if_neg (by omega),zaa,if_neg (by omega)];exact Rn.h4⟩ (by refine⟨?_,?_,?_,?_,?_,?_⟩<;>simp only <;>omega) ?_
 intro h' n';have m1:(1=x1+1+2+1+2+3+5)=False:=eq_false (by omega);have m2:(2=x1+1+2+1+2+3+5)=False:=eq_false (by omega);have m3:(3=x1+1+2+1+2+3+5)=False:=eq_false (by omega);have m4:(4=x1+1+2+1+2+3+5)=False:=eq_false (by omega);refine⟨fun Aa I=> ?_,fun i kb ka hi hj H5 d4 d5 d6 d7 db da k1 k2=> ?_⟩
 ·have Ld:(List.range (2^B)).find? (fun n=>zGx a b (zHd cells D n) (zGY cells D N n))=none:=List.find?_eq_none.2 fun j hj=>by rw[Aa j (List.mem_range.1 hj)];simp
  rw[Ld];obtain⟨y4,i4⟩:=I.h4;obtain⟨y5,i5⟩:=I.h5;obtain⟨y6,i6⟩:=I.h6;obtain⟨y7,i7⟩:=I.h7;simp only at i4 i5 i6 i7;simp -dsimp -implicitDefEqProofs only[go_sem,seval,i4,i5,i6,i7,m1,m2,m3,m4];rfl
 ·have Dw:(List.range (2^B)).find? (fun n=>zGx a b (zHd cells D n) (zGY cells D N n))=some i:=by
   rw[List.find?_range_eq_some];exact⟨H5,List.mem_range.2 hi,fun j Dp=>by rw[hj j Dp];rfl⟩
  rw[Dw];simp only at d4 d5 d6 d7 k1 k2;have mb':kb≠x1+1+2+1+2+3+5:=by omega
  have ma':ka≠x1+1+2+1+2+3+5:=by omega
  have lb:(zHd cells D i).length=cells.length:=by rw[zHd,zlf];simp
  have la:(zGY cells D N i).length=cells.length:=by rw[zGY,zlf];simp
  have t1: ∀o,toT1 (updC h' (x1+1+2+1+2+3+5) o) (.ms kb 0 cells.length)=some (.t (ints (zHd cells D i))):=fun o=>zp6 (fz:=false) (by rw[zaa,if_neg mb'];exact db) lb.symm
  have t2: ∀o,toT1 (updC h' (x1+1+2+1+2+3+5) o) (.ms ka 0 cells.length)=some (.t (ints (zGY cells D N i))):=fun o=>zp6 (fz:=false) (by rw[zaa,if_neg ma'];exact da) la.symm
  simp -dsimp -implicitDefEqProofs only[go_sem,seval,d4,d5,d6,d7,m1,m2,m3,m4,↓t1,↓t2]
end Rg
end
section
namespace Rg
open Go
def zJB (e:Expr):Bool:=decide (e.w=1)&&e.formed
def isC (k:Int) (e:Expr):Bool:=decide (e.op=1)&&decide (e.n=k)
def zGm (e:Expr):Bool:= !isC 0 e&& !isC 1 e
def zHK (k:Int):Expr:=Expr.mk 1 1 k []
def zrE:Expr:=Expr.mk 0 0 0 []
def zGj (a b:Expr):Expr:=Expr.mk 5 1 0 [a,b]
def zIl:List Expr->Expr
 | []=>zrE
 | e::r=>r.foldl zGj e
def zKV (l:List Expr):Expr:=
 if((l.filter zGm).take 41).length=0 then zHK 1 else if((l.filter zGm).take 41).length>40 then zrE else if(zIl ((l.filter zGm).take 41)).formed then zIl ((l.filter zGm).take 41)else zrE
def zHi (l:List Expr):Expr:=if l.all zJB=false then zrE else if l.any (isC 0)=true then zHK 0 else zKV l
theorem zJP (e:Expr):Den Γ G 568 [(.agg [.t (ti (e).op),.t (ti (e).w),.t (ti (e).n),.t (.sl ((e).kids.map (Expr.enc)))])]=some (vb (zJB e)):=by
 have h1:=zeo e;unfold zJB
 (refine zag Γ568 rfl ?_;dsimp only[zLa])
 by_cases c:e.w=1
 ·have c':=eq_true c;simp -dsimp -implicitDefEqProofs only[go_sem,seval,h1,c']
 ·have c':=eq_false c;simp -dsimp -implicitDefEqProofs only[go_sem,seval,h1,c'];rfl
theorem zJh (e:Expr) (k:Int):Den Γ G 569 [(.agg [.t (ti (e).op),.t (ti (e).w),.t (ti (e).n),.t (.sl ((e).kids.map (Expr.enc)))]),vi k]=some (vb (isC k e)):=by
 unfold isC
 (refine zag Γ569 rfl ?_;dsimp only[zK9])
 by_cases c:e.op=1
 ·have c':=eq_true c;simp -dsimp -implicitDefEqProofs only[go_sem,seval,c']
 ·have c':=eq_false c;simp -dsimp -implicitDefEqProofs only[go_sem,seval,c'];rfl
theorem zJu (k:Int):Den Γ G 570 [vi k,vi 1]=some (.agg [.t (ti (zHK k).op),.t (ti (zHK k).w),.t (ti (zHK k).n),.t (.sl ((zHK k).kids.map (Expr.enc)))]):=by
 (refine zag Γ570 rfl ?_;dsimp only[zK8])
 simp -dsimp -implicitDefEqProofs only[go_sem,seval];exact⟨rfl,rfl,rfl,rfl⟩
theorem zIk (e:Expr):Den Γ G 571 [(.agg [.t (ti (e).op),.t (ti (e).w),.t (ti (e).n),.t (.sl ((e).kids.map (Expr.enc)))])]=some (if e.formed then(.agg [.t (ti (e).op),.t (ti (e).w),.t (ti (e).n),.t (.sl ((e).kids.map (Expr.enc)))])else(.agg [.t (ti (zrE).op),.t (ti (zrE).w),.t (ti (zrE).n),.t (.sl ((zrE).kids.map (Expr.enc)))])):=by
 have h1:=zeo e
 (refine zag Γ571 rfl ?_;dsimp only[zK7])
 cases hf:e.formed
 ·rw[hf]at h1;simp -dsimp -implicitDefEqProofs only[go_sem,seval,h1];exact⟨rfl,rfl,rfl,rfl⟩
 ·rw[hf]at h1;simp -dsimp -implicitDefEqProofs only[go_sem,seval,h1]
theorem zJV (a b:Expr):Den Γ G 574 [(.agg [.t (ti (a).op),.t (ti (a).w),.t (ti (a).n),.t (.sl ((a).kids.map (Expr.enc)))]),(.agg [.t (ti (b).op),.t (ti (b).w),.t (ti (b).n),.t (.sl ((b).kids.map (Expr.enc)))]),.t (.ip [ti 5])]=some (.agg [.t (ti (zGj a b).op),.t (ti (zGj a b).w),.t (ti (zGj a b).n),.t (.sl ((zGj a b).kids.map (Expr.enc)))]):=by
 (refine zag Γ574 rfl ?_;dsimp only[zK5])
 simp -dsimp -implicitDefEqProofs only[go_sem,seval];exact⟨rfl,rfl,rfl,by simp[zGj,Expr.enc_eq,Expr.kids_mk]⟩
theorem zJM (l:List Expr) (e:Expr) (hl:l.length<2^30):Den Γ G 573 [.t (.sl ((e::l).map Expr.enc)),.t (.fn 574 [] [.ip [ti 5]])]=some (.agg [.t (ti (l.foldl zGj e).op),.t (ti (l.foldl zGj e).w),.t (ti (l.foldl zGj e).n),.t (.sl ((l.foldl zGj e).kids.map (Expr.enc)))]):=by
 have Bb:(l.map Expr.enc).length=l.length:=by simp
 rw[List.map_cons];have i1:(1:Int)<=((l.length+1:Nat):Int):=by omega
 have i2:((l.length+1:Nat):Int)<=((l.length+1:Nat):Int):=Int.le_refl _;have i3:(((l.length+1:Nat):Int)-1).toNat=l.length:=by omega
 have i4:((l.map Expr.enc).all fun x=>decide (x.length=4))=true:=by simp[Expr.enc_eq]
 have i5:List.take l.length (l.map Expr.enc)=l.map Expr.enc:=List.take_of_length_le (by simp)
 (refine zag Γ573 rfl ?_;dsimp only[zK6])
 simp -dsimp -implicitDefEqProofs only[go_sem,seval,Bb,i1,i2,i3,i4,i5];refine zaT 8372384 l.length (fun i f=>(f 14).v=vi i/\(f 5).v= .lb/\ ∃y:Expr,y=(l.take i).foldl zGj e/\(f 5).box=some [.t (ti y.op),.t (ti y.w),.t (ti y.n),.t (.sl (y.kids.map Expr.enc))]) rfl rfl ⟨by simp -dsimp -implicitDefEqProofs only[go_sem,seval],by simp -dsimp -implicitDefEqProofs only[go_sem,seval],e,rfl,by simp -dsimp -implicitDefEqProofs only[go_sem,seval]⟩ ?_;rintro i f u x bb hi ⟨g14,g5,y,hy,g5b⟩;have hw:=zan i (by omega)
 by_cases AV:i<l.length
 ·have DB:=eq_true AV;obtain⟨z,hz,_⟩:=zai AV;have ad:=zJV y z;simp -dsimp -implicitDefEqProofs only[go_sem,seval,g14,g5,g5b,DB,hz,Expr.enc_eq,ad];refine⟨AV,by simp -dsimp -implicitDefEqProofs only[go_sem,seval,hw],by simp -dsimp -implicitDefEqProofs only[go_sem,seval,g5],zGj y z,by rw[zaf hz,List.foldl_append,<- hy];rfl,by simp -dsimp -implicitDefEqProofs only[go_sem,seval]⟩
 ·have DB:=eq_false AV;have:i=l.length:=by omega
  subst this;rw[List.take_length]at hy;subst hy;simp -dsimp -implicitDefEqProofs only[go_sem,seval,g14,g5,g5b,DB]
def rwE (l:List Expr):List (List V):=(l.map Expr.enc).map (·.map V.t)
theorem zGB (l:List Expr):(rwE l).length=l.length:=by simp[rwE]
theorem zKg (l:List Expr):((rwE l).all fun r=>decide (r.length=4))=true:=by simp[rwE,Expr.enc_eq]
theorem zKf (l:List Expr) (e:Expr):rwE (l++[e])=rwE l++[[.t (ti e.op),.t (ti e.w),.t (ti e.n),.t (.sl (e.kids.map Expr.enc))]]:=by simp[rwE,Expr.enc_eq]
theorem zJZ {l:List Expr} {i:Nat} {e:Expr} (h:l[i]? =some e):(rwE l)[i]? =some [.t (ti e.op),.t (ti e.w),.t (ti e.n),.t (.sl (e.kids.map Expr.enc))]:=by simp[rwE,h,Expr.enc_eq]
theorem zKe {l:List Expr} {i:Nat} {e:Expr} (h:l[i]? =some e):(rwE l).set i [.t (ti e.op),.t (ti e.w),.t (ti e.n),.t (.sl (e.kids.map Expr.enc))]=rwE l:=by
 refine List.ext_getElem? fun j=> ?_
 rw[List.getElem?_set];split
 ·rename_i Av;subst Av;rw[zJZ h];have:i<(rwE l).length:=by rw[zGB];exact(zH.1 h).1
  rw[if_pos this]
 ·rfl
theorem zKL (h:Nat->Option O) (d:Nat) (l:List Expr):(rwE l).mapM (fun row=>row.mapM (toT h d))=some (l.map Expr.enc):=zdJ h d (l.map Expr.enc) (by
 intro e he t ht;obtain⟨x,_,rfl⟩:=List.mem_map.1 he;simp only[Expr.enc_eq,List.mem_cons,List.not_mem_nil,or_false]at ht
 rcases ht with rfl | rfl | rfl | rfl<;>rfl)
theorem zIx (l:List Expr):((l.filter zGm).take 41).length<=41:=by rw[List.length_take];omega
theorem zIn (l:List Expr) (hl:l.length<2^30):Den Γ G 527 [.t (.sl (l.map Expr.enc)),vi 5,vi 1]=some (.agg [.t (ti (zHi l).op),.t (ti (zHi l).w),.t (ti (zHi l).n),.t (.sl ((zHi l).kids.map (Expr.enc)))]):=by
 have Bb:(l.map Expr.enc).length=l.length:=by simp
 have w0:IntKind.i64.wrap (1-1)=0:=rfl
 (refine zag Γ527 rfl ?_;dsimp only[zLt])
 simp -dsimp -implicitDefEqProofs only[go_sem,seval,Bb]
 refine zaq 8796093007296 l.length (fun i f h x=>(f 14).v=vi i/\(f 8).v=vb ((l.take i).any (isC 0))/\(f 6).v= .lb/\(f 6).box=some [.t (ti 0),.t (ti 0),.t (ti 0),.t .nils]/\zaF h x (f 7).v 4 (rwE (((l.take i).filter zGm).take 41))/\zbg (f 7).v 0/\h 0=some (.rows 1 [[vi 5]] false)/\0<x/\(l.take i).all zJB=true) rfl
  ⟨by simp -dsimp -implicitDefEqProofs only[go_sem,seval],by simp -dsimp -implicitDefEqProofs only[go_sem,seval];rfl,by simp -dsimp -implicitDefEqProofs only[go_sem,seval],by simp -dsimp -implicitDefEqProofs only[go_sem,seval],.inl ⟨by simp -dsimp -implicitDefEqProofs only[go_sem,seval],rfl⟩,by simp -dsimp -implicitDefEqProofs only[go_sem,seval];(intro i n h;cases h),by(try simp -dsimp -implicitDefEqProofs only[go_sem,seval]);(try rfl),by(try simp -dsimp -implicitDefEqProofs only[go_sem,seval]);(try omega),rfl⟩ ?_
 rintro i f u h x bb hi ⟨g14,g8,g6,g6b,hO,Bn,h0,hx,Aa⟩;have hw:=zan i (by omega)
 by_cases AV:i<l.length
 ·have DB:=eq_true AV;obtain⟨e,he,Cn⟩:=zai AV;have a1:=zJP e;have a2:=zJh e 0;have a3:=zJh e 1;have OU: ∀p:Expr->Bool,(l.take (i+1)).any p=((l.take i).any p||p e):=fun p=>by rw[zaf he,List.any_append];simp
  cases c1:zJB e
  ·rw[c1]at a1;have hz:zHi l=zrE:=by rw[zHi,if_pos (List.all_eq_false.2 ⟨e,Cn,by rw[c1];simp⟩)]
   rw[hz];simp -dsimp -implicitDefEqProofs only[go_sem,seval,g14,DB,he,Expr.enc_eq,a1,g6,g6b];exact⟨rfl,rfl,rfl,rfl⟩
  rw[c1]at a1;have HT:(l.take (i+1)).all zJB=true:=by rw[zaf he,List.all_append,Aa];simp[c1]
  have H5:(l.take (i+1)).filter zGm=(l.take i).filter zGm++(if zGm e then [e]else []):=by
   rw[zaf he,List.filter_append,List.filter_cons,List.filter_nil]
  cases c2:isC 0 e
  ·rw[c2]at a2;cases c3:isC 1 e
   ·rw[c3]at a3;have Ej:zGm e=true:=by simp[zGm,c2,c3]
    rw[Ej,if_pos rfl]at H5;have y1:=hO.valOf;have y2:=hO.lenS;rw[zGB]at y2;have S1:=zIx (l.take i)
    by_cases c4:(((l.take i).filter zGm).take 41).length<=40
    ·have c4':((((((l.take i).filter zGm).take 41).length:Nat):Int)<=40)=True:=eq_true (by omega);have v6: ∀b,rowsS (updC h (x+1+4+4+5+10+2) b) (f 7).v=some (rwE (((l.take i).filter zGm).take 41)):=fun b=>(hO.upd (q:=x+1+4+4+5+10+2) (by omega) b).rowsS
     simp -dsimp -implicitDefEqProofs only[go_sem,seval,g14,DB,he,Expr.enc_eq,a1,w0,a2,a3,y1,y2,c4',v6];refine zav (hO.upd (by omega) _) (by omega) (by rw[zGB];omega) (by decide) rfl (zKg _) ?_;intro v hp hP Bp Aq;have z1:=hP.valOf;have Th:((l.take i).filter zGm).length<=40:=by rw[List.length_take]at c4;omega
     simp -dsimp -implicitDefEqProofs only[go_sem,seval,z1,g14];refine⟨AV,by simp -dsimp -implicitDefEqProofs only[go_sem,seval,hw],?_,by simp -dsimp -implicitDefEqProofs only[go_sem,seval,g6],by simp -dsimp -implicitDefEqProofs only[go_sem,seval,g6b],?_,?_,?_,by simp -dsimp -implicitDefEqProofs only[go_sem,seval];omega,HT⟩
     ·rw[OU,c2,Bool.or_false];simp -dsimp -implicitDefEqProofs only[go_sem,seval,g8]
     ·simp -dsimp -implicitDefEqProofs only[go_sem,seval];rw[H5,List.take_of_length_le (by rw[zM,List.length_singleton];omega),zKf];rw[List.take_of_length_le (by omega)]at hP;exact hP.le (by omega)
     ·simp -dsimp -implicitDefEqProofs only[go_sem,seval];exact Bp 0 (by omega)
     ·simp -dsimp -implicitDefEqProofs only[go_sem,seval];rw[Aq 0 (by omega) Bn,zaa,if_neg (by omega)];exact h0
    ·have c4':((((((l.take i).filter zGm).take 41).length:Nat):Int)<=40)=False:=eq_false (by omega);have SM:41<=((l.take i).filter zGm).length:=by rw[List.length_take]at c4;omega
     simp -dsimp -implicitDefEqProofs only[go_sem,seval,g14,DB,he,Expr.enc_eq,a1,w0,a2,a3,y1,y2,c4'];refine⟨AV,by simp -dsimp -implicitDefEqProofs only[go_sem,seval,hw],?_,by simp -dsimp -implicitDefEqProofs only[go_sem,seval,g6],by simp -dsimp -implicitDefEqProofs only[go_sem,seval,g6b],?_,by simp -dsimp -implicitDefEqProofs only[go_sem,seval];exact Bn,h0,by simp -dsimp -implicitDefEqProofs only[go_sem,seval];omega,HT⟩
     ·rw[OU,c2,Bool.or_false];simp -dsimp -implicitDefEqProofs only[go_sem,seval,g8]
     ·simp -dsimp -implicitDefEqProofs only[go_sem,seval];rw[H5,List.take_append_of_le_length SM];exact hO.le (by omega)
   ·rw[c3]at a3;have Ej:zGm e=false:=by simp[zGm,c3]
    rw[Ej,if_neg (by simp),List.append_nil]at H5;simp -dsimp -implicitDefEqProofs only[go_sem,seval,g14,DB,he,Expr.enc_eq,a1,w0,a2,a3];refine⟨AV,by simp -dsimp -implicitDefEqProofs only[go_sem,seval,hw],?_,by simp -dsimp -implicitDefEqProofs only[go_sem,seval,g6],by simp -dsimp -implicitDefEqProofs only[go_sem,seval,g6b],?_,by simp -dsimp -implicitDefEqProofs only[go_sem,seval];exact Bn,h0,by simp -dsimp -implicitDefEqProofs only[go_sem,seval];omega,HT⟩
    ·rw[OU,c2,Bool.or_false];simp -dsimp -implicitDefEqProofs only[go_sem,seval,g8]
    ·simp -dsimp -implicitDefEqProofs only[go_sem,seval];rw[H5];exact hO.le (by omega)
  ·rw[c2]at a2;have Ej:zGm e=false:=by simp[zGm,c2]
   rw[Ej,if_neg (by simp),List.append_nil]at H5;simp -dsimp -implicitDefEqProofs only[go_sem,seval,g14,DB,he,Expr.enc_eq,a1,w0,a2];refine⟨AV,by simp -dsimp -implicitDefEqProofs only[go_sem,seval,hw],?_,by simp -dsimp -implicitDefEqProofs only[go_sem,seval,g6],by simp -dsimp -implicitDefEqProofs only[go_sem,seval,g6b],?_,by simp -dsimp -implicitDefEqProofs only[go_sem,seval];exact Bn,h0,by simp -dsimp -implicitDefEqProofs only[go_sem,seval];omega,HT⟩
   ·rw[OU,c2,Bool.or_true];simp -dsimp -implicitDefEqProofs only[go_sem,seval]
   ·simp -dsimp -implicitDefEqProofs only[go_sem,seval];rw[H5];exact hO.le (by omega)
 have DB:=eq_false AV;have:i=l.length:=by omega
 subst this;rw[List.take_length]at g8 hO Aa;have hz:zHi l=if l.any (isC 0)=true then zHK 0 else zKV l:=by rw[zHi,if_neg (by rw[Aa];simp)]
 rw[hz];cases c5:l.any (isC 0)
 rotate_left
 ·have cd:=zJu 0;rw[c5]at g8;rw[if_pos rfl];simp -dsimp -implicitDefEqProofs only[go_sem,seval,g14,DB,g8,w0,cd,g6,g6b]
 rw[if_neg (by simp)];rw[c5]at g8;have S1:=zIx l
 have Q0: ∀e∈(l.filter zGm).take 41,e.formed=true:=fun e he=>by
  have h1:=zN.1 Aa e (List.mem_filter.1 (List.mem_of_mem_take he)).1;simp only[zJB,zF]at h1;exact h1.2
 unfold zKV;have y1:=hO.valOf;have y2:=hO.lenS;rw[zGB]at y2
 generalize(l.filter zGm).take 41=kp at *
 by_cases c6:kp.length=0
 ·have c6':((kp.length:Int)=0)=True:=eq_true (by omega);have cd:=zJu 1;rw[if_pos c6];simp -dsimp -implicitDefEqProofs only[go_sem,seval,g14,DB,g8,y1,y2,c6',cd,g6,g6b]
 have c6':((kp.length:Int)=0)=False:=eq_false (by omega);rw[if_neg c6]
 by_cases c7:kp.length>40
 ·have c7':((kp.length:Int)>40)=True:=eq_true (by omega);rw[if_pos c7];simp -dsimp -implicitDefEqProofs only[go_sem,seval,g14,DB,g8,y1,y2,c6',c7',g6,g6b];exact⟨rfl,rfl,rfl,rfl⟩
 have c7':((kp.length:Int)>40)=False:=eq_false (by omega);rw[if_neg c7];simp -dsimp -implicitDefEqProofs only[go_sem,seval,g14,DB,g8,y1,y2,c6',c7'];rcases hO with⟨_,e0⟩ | ⟨k,e7,hk,hh⟩
 ·have:=congrArg List.length e0;rw[zGB,List.length_nil]at this;omega
 rw[zGB]at e7;have CK:k≠0:=fun e=>by subst e;exact Bn _ _ e7
 refine zaq 9442427122730076735488 kp.length (fun i f h x=>(f 61).v=vi i/\h k=some (.rows 4 (rwE kp) false)/\h 0=some (.rows 1 [[vi 5]] false)/\k<x) rfl ⟨by simp -dsimp -implicitDefEqProofs only[go_sem,seval],hh,h0,by simp -dsimp -implicitDefEqProofs only[go_sem,seval];omega⟩ ?_;rintro i f1 u1 h1 x1 bb1 B8 ⟨g61,A3,SY,KA⟩;have Cj:=zan i (by omega)
 by_cases LX:i<kp.length
 ·have RI:=eq_true LX;obtain⟨e,he,Cn⟩:=zai LX;have B5:=zJZ he;have AE:=zKe he;have cl:=zJw e (Q0 e Cn);simp -dsimp -implicitDefEqProofs only[go_sem,seval,g61,RI,e7,A3,B5,cl,AE];refine⟨LX,by simp -dsimp -implicitDefEqProofs only[go_sem,seval,Cj],?_,?_,by simp -dsimp -implicitDefEqProofs only[go_sem,seval];omega⟩
  ·simp only[zaC,zaA];rw[zaa,if_pos rfl]
  ·simp only[zaC,zaA];rw[zaa,if_neg (Ne.symm CK)];exact SY
 have RI:=eq_false LX;have:i=kp.length:=by omega
 subst this
 obtain⟨e,r,rfl⟩: ∃e r,kp=e::r:=by
  cases kp with
  | nil=>simp at c6
  | cons e r=>exact⟨e,r,rfl⟩
 have t1:toT1 h1 (.ms k 0 (r.length+1))=some (.t (.sl ([ti e.op,ti e.w,ti e.n,.sl (e.kids.map Expr.enc)]::r.map Expr.enc))):=by
  rw[show r.length+1=(e::r).length from rfl,<- Expr.enc_eq,<- List.map_cons];simp only[toT1,toT,A3,rd];rw[if_pos (by rw[zGB];omega),List.drop_zero,List.take_of_length_le (by rw[zGB];omega)];simp only[zC,zD];rw[zKL];rfl
 have t2:toT1 h1 (.fn 574 [] [.mp 0 0 0])=some (.t (.fn 574 [] [.ip [ti 5]])):=by
  simp only[toT1,toT,SY,List.mapM_cons,List.mapM_nil];rfl
 have fd:=zJM r e (by simp at S1;omega);rw[List.map_cons,Expr.enc_eq]at fd;have fe:=zIk (zIl (e::r));have SN:(r.length+1<r.length+1)=False:=eq_false (by omega);simp -dsimp -implicitDefEqProofs only[go_sem,seval,g61,SN,e7,↓t1,↓t2,fd];refine zGr (fun _=>True) (fun _ _=>trivial) fun h2 _ _=> ?_
 have Ti:zIl (e::r)=r.foldl zGj e:=rfl;rw[Ti]at fe⊢;cases ST:(r.foldl zGj e).formed
 ·rw[ST,if_neg (by simp)]at fe;rw[if_neg (by simp)];simp -dsimp -implicitDefEqProofs only[go_sem,seval,fe,g6,g6b]
 ·rw[ST,if_pos rfl]at fe;rw[if_pos rfl];simp -dsimp -implicitDefEqProofs only[go_sem,seval,fe,g6,g6b]
theorem zJ8 {op:Int} {e x:Expr} (hf:e.formed=true) (hx:x∈e.lv) (ho:x.op=op) (h0:0<=x.n) (h1:x.n<32):x.n∈e.sup op:=by
 rw[Expr.sup,if_pos hf];have:=(zHp (e.occ op) 32 x.n.toNat).2 ⟨by omega,zG9 op e.lv _ (by simp;omega) ⟨x,hx,ho,rfl⟩⟩;rwa[show((x.n.toNat:Nat):Int)=x.n by omega]at this
theorem zHg {a b:Expr} (h:(zGj a b).formed=true):a.formed=true/\b.formed=true/\a.w=1/\b.w=1:=by
 simp only[Expr.formed,zF,decide_eq_true_eq]at h⊢;obtain⟨h1,h2⟩:=h;have ka:a∈(zGj a b).kids:=by simp[zGj,Expr.kids_mk]
 have kb:b∈(zGj a b).kids:=by simp[zGj,Expr.kids_mk]
 have hn:zbk (zGj a b)=true:=by
  simp only[Expr.deep,zF]at h2;exact h2.1
 have sa:=Expr.size_kid ka;have sb:=Expr.size_kid kb;refine⟨⟨by omega,zJs (by omega) (zc7 h2 ka)⟩,⟨by omega,zJs (by omega) (zc7 h2 kb)⟩,?_⟩;simp[zbk,zGj,Expr.op_mk,Expr.kids_mk,Expr.w_mk,Expr.n_mk,Expr.kw,zcO]at hn;exact hn
theorem zIj {a b:Expr} (ha:a.formed=true) (hb:b.formed=true) (aw:a.w=1) (bw:b.w=1) (sa:a.size<=30) (sb:b.size<=30):(zGj a b).formed=true:=by
 simp only[Expr.formed,zF,decide_eq_true_eq]at ha hb⊢;refine⟨by rw[Expr.size_eq];simp[zGj,Expr.kids_mk];omega,?_⟩;show(zbk (zGj a b)&&(zGj a b).kids.all (Expr.deep 39))=true;rw[zF];refine⟨by simp[zbk,zGj,Expr.op_mk,Expr.kids_mk,Expr.w_mk,Expr.n_mk,Expr.kw,zcO,aw,bw],?_⟩;simp only[zGj,Expr.kids_mk,List.all_cons,List.all_nil,Bool.and_true,zF];exact⟨zH5 (by omega) ha.2,zH5 (by omega) hb.2⟩
theorem zHw {e:Expr} (hf:e.formed=true) (hw:e.w=1) (o m:List Int):e.eval o m=0\/e.eval o m=1:=by
 have h1:=zHr e o m;have h3:=h1.2 hf;rw[hw]at h3;have:(2:Int)^(1:Int).toNat=2:=rfl;have:=h1.1;omega
theorem zJz {a b:Expr} (h:(zGj a b).formed=true) (o m:List Int):(zGj a b).eval o m=1<->a.eval o m=1/\b.eval o m=1:=by
 obtain⟨ha,hb,aw,bw⟩:=zHg h;have h1:=zHw ha aw o m;have h2:=zHw hb bw o m
 have e1:(zGj a b).eval o m=(((a.eval o m).toNat&&& (b.eval o m).toNat:Nat):Int):=by
  rw[Expr.eval,if_pos h,Expr.ev_eq,Expr.eval,if_pos ha,Expr.eval,if_pos hb];simp[zGj,Expr.op_mk,Expr.kids_mk,opv]
 rw[e1];rcases h1 with h1 | h1<;>rcases h2 with h2 | h2<;>rw[h1,h2]<;>decide
theorem zH2 {o m:List Int}: ∀{r:List Expr} {e:Expr},(r.foldl zGj e).formed=true->e.formed=true/\((r.foldl zGj e).eval o m=1<->e.eval o m=1/\ ∀x∈r,x.eval o m=1)
 | [],e,h=>⟨h,by simp⟩
 | x::r,e,h=>by
   obtain⟨h1,h2⟩:=zH2 (o:=o) (m:=m) (r:=r) (e:=zGj e x) h;refine⟨(zHg h1).1,?_⟩;rw[List.foldl_cons,h2,zJz h1];simp[and_assoc]
theorem zJn: ∀{r:List Expr} {e x:Expr},x∈(r.foldl zGj e).lv->x∈e.lv\/ ∃y∈r,x∈y.lv
 | [],e,x,h=> .inl h
 | y::r,e,x,h=>by
   rcases zJn (r:=r) (e:=zGj e y) h with h1 | ⟨z,hz,h1⟩
   ·rw[Expr.lv_eq,if_neg (by simp[zGj,Expr.kids_mk])]at h1;simp only[zGj,Expr.kids_mk,List.flatMap_cons,List.flatMap_nil,List.append_nil,List.mem_append]at h1;rcases h1 with h1 | h1
    ·exact .inl h1
    ·exact .inr ⟨y,by simp,h1⟩
   ·exact .inr ⟨z,by simp[hz],h1⟩
theorem zJ3: ∀{r:List Expr} {e:Expr},e.w=1->(r.foldl zGj e).w=1
 | [],e,h=>h
 | y::r,e,h=>zJ3 (r:=r) (e:=zGj e y) rfl
theorem zHG {e:Expr} (hf:e.formed=true) {k:Int} (h:isC k e=true) (o m:List Int):e.eval o m=k:=by
 simp only[isC,zF,decide_eq_true_eq]at h;rw[Expr.eval,if_pos hf,Expr.ev_eq,if_pos h.1,h.2]
theorem zGG {k:Int} (h:k=0\/k=1):(zHK k).formed=true:=by rcases h with rfl | rfl<;>decide
theorem zIE {k:Int} (h:k=0\/k=1) (o m:List Int):(zHK k).eval o m=k:=zHG (zGG h) (by simp[isC,zHK,Expr.op_mk,Expr.n_mk]) o m
theorem zH6 {k:Int} (h:k=0\/k=1) (cells:List Cell) (pair:Bool):(zHK k).valid cells pair=true:=by
 rw[Expr.valid,zGG h,Bool.true_and,Expr.allE_eq];simp[zHK,Expr.kids_mk,zb3,Expr.op_mk]
theorem zJt {k:Int} (op:Int) (Ao:op=2\/op=3):(zHK k).sup op=[]:=by
 cases hs:(zHK k).sup op with
 | nil=>rfl
 | cons c r=>
   exfalso;obtain⟨h0,hf,x,hx,h1,h2⟩:=zrn (e:=zHK k) (op:=op) (c:=c) (by rw[hs];simp);rw[Expr.lv_eq,if_pos (by simp[zHK,Expr.kids_mk])]at hx;simp only[List.mem_singleton]at hx;subst hx;simp only[zHK,Expr.op_mk]at h1;omega
structure AndOk (l:List Expr) (x:Expr):Prop where
 formed:x.formed=true
 w:x.w=1
 eval: ∀o m,x.eval o m=1<-> ∀e∈l,e.eval o m=1
 valid: ∀cells pair,(∀e∈l,e.valid cells pair=true)->x.valid cells pair=true
 sup: ∀op,op=2\/op=3-> ∀c∈x.sup op,∃e∈l,c∈e.sup op
theorem zKx {l:List Expr} (hz:(zHi l).op≠0):AndOk l (zHi l):=by
 unfold zHi at hz⊢
 by_cases h1:l.all zJB=false
 ·rw[if_pos h1]at hz;exact absurd rfl hz
 rw[if_neg h1]at hz⊢
 have hc: ∀e∈l,e.w=1/\e.formed=true:=fun e he=>by
  have:=zN.1 (by simpa using h1) e he;simpa[zJB]using this
 by_cases h2:l.any (isC 0)=true
 ·rw[if_pos h2];obtain⟨e,he,h3⟩:=List.any_eq_true.1 h2;refine⟨zGG (.inl rfl),rfl,fun o m=> ?_,fun cells pair _=>zH6 (.inl rfl) cells pair,fun op Ao c AL=>by rw[zJt op Ao]at AL;simp at AL⟩;rw[zIE (.inl rfl)];refine⟨fun h=>absurd h (by decide),fun h=> ?_⟩;have:=h e he;rw[zHG (hc e he).2 h3]at this;exact absurd this (by decide)
 rw[if_neg h2]at hz⊢
 have EY: ∀e∈l,isC 0 e=false:=fun e he=>by
  cases h:isC 0 e with
  | false=>rfl
  | true=>exact absurd (List.any_eq_true.2 ⟨e,he,h⟩) h2
 unfold zKV at hz⊢
 have Aq: ∀o m,(∀e∈l.filter zGm,e.eval o m=1)<-> ∀e∈l,e.eval o m=1:=fun o m=>by
  refine⟨fun h e he=> ?_,fun h e he=>h e (List.mem_filter.1 he).1⟩
  cases h3:isC 1 e with
  | true=>exact zHG (hc e he).2 h3 o m
  | false=>exact h e (List.mem_filter.2 ⟨he,by simp[zGm,EY e he,h3]⟩)
 have Ad:((l.filter zGm).take 41).length<=40->(l.filter zGm).take 41=l.filter zGm:=fun h=>by
  rw[List.length_take]at h;exact List.take_of_length_le (by omega)
 split at hz
 ·rename_i h3;rw[if_pos h3];have h4:=Ad (by omega);rw[h4]at h3;have h5:l.filter zGm=[]:=List.eq_nil_of_length_eq_zero h3;refine⟨zGG (.inr rfl),rfl,fun o m=> ?_,fun cells pair _=>zH6 (.inr rfl) cells pair,fun op Ao c AL=>by rw[zJt op Ao]at AL;simp at AL⟩;rw[zIE (.inr rfl),<- Aq,h5];simp
 ·rename_i h3;rw[if_neg h3];split at hz
  ·exact absurd rfl hz
  rename_i h4;rw[if_neg h4];split at hz
  ·rename_i h5;rw[if_pos h5];have h6:=Ad (by omega);rw[h6]at h5 h3⊢
   cases h7:l.filter zGm with
   | nil=>rw[h7]at h3;simp at h3
   | cons e r=>
     rw[h7]at h5;have Ce: ∀x∈e::r,x∈l:=fun x hx=>by rw[<- h7]at hx;exact(List.mem_filter.1 hx).1
     have F8: ∀{x},x∈(zIl (e::r)).lv-> ∃y∈l,x∈y.lv:=fun{x} hx=>by
      rcases zJn hx with h8 | ⟨y,hy,h8⟩
      ·exact⟨e,Ce e (by simp),h8⟩
      ·exact⟨y,Ce y (by simp[hy]),h8⟩
     refine⟨h5,zJ3 (hc e (Ce e (by simp))).1,fun o m=> ?_,fun cells pair hv=> ?_,fun op Ao c AL=> ?_⟩
     ·rw[<- Aq,h7];have:=(zH2 (o:=o) (m:=m) h5).2;rw[show zIl (e::r)=r.foldl zGj e from rfl,this];simp
     ·rw[Expr.valid,h5,Bool.true_and,zvP (fun x=>zje cells pair) 40 _ (zcp h5)];refine zN.2 fun x hx=> ?_
      obtain⟨y,hy,BW⟩:=F8 hx;have:=hv y hy;rw[Expr.valid,(hc y hy).2,Bool.true_and,zvP (fun x=>zje cells pair) 40 _ (zcp (hc y hy).2)]at this;exact zN.1 this x BW
     ·obtain⟨h0,hf,x,hx,h8,h9⟩:=zrn AL;obtain⟨y,hy,BW⟩:=F8 hx;have Sx:=zIf (zcp (hc y hy).2) BW;have PE:=zJ1 BW;refine⟨y,hy,?_⟩
      have hb:0<=x.n/\x.n<32:=by
       unfold zbk at Sx;split at Sx
       ·cases Sx
       ·rw[if_neg (by omega),if_pos (by omega)]at Sx;simpa using Sx
      have:c=x.n:=by omega
      rw[this];exact zJ8 (hc y hy).2 BW h8 hb.1 hb.2
  ·exact absurd rfl hz
theorem zJU {a b:Expr} (ha:a.formed=true) (hb:b.formed=true) (aw:a.w=1) (bw:b.w=1) (sa:a.size<=30) (sb:b.size<=30):(zHi [a,b]).op≠0:=by
 unfold zHi;rw[if_neg (by simp[zJB,ha,hb,aw,bw])];split
 ·simp[zHK,Expr.op_mk]
 ·unfold zKV;have hf:=zIj ha hb aw bw sa sb
  have h0: ∀e:Expr,e.formed=true->e.op≠0:=fun e he h=>by
   simp only[Expr.formed,zF]at he;have h2:=he.2;rw[show(40:Nat)=39+1 from rfl,Expr.deep,zF]at h2;have:=h2.1;simp[zbk,h,zcO]at this
  simp only[List.filter_cons,List.filter_nil];cases zGm a<;>cases zGm b<;>simp[zIl,zHK,Expr.op_mk,ha,hb,hf,h0 a ha,h0 b hb]
  simp[zGj,Expr.op_mk]
theorem zKw (l:List Expr) (hl:l.length<2^30):Den Γ G 508 [.t (.sl (l.map Expr.enc))]=some (.agg [.t (ti (zHi l).op),.t (ti (zHi l).w),.t (ti (zHi l).n),.t (.sl ((zHi l).kids.map (Expr.enc)))]):=by
 have h1:=zIn l hl
 (refine zag Γ508 rfl ?_;dsimp only[zLC])
 simp -dsimp -implicitDefEqProofs only[go_sem,seval,h1]
end Rg
end
section
namespace Rg
open Go
theorem zHz (b j:Nat) (hj:j<64) (hb:b<2^64):(2^64-1-b).testBit j= !b.testBit j:=by
 rw[show 2^64-1-b=2^64-(b+1)by omega,Nat.testBit_two_pow_sub_succ hb];simp[hj]
theorem zJl {φ:Nat->Nat->Nat} {ψ:Bool->Bool->Bool} {a b:List Nat} (B1:Bm a) (B2:Bm b) (hφ: ∀x y j,x<2^64->y<2^64->j<64->(φ x y).testBit j=ψ (x.testBit j) (y.testBit j)) (n:Nat) (hn:n<4096):
 zHH (cmb φ a b 64) n=ψ (zHH a n) (zHH b n):=by
 have h1:=zHN φ a b 64 (n/ 64) (by rw[B1.len];omega);rw[if_pos (by omega)]at h1
 have hb: ∀{c:List Nat},Bm c->c.getD (n/ 64) 0<2^64:=fun{c} B=>by
  obtain⟨w,hw,FP⟩:=zai (show n/ 64<c.length by rw[B.len];omega);rw[zK,hw,Option.getD_some];exact B.lt w FP
 rw[zHH,zK,h1,Option.getD_some,hφ _ _ _ (hb B1) (hb B2) (by omega),zHH,zHH]
section
variable {l ws:List Int} {s t:List Nat}
theorem zIF (S:Shp l ws) (Es:Elems ws s) (Et:Elems ws t) {φ:Nat->Nat->Nat} {ψ:Bool->Bool->Bool} (hφ: ∀x y j,x<2^64->y<2^64->j<64->(φ x y).testBit j=ψ (x.testBit j) (y.testBit j)) (h0:ψ false true=false/\ψ false false=false):
 zGw (cmb φ (zGX s) (zGX t) 64) 64=nI (s.filter fun n=>ψ true (t.contains n)):=by
 refine zIv (Es.inc.filter _) (fun n hn=>Es.lt4 S n (List.mem_filter.1 hn).1) fun n hn=> ?_
 rw[zJl (zGJ (Es.lt4 S)) (zGJ (Et.lt4 S)) hφ n hn,zHF (Es.lt4 S),zHF (Et.lt4 S),List.mem_filter]
 by_cases h:n∈s
 ·rw[List.contains_iff_mem.2 h];simp[h]
 ·have:s.contains n=false:=by rw[Bool.eq_false_iff,Ne,List.contains_iff_mem];exact h
  rw[this];cases t.contains n<;>simp[h,h0]
theorem zIe (S:Shp l ws) (Es:Elems ws s) (Et:Elems ws t):Den Γ G 517 [zGs l ws (nI s),zGs l ws (nI t)]=some (.tup [zGs l ws (nI (s.filter fun n=> !t.contains n)),vi 0]):=by
 have h1:=zHb S Es Et 551 (fun a b=>a&&& (2^64-1-b)) fun a b ha hb=>⟨Nat.and_lt_two_pow _ (by omega),zJb a b ha hb⟩
 rw[zIF S Es Et (ψ:=fun x y=>x&& !y) (fun x y j _ hy hj=>by rw[Nat.testBit_and,zHz y j hj hy]) ⟨rfl,rfl⟩]at h1;simp only[Bool.true_and]at h1;unfold zGs at h1⊢
 (refine zag Γ517 rfl ?_;dsimp only[zLz])
 simp -dsimp -implicitDefEqProofs only[go_sem,seval,h1]
theorem zGF (S:Shp l ws) (Es:Elems ws s) (Et:Elems ws t):Den Γ G 520 [zGs l ws (nI s),zGs l ws (nI t)]=some (.tup [zGs l ws (nI (s.filter fun n=>t.contains n)),vi 0]):=by
 have h1:=zHb S Es Et 559 (fun a b=>a&&& b) fun a b ha hb=>⟨Nat.and_lt_two_pow _ hb,zux a b ha hb⟩
 rw[zIF S Es Et (ψ:=fun x y=>x&&y) (fun x y j _ _ _=>by rw[Nat.testBit_and]) ⟨rfl,rfl⟩]at h1;simp only[Bool.true_and]at h1;unfold zGs at h1⊢
 (refine zag Γ520 rfl ?_;dsimp only[zLw])
 simp -dsimp -implicitDefEqProofs only[go_sem,seval,h1]
end
theorem Elems.filter {ws:List Int} {s:List Nat} (E:Elems ws s) (p:Nat->Bool):Elems ws (s.filter p):=⟨E.inc.filter _,fun n hn=>E.lt n (List.mem_filter.1 hn).1⟩
def zGi (n:Nat):List Int:=(List.range n).map fun i:Nat=>(i:Int)
theorem zGq (n:Nat):(zGi n).length=n:=by simp[zGi]
theorem zIW (n:Nat):zGi (n+1)=zGi n++[(n:Int)]:=by simp[zGi,List.range_succ]
theorem zGo {n:Nat} {c:Int}:c∈zGi n<->0<=c/\c<n:=by
 simp only[zGi,List.mem_map,List.mem_range];exact⟨fun⟨i,hi,e⟩=>by omega,fun⟨h0,h1⟩=>⟨c.toNat,by omega,by omega⟩⟩
theorem zJJ (n:Nat):(zGi n).Pairwise (· < ·):=by
 rw[zGi,List.pairwise_map];exact List.pairwise_lt_range.imp fun h=>by omega
theorem zJQ (p:Prog) {N l:List Int} (hN:N.Pairwise (· < ·)) (hl:l.Pairwise (· < ·)) (h: ∀c∈N,c∈l):zcD p N<=zcD p l:=by
 have e:N=l.filter (fun c=>decide (c∈N)):=by
  refine List.Perm.eq_of_pairwise (le:=(· < ·)) (fun a b _ _ h1 h2=>by omega) hN (hl.filter _) ((List.perm_ext_iff_of_nodup (hN.imp fun h=>by omega) ((hl.filter _).imp fun h=>by omega)).2 fun a=> ?_);simp only[List.mem_filter,decide_eq_true_eq];exact⟨fun ha=>⟨h a ha,ha⟩,fun ha=>ha.2⟩
 rw[e]
 generalize(fun c=>decide (c∈N))=q
 clear e h hl
 induction l with
 | nil=>simp[zcD]
 | cons c l ih=>
   rw[List.filter_cons];split
   ·simp only[zcD,List.map_cons,List.sum_cons]at ih⊢;omega
   ·simp only[zcD,List.map_cons,List.sum_cons]at ih⊢;omega
end Rg
end
