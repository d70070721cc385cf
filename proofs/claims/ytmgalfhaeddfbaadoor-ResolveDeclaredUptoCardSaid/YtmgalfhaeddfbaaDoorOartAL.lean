/- Part of the proof of laws of relyguardlaw04. No condition. -/
import Derived.Test.YtmgalfhaeddfbaaDoorOartAK
set_option linter.unusedSimpArgs false
set_option linter.unusedVariables false
section
namespace Rg
open Go
structure SlR (h:Nat->Option O) (v:V) (sz:Nat) (rows:List (List V)):Prop where
 vl:valOf v=some v
 cl:V.cells v=some [v]
 ln:lenS h v=some rows.length
 at_: ∀(i:Nat) (row:List V),rows[i]? =some row-> ∃p,zlx h sz i v=some p/\valOf p=some p/\zuA h true sz p=some (.agg row)
theorem zHh {h:Nat->Option O} {x:Nat} {v:V} {sz:Nat} {rows:List (List V)} (o:zaF h x v sz rows) (hl: ∀r∈rows,r.length=sz):SlR h v sz rows:=by
 refine⟨o.valOf,zGv o,o.lenS,fun i row hi=> ?_⟩;rcases o with⟨rfl,rfl⟩ | ⟨k,rfl,_,hk⟩
 ·simp at hi
 ·have AV:=(zH.1 hi).1;have hr:=hl row (zL hi);refine⟨.mp k i 0,?_,rfl,?_⟩
  ·simp only[zlx,hk];rw[if_pos ⟨by omega,by omega,trivial⟩];simp
  ·simp only[zuA,hk,hi];simp[rd,hr,zb9,List.take_of_length_le]
def zGN {α:Type} (p:α->Bool) (l:List α):Int×Bool:=match l.findIdx? p with
 | some i=>(i,true)
 | none=>(0,false)
theorem zKL {α:Type} {p:α->Bool} {l:List α} {i:Nat} {a:α} (ha:l[i]? =some a) (hp:p a=true) (hb: ∀j<i,∀b,l[j]? =some b->p b=false):zGN p l=((i:Int),true):=by
 have:l.findIdx? p=some i:=by
  rw[List.findIdx?_eq_some_iff_getElem];have AV:=(zH.1 ha).1;refine⟨AV,?_,fun j hj=> ?_⟩
  ·rw[zI AV]at ha;rw[Option.some.inj ha];exact hp
  ·have:=hb j hj l[j] (zI (by omega));simp[this]
 unfold zGN;rw[this]
theorem zI7 {α:Type} {p:α->Bool} {l:List α} (hb: ∀(j:Nat) (b:α),l[j]? =some b->p b=false):zGN p l=(0,false):=by
 have:l.findIdx? p=none:=by
  rw[List.findIdx?_eq_none_iff];intro a ha;obtain⟨j,hj⟩:=List.getElem?_of_mem ha;exact hb j a hj
 unfold zGN;rw[this]
theorem zH3 {h:Nat->Option O} {x:Nat} {vMo vVa vLo vPr vTh:V} {rows:List (List V)} {names:List ByteArray} (s:SlR h vMo 22 rows) (hp:Pw (fun row nm=> ∃rest,row= .t (.str nm)::rest/\rest.length=21) rows names) (hl:rows.length<2^40) (b:ByteArray):
 ∃r h' x',DenR Γ G 618 [.agg [vMo,vVa,vLo,vPr,vTh],.t (.str b)] h x=some (r,h',x')/\(r= .tup [vi (zGN (fun n=>decide (n=b)) names).1,vb (zGN (fun n=>decide (n=b)) names).2]/\h'=h/\x<=x'):=by
 (refine zay Γ618 rfl ?_;dsimp only[zOm])
 have v1:=s.vl;have v2:=s.cl;unfold V.cells at v2;have v3:=s.ln;simp -dsimp -implicitDefEqProofs only[go_sem,seval,v1,v2,v3];refine zaq 4192496 rows.length (fun i f h' x'=>(f 11).v=vi i/\h'=h/\x<=x'/\ ∀(j:Nat) (n:ByteArray),j<i->names[j]? =some n->decide (n=b)=false) rfl ⟨by simp -dsimp -implicitDefEqProofs only[go_sem,seval],rfl,by(try simp -dsimp -implicitDefEqProofs only[go_sem,seval]);(try omega),fun j n hj=>by omega⟩ ?_;rintro i f u h' x' bb hi ⟨g,rfl,hx,CA⟩
 by_cases AV:i<rows.length
 ·have h1:=eq_true AV;obtain⟨row,Ap,_⟩:=zai AV;obtain⟨nm,GE,_⟩:=zai (l:=names) (i:=i) (by rw[<- hp.1];exact AV);obtain⟨rest,B3,BC⟩:=hp.2 i row nm Ap GE;obtain⟨p,k1,k2,k3⟩:=s.at_ i row Ap;subst B3;have hw:=zan i (by omega)
  by_cases hb:nm=b
  ·have Cx:=eq_true hb;have hf:zGN (fun n=>decide (n=b)) names=((i:Int),true):=zKL GE (by simp[hb]) (fun j hj n hn=>CA j n hj hn);simp -dsimp -implicitDefEqProofs only[go_sem,seval,g,h1,v1,↓k1,k2,↓k3,BC,Cx];exact⟨by rw[hf];rfl,rfl,by(try simp -dsimp -implicitDefEqProofs only[go_sem,seval]);(try omega)⟩
  ·have Cx:=eq_false hb;simp -dsimp -implicitDefEqProofs only[go_sem,seval,g,h1,v1,↓k1,k2,↓k3,BC,Cx,hw];refine⟨AV,by simp -dsimp -implicitDefEqProofs only[go_sem,seval],rfl,by(try simp -dsimp -implicitDefEqProofs only[go_sem,seval]);(try omega),fun j n hj hn=> ?_⟩
   by_cases DP:j=i
   ·subst DP;rw[GE]at hn;cases hn;simp[hb]
   ·exact CA j n (by omega) hn
 ·have h1:=eq_false AV
  have hf:zGN (fun n=>decide (n=b)) names=(0,false):=zI7 fun j n hn=>CA j n (by
   have:=(zH.1 hn).1;have:=hp.1
   omega) hn
  simp -dsimp -implicitDefEqProofs only[go_sem,seval,g,h1];exact⟨by rw[hf];rfl,rfl,by(try simp -dsimp -implicitDefEqProofs only[go_sem,seval]);(try omega)⟩
theorem zHS {h:Nat->Option O} {x:Nat} {vMo vVa vLo vPr vTh:V} {rows:List (List V)} {ks:List Key} (s:SlR h vPr 16 rows) (hp:Pw (fun row k=> ∃rest,row= .t (.str k.2):: .t (ti k.1)::rest/\rest.length=14) rows ks) (hl:rows.length<2^40) (m:Int) (b:ByteArray):
 ∃r h' x',DenR Γ G 619 [.agg [vMo,vVa,vLo,vPr,vTh],vi m,.t (.str b)] h x=some (r,h',x')/\(r= .tup [vi (zGN (fun k=>decide (k=(m,b))) ks).1,vb (zGN (fun k=>decide (k=(m,b))) ks).2]/\h'=h/\x<=x'):=by
 (refine zay Γ619 rfl ?_;dsimp only[zOl])
 have v1:=s.vl;have v2:=s.cl;unfold V.cells at v2;have v3:=s.ln;simp -dsimp -implicitDefEqProofs only[go_sem,seval,v1,v2,v3];refine zaq 1073734592 rows.length (fun i f h' x'=>(f 13).v=vi i/\h'=h/\x<=x'/\ ∀(j:Nat) (n:Key),j<i->ks[j]? =some n->decide (n=(m,b))=false) rfl ⟨by simp -dsimp -implicitDefEqProofs only[go_sem,seval],rfl,by(try simp -dsimp -implicitDefEqProofs only[go_sem,seval]);(try omega),fun j n hj=>by omega⟩ ?_;rintro i f u h' x' bb hi ⟨g,rfl,hx,CA⟩
 by_cases AV:i<rows.length
 ·have h1:=eq_true AV;obtain⟨row,Ap,_⟩:=zai AV;obtain⟨⟨km,kb⟩,GE,_⟩:=zai (l:=ks) (i:=i) (by rw[<- hp.1];exact AV);obtain⟨rest,B3,BC⟩:=hp.2 i row _ Ap GE;obtain⟨p,k1,k2,k3⟩:=s.at_ i row Ap;subst B3;have hw:=zan i (by omega)
  have no: ¬(km=m/\kb=b)-> ∀(j:Nat) (n:Key),j<i+1->ks[j]? =some n->decide (n=(m,b))=false:=fun Az j n hj hn=>by
   by_cases DP:j=i
   ·subst DP;rw[GE]at hn;cases hn;simpa using fun h=>(not_and.1 Az) h
   ·exact CA j n (by omega) hn
  by_cases ha:km=m
  ·have HA:=eq_true ha
   by_cases hb:kb=b
   ·have Cx:=eq_true hb;have hf:zGN (fun k=>decide (k=(m,b))) ks=((i:Int),true):=zKL GE (by simp[ha,hb]) (fun j hj n hn=>CA j n hj hn);simp -dsimp -implicitDefEqProofs only[go_sem,seval,g,h1,v1,↓k1,k2,↓k3,BC,HA,Cx];exact⟨by rw[hf];rfl,rfl,by(try simp -dsimp -implicitDefEqProofs only[go_sem,seval]);(try omega)⟩
   ·have Cx:=eq_false hb;simp -dsimp -implicitDefEqProofs only[go_sem,seval,g,h1,v1,↓k1,k2,↓k3,BC,HA,Cx,hw];exact⟨AV,by simp -dsimp -implicitDefEqProofs only[go_sem,seval],rfl,by(try simp -dsimp -implicitDefEqProofs only[go_sem,seval]);(try omega),no fun h=>hb h.2⟩
  ·have HA:=eq_false ha;simp -dsimp -implicitDefEqProofs only[go_sem,seval,g,h1,v1,↓k1,k2,↓k3,BC,HA,hw];exact⟨AV,by simp -dsimp -implicitDefEqProofs only[go_sem,seval],rfl,by(try simp -dsimp -implicitDefEqProofs only[go_sem,seval]);(try omega),no fun h=>ha h.1⟩
 ·have h1:=eq_false AV
  have hf:zGN (fun k=>decide (k=(m,b))) ks=(0,false):=zI7 fun j n hn=>CA j n (by
   have:=(zH.1 hn).1;have:=hp.1
   omega) hn
  simp -dsimp -implicitDefEqProofs only[go_sem,seval,g,h1];exact⟨by rw[hf];rfl,rfl,by(try simp -dsimp -implicitDefEqProofs only[go_sem,seval]);(try omega)⟩
end Rg
end
section
namespace Rg
open Go
def zIB (b:ByteArray):ByteArray×ByteArray×Bool:=(⟨(Go.Lib.cut b.data.toList [46]).1.toArray⟩,⟨(Go.Lib.cut b.data.toList [46]).2.1.toArray⟩,(Go.Lib.cut b.data.toList [46]).2.2)
theorem zNk (b:ByteArray) (h:b.size<4294967281):Den Γ G 459 [.t (.str b),.t (.str (bs [46]))]=some (.tup [.t (.str (zIB b).1),.t (.str (zIB b).2.1),vb (zIB b).2.2]):=by
 refine zs3 Γ459 rfl rfl ?_;unfold zev;simp only[];rw[if_pos h];rfl
def zG1 (mn:List ByteArray) (pk:List Key) (module:Int) (path:ByteArray):Int×Int:=
 if module< -1\/(mn.length:Int)<=module then(0,1)
 else if 0<=module/\(zGN (fun k=>decide (k=(module,path))) pk).2=true then((zGN (fun k=>decide (k=(module,path))) pk).1,0)
 else if(zIB path).2.2=true/\(zGN (fun n=>decide (n=(zIB path).1)) mn).2=true/\(zGN (fun k=>decide (k=((zGN (fun n=>decide (n=(zIB path).1)) mn).1,(zIB path).2.1))) pk).2=true then
  ((zGN (fun k=>decide (k=((zGN (fun n=>decide (n=(zIB path).1)) mn).1,(zIB path).2.1))) pk).1,0)
 else(0,40)
theorem zIX {h:Nat->Option O} {x:Nat} {vMo vVa vLo vPr vTh:V} {rm rp:List (List V)} {mn:List ByteArray} {pk:List Key} (sm:SlR h vMo 22 rm) (sp:SlR h vPr 16 rp) (hm:Pw (fun row nm=> ∃rest,row= .t (.str nm)::rest/\rest.length=21) rm mn)
 (hp:Pw (fun row k=> ∃rest,row= .t (.str k.2):: .t (ti k.1)::rest/\rest.length=14) rp pk) (VJ:rm.length<2^40) (BL:rp.length<2^40) (m:Int) (b:ByteArray) (hb:b.size<4294967281):
 ∃r h' x',DenR Γ G 604 [.agg [vMo,vVa,vLo,vPr,vTh],vi m,.t (.str b)] h x=some (r,h',x')/\(r= .tup [vi (zG1 mn pk m b).1,vi (zG1 mn pk m b).2]/\h'=h/\x<=x'):=by
 (refine zay Γ604 rfl ?_;dsimp only[zOt])
 have v1:=sm.vl;have v2:=sm.cl;unfold V.cells at v2;have v3:=sm.ln;have SB:rm.length=mn.length:=hm.1;rw[SB]at v3;have TA:=zNk b hb
 generalize hP:zG1 mn pk m b=R
 unfold zG1 at hP
 -- the part behind the dot
 by_cases c1:m< -1
 ·have c1':=eq_true c1;rw[if_pos (.inl c1)]at hP;subst hP;simp -dsimp -implicitDefEqProofs only[go_sem,seval,c1'];exact⟨rfl,rfl,by(try simp -dsimp -implicitDefEqProofs only[go_sem,seval]);(try omega)⟩
 have c1':=eq_false c1
 by_cases c2:m>=(mn.length:Int)
 ·have c2':=eq_true c2;rw[if_pos (.inr c2)]at hP;subst hP;simp -dsimp -implicitDefEqProofs only[go_sem,seval,c1',v1,v2,v3,c2'];exact⟨rfl,rfl,by(try simp -dsimp -implicitDefEqProofs only[go_sem,seval]);(try omega)⟩
 have c2':=eq_false c2;rw[if_neg (by omega)]at hP
 by_cases c3:m>=0
 ·have c3':=eq_true c3;simp -dsimp -implicitDefEqProofs only[go_sem,seval,c1',v1,v2,v3,c2',c3'];refine zas (zHS sp hp BL m b) ?_;rintro r h' x' ⟨rfl,rfl,hx⟩
  by_cases f1:(zGN (fun k=>decide (k=(m,b))) pk).2=true
  ·rw[if_pos ⟨c3,f1⟩]at hP;subst hP;simp -dsimp -implicitDefEqProofs only[go_sem,seval,f1];exact⟨rfl,rfl,by(try simp -dsimp -implicitDefEqProofs only[go_sem,seval]);(try omega)⟩
  rw[if_neg (fun h=>f1 h.2)]at hP;have f1':=Bool.eq_false_iff.2 f1;simp -dsimp -implicitDefEqProofs only[go_sem,seval,f1',TA]
  by_cases d1:(zIB b).2.2=true
  ·simp -dsimp -implicitDefEqProofs only[go_sem,seval,d1];refine zas (zH3 sm hm VJ (zIB b).1) ?_;rintro r h' x' ⟨rfl,rfl,ML⟩
   by_cases d2:(zGN (fun n=>decide (n=(zIB b).1)) mn).2=true
   ·simp -dsimp -implicitDefEqProofs only[go_sem,seval,d2];refine zas (zHS sp hp BL (zGN (fun n=>decide (n=(zIB b).1)) mn).1 (zIB b).2.1) ?_;rintro r h' x' ⟨rfl,rfl,S1⟩
    by_cases d3:(zGN (fun k=>decide (k=((zGN (fun n=>decide (n=(zIB b).1)) mn).1,(zIB b).2.1))) pk).2=true
    ·rw[if_pos ⟨d1,d2,d3⟩]at hP;subst hP;simp -dsimp -implicitDefEqProofs only[go_sem,seval,d3];exact⟨rfl,rfl,by(try simp -dsimp -implicitDefEqProofs only[go_sem,seval]);(try omega)⟩
    ·rw[if_neg (fun h=>d3 h.2.2)]at hP;subst hP;have d3':=Bool.eq_false_iff.2 d3;simp -dsimp -implicitDefEqProofs only[go_sem,seval,d3'];exact⟨rfl,rfl,by(try simp -dsimp -implicitDefEqProofs only[go_sem,seval]);(try omega)⟩
   ·rw[if_neg (fun h=>d2 h.2.1)]at hP;subst hP;have d2':=Bool.eq_false_iff.2 d2;simp -dsimp -implicitDefEqProofs only[go_sem,seval,d2'];exact⟨rfl,rfl,by(try simp -dsimp -implicitDefEqProofs only[go_sem,seval]);(try omega)⟩
  ·rw[if_neg (fun h=>d1 h.1)]at hP;subst hP;have d1':=Bool.eq_false_iff.2 d1;simp -dsimp -implicitDefEqProofs only[go_sem,seval,d1'];exact⟨rfl,rfl,by(try simp -dsimp -implicitDefEqProofs only[go_sem,seval]);(try omega)⟩
 ·have c3':=eq_false c3;rw[if_neg (fun h=>c3 h.1)]at hP;simp -dsimp -implicitDefEqProofs only[go_sem,seval,c1',v1,v2,v3,c2',c3',TA]
  by_cases d1:(zIB b).2.2=true
  ·simp -dsimp -implicitDefEqProofs only[go_sem,seval,d1];refine zas (zH3 sm hm VJ (zIB b).1) ?_;rintro r h' x' ⟨rfl,rfl,ML⟩
   by_cases d2:(zGN (fun n=>decide (n=(zIB b).1)) mn).2=true
   ·simp -dsimp -implicitDefEqProofs only[go_sem,seval,d2];refine zas (zHS sp hp BL (zGN (fun n=>decide (n=(zIB b).1)) mn).1 (zIB b).2.1) ?_;rintro r h' x' ⟨rfl,rfl,S1⟩
    by_cases d3:(zGN (fun k=>decide (k=((zGN (fun n=>decide (n=(zIB b).1)) mn).1,(zIB b).2.1))) pk).2=true
    ·rw[if_pos ⟨d1,d2,d3⟩]at hP;subst hP;simp -dsimp -implicitDefEqProofs only[go_sem,seval,d3];exact⟨rfl,rfl,by(try simp -dsimp -implicitDefEqProofs only[go_sem,seval]);(try omega)⟩
    ·rw[if_neg (fun h=>d3 h.2.2)]at hP;subst hP;have d3':=Bool.eq_false_iff.2 d3;simp -dsimp -implicitDefEqProofs only[go_sem,seval,d3'];exact⟨rfl,rfl,by(try simp -dsimp -implicitDefEqProofs only[go_sem,seval]);(try omega)⟩
   ·rw[if_neg (fun h=>d2 h.2.1)]at hP;subst hP;have d2':=Bool.eq_false_iff.2 d2;simp -dsimp -implicitDefEqProofs only[go_sem,seval,d2'];exact⟨rfl,rfl,by(try simp -dsimp -implicitDefEqProofs only[go_sem,seval]);(try omega)⟩
  ·rw[if_neg (fun h=>d1 h.1)]at hP;subst hP;have d1':=Bool.eq_false_iff.2 d1;simp -dsimp -implicitDefEqProofs only[go_sem,seval,d1'];exact⟨rfl,rfl,by(try simp -dsimp -implicitDefEqProofs only[go_sem,seval]);(try omega)⟩
theorem CS.setva {ck:CK} {h h':Nat->Option O} {x x':Nat} {N N':Nat->Prop} {cv:CV} {ct:Ct} (s:CS ck h x N cv ct) (hx:x<=x') {v:V} {l:List Va} (h1:h' ck.c=some (.rows 9 [[cv.mo,v,cv.lo,cv.pr,cv.th,cv.bo,.fn 607 [] [.mp ck.d 0 0],.mm ck.n,.mm ck.r]] false)) (h2:zaF h' x' v 7 (zGk (l.map Va.enc))) (h3: ∀j,j<x->zbg v j)
 (hk: ∀j,j<x->j≠ck.c->zbg cv.va j->h' j=h j) (n1: ∀j,N j->N' j) (n2: ∀j,j<x->N' j->N j) (n3: ∀j,N' j->j<x'/\zbg v j):CS ck h' x' N' { cv with va:=v } { ct with vars:=l }/\FrC ck h x N cv h' x' N' { cv with va:=v }:=by
 obtain⟨l1,l2,l3,l4⟩:=s.lt;obtain⟨es,r1,r2⟩:=s.hr;obtain⟨rm,m1,m2⟩:=s.mo;obtain⟨rp,p1,p2⟩:=s.pr;obtain⟨rt,t1,t2⟩:=s.th;have key: ∀j,j<x->j≠ck.c->(∀r,h j≠some (.rows 7 r false))->h' j=h j:=fun j hj a1 a2=>hk j hj a1 (zGt fun e=>a2 _ (zGi s.va e).1)
 have EI: ∀j,j<x->N j->h' j=h j/\N' j:=fun j hj hn=>⟨hk j hj (fun e=>s.nt j hn (.inl e)) (zGt fun e=>s.nt j hn (by unfold Tp;simp[e])),n1 j hn⟩
 have tp: ∀j,Tp ck { cv with va:=v } j-> ¬zbg v j\/Tp ck cv j:=fun j ht=>by
  unfold Tp at ht⊢;rcases ht with ht | ht | ht | ht | ht | ht | ht | ht | ht | ht | ht<;>simp[ht]
 have G3: ∀j,N' j-> ¬Tp ck { cv with va:=v } j:=fun j hn ht=>by
  rcases tp j ht with h | h
  ·exact h (n3 j hn).2
  ·by_cases hj:j<x
   ·exact s.nt j (n2 j hj hn) h
   ·exact s.below (by omega) h
 refine⟨⟨h1,by rw[key _ l2 (fun e=>by have:=s.hd;rw[e,s.hc]at this;simp at this) (by simp[s.hd])];exact s.hd,by rw[key _ l3 (fun e=>by have:=s.hn;rw[e,s.hc]at this;simp at this) (by simp[s.hn])];exact s.hn,⟨es,by rw[key _ l4 (fun e=>by rw[e,s.hc]at r1;simp at r1) (by simp[r1])];exact r1,r2.imp fun _ _ o=>o.keep hx EI⟩,
  s.od.keep hx fun k AF hv=>key k AF (fun e=>by have:=(zGi s.od hv).1;rw[e,s.hc]at this;simp at this) (by simp[(zGi s.od hv).1]),⟨rm,m1.keep hx fun k AF hv=>key k AF (fun e=>by have:=(zGi m1 hv).1;rw[e,s.hc]at this;simp at this) (by simp[(zGi m1 hv).1]),m2.imp fun _ _ o=>o.keep hx EI⟩,h2,s.lo.keep hx fun k AF hv=>key k AF (fun e=>by have:=(zGi s.lo hv).1;rw[e,s.hc]at this;simp at this) (by simp[(zGi s.lo hv).1]),⟨rp,p1.keep hx fun k AF hv=>key k AF (fun e=>by have:=(zGi p1 hv).1;rw[e,s.hc]at this;simp at this) (by simp[(zGi p1 hv).1]),p2.imp fun _ _ o=>o.keep hx EI⟩,⟨rt,t1.keep hx fun k AF hv=>key k AF (fun e=>by have:=(zGi t1 hv).1;rw[e,s.hc]at this;simp at this) (by simp[(zGi t1 hv).1]),t2.imp fun _ _ o=>o.keep hx EI⟩,s.bo.keep hx fun k AF hv=>key k AF (fun e=>hv (e▸s.bc)) (by simp[(zGi s.bo hv).1]),⟨by omega,by omega,by omega,by omega⟩,s.ne,s.bc,G3,fun j hn=>(n3 j hn).1⟩,
  ⟨hx,fun j hj ht=>hk j hj (fun e=>ht (.inl e)) (zGt fun e=>ht (by unfold Tp;simp[e])),fun j hj ht=>(tp j ht).resolve_left fun h=>h (h3 j hj),n2,n1,rfl⟩⟩
theorem CS.setlo {ck:CK} {h h':Nat->Option O} {x x':Nat} {N N':Nat->Prop} {cv:CV} {ct:Ct} (s:CS ck h x N cv ct) (hx:x<=x') {v:V} {l:List Lk} (h1:h' ck.c=some (.rows 9 [[cv.mo,cv.va,v,cv.pr,cv.th,cv.bo,.fn 607 [] [.mp ck.d 0 0],.mm ck.n,.mm ck.r]] false)) (h2:zaF h' x' v 12 (zGk (l.map Lk.enc))) (h3: ∀j,j<x->zbg v j)
 (hk: ∀j,j<x->j≠ck.c->zbg cv.lo j->h' j=h j) (n1: ∀j,N j->N' j) (n2: ∀j,j<x->N' j->N j) (n3: ∀j,N' j->j<x'/\zbg v j):CS ck h' x' N' { cv with lo:=v } { ct with locks:=l }/\FrC ck h x N cv h' x' N' { cv with lo:=v }:=by
 obtain⟨l1,l2,l3,l4⟩:=s.lt;obtain⟨es,r1,r2⟩:=s.hr;obtain⟨rm,m1,m2⟩:=s.mo;obtain⟨rp,p1,p2⟩:=s.pr;obtain⟨rt,t1,t2⟩:=s.th;have key: ∀j,j<x->j≠ck.c->(∀r,h j≠some (.rows 12 r false))->h' j=h j:=fun j hj a1 a2=>hk j hj a1 (zGt fun e=>a2 _ (zGi s.lo e).1)
 have EI: ∀j,j<x->N j->h' j=h j/\N' j:=fun j hj hn=>⟨hk j hj (fun e=>s.nt j hn (.inl e)) (zGt fun e=>s.nt j hn (by unfold Tp;simp[e])),n1 j hn⟩
 have tp: ∀j,Tp ck { cv with lo:=v } j-> ¬zbg v j\/Tp ck cv j:=fun j ht=>by
  unfold Tp at ht⊢;rcases ht with ht | ht | ht | ht | ht | ht | ht | ht | ht | ht | ht<;>simp[ht]
 have G3: ∀j,N' j-> ¬Tp ck { cv with lo:=v } j:=fun j hn ht=>by
  rcases tp j ht with h | h
  ·exact h (n3 j hn).2
  ·by_cases hj:j<x
   ·exact s.nt j (n2 j hj hn) h
   ·exact s.below (by omega) h
 refine⟨⟨h1,by rw[key _ l2 (fun e=>by have:=s.hd;rw[e,s.hc]at this;simp at this) (by simp[s.hd])];exact s.hd,by rw[key _ l3 (fun e=>by have:=s.hn;rw[e,s.hc]at this;simp at this) (by simp[s.hn])];exact s.hn,⟨es,by rw[key _ l4 (fun e=>by rw[e,s.hc]at r1;simp at r1) (by simp[r1])];exact r1,r2.imp fun _ _ o=>o.keep hx EI⟩,
  s.od.keep hx fun k AF hv=>key k AF (fun e=>by have:=(zGi s.od hv).1;rw[e,s.hc]at this;simp at this) (by simp[(zGi s.od hv).1]),⟨rm,m1.keep hx fun k AF hv=>key k AF (fun e=>by have:=(zGi m1 hv).1;rw[e,s.hc]at this;simp at this) (by simp[(zGi m1 hv).1]),m2.imp fun _ _ o=>o.keep hx EI⟩,s.va.keep hx fun k AF hv=>key k AF (fun e=>by have:=(zGi s.va hv).1;rw[e,s.hc]at this;simp at this) (by simp[(zGi s.va hv).1]),h2,⟨rp,p1.keep hx fun k AF hv=>key k AF (fun e=>by have:=(zGi p1 hv).1;rw[e,s.hc]at this;simp at this) (by simp[(zGi p1 hv).1]),p2.imp fun _ _ o=>o.keep hx EI⟩,⟨rt,t1.keep hx fun k AF hv=>key k AF (fun e=>by have:=(zGi t1 hv).1;rw[e,s.hc]at this;simp at this) (by simp[(zGi t1 hv).1]),t2.imp fun _ _ o=>o.keep hx EI⟩,s.bo.keep hx fun k AF hv=>key k AF (fun e=>hv (e▸s.bc)) (by simp[(zGi s.bo hv).1]),⟨by omega,by omega,by omega,by omega⟩,s.ne,s.bc,G3,fun j hn=>(n3 j hn).1⟩,
  ⟨hx,fun j hj ht=>hk j hj (fun e=>ht (.inl e)) (zGt fun e=>ht (by unfold Tp;simp[e])),fun j hj ht=>(tp j ht).resolve_left fun h=>h (h3 j hj),n2,n1,rfl⟩⟩
theorem CS.setpr {ck:CK} {h h':Nat->Option O} {x x':Nat} {N N':Nat->Prop} {cv:CV} {ct:Ct} (s:CS ck h x N cv ct) (hx:x<=x') {v:V} {l:List Pr} (h1:h' ck.c=some (.rows 9 [[cv.mo,cv.va,cv.lo,v,cv.th,cv.bo,.fn 607 [] [.mp ck.d 0 0],.mm ck.n,.mm ck.r]] false)) (h2: ∃rows,zaF h' x' v 16 rows/\Pw (PrR h' x' N') rows l) (h3: ∀j,j<x->zbg v j)
 (hk: ∀j,j<x->j≠ck.c->zbg cv.pr j->h' j=h j) (n1: ∀j,N j->N' j) (n2: ∀j,j<x->N' j->N j) (n3: ∀j,N' j->j<x'/\zbg v j):CS ck h' x' N' { cv with pr:=v } { ct with procs:=l }/\FrC ck h x N cv h' x' N' { cv with pr:=v }:=by
 obtain⟨l1,l2,l3,l4⟩:=s.lt;obtain⟨es,r1,r2⟩:=s.hr;obtain⟨rm,m1,m2⟩:=s.mo;obtain⟨rp,p1,p2⟩:=s.pr;obtain⟨rt,t1,t2⟩:=s.th;have key: ∀j,j<x->j≠ck.c->(∀r,h j≠some (.rows 16 r false))->h' j=h j:=fun j hj a1 a2=>hk j hj a1 (zGt fun e=>a2 _ (zGi p1 e).1)
 have EI: ∀j,j<x->N j->h' j=h j/\N' j:=fun j hj hn=>⟨hk j hj (fun e=>s.nt j hn (.inl e)) (zGt fun e=>s.nt j hn (by unfold Tp;simp[e])),n1 j hn⟩
 have tp: ∀j,Tp ck { cv with pr:=v } j-> ¬zbg v j\/Tp ck cv j:=fun j ht=>by
  unfold Tp at ht⊢;rcases ht with ht | ht | ht | ht | ht | ht | ht | ht | ht | ht | ht<;>simp[ht]
 have G3: ∀j,N' j-> ¬Tp ck { cv with pr:=v } j:=fun j hn ht=>by
  rcases tp j ht with h | h
  ·exact h (n3 j hn).2
  ·by_cases hj:j<x
   ·exact s.nt j (n2 j hj hn) h
   ·exact s.below (by omega) h
 refine⟨⟨h1,by rw[key _ l2 (fun e=>by have:=s.hd;rw[e,s.hc]at this;simp at this) (by simp[s.hd])];exact s.hd,by rw[key _ l3 (fun e=>by have:=s.hn;rw[e,s.hc]at this;simp at this) (by simp[s.hn])];exact s.hn,⟨es,by rw[key _ l4 (fun e=>by rw[e,s.hc]at r1;simp at r1) (by simp[r1])];exact r1,r2.imp fun _ _ o=>o.keep hx EI⟩,
  s.od.keep hx fun k AF hv=>key k AF (fun e=>by have:=(zGi s.od hv).1;rw[e,s.hc]at this;simp at this) (by simp[(zGi s.od hv).1]),⟨rm,m1.keep hx fun k AF hv=>key k AF (fun e=>by have:=(zGi m1 hv).1;rw[e,s.hc]at this;simp at this) (by simp[(zGi m1 hv).1]),m2.imp fun _ _ o=>o.keep hx EI⟩,s.va.keep hx fun k AF hv=>key k AF (fun e=>by have:=(zGi s.va hv).1;rw[e,s.hc]at this;simp at this) (by simp[(zGi s.va hv).1]),s.lo.keep hx fun k AF hv=>key k AF (fun e=>by have:=(zGi s.lo hv).1;rw[e,s.hc]at this;simp at this) (by simp[(zGi s.lo hv).1]),h2,⟨rt,t1.keep hx fun k AF hv=>key k AF (fun e=>by have:=(zGi t1 hv).1;rw[e,s.hc]at this;simp at this) (by simp[(zGi t1 hv).1]),t2.imp fun _ _ o=>o.keep hx EI⟩,s.bo.keep hx fun k AF hv=>key k AF (fun e=>hv (e▸s.bc)) (by simp[(zGi s.bo hv).1]),⟨by omega,by omega,by omega,by omega⟩,s.ne,s.bc,G3,fun j hn=>(n3 j hn).1⟩,
  ⟨hx,fun j hj ht=>hk j hj (fun e=>ht (.inl e)) (zGt fun e=>ht (by unfold Tp;simp[e])),fun j hj ht=>(tp j ht).resolve_left fun h=>h (h3 j hj),n2,n1,rfl⟩⟩
theorem CS.setth {ck:CK} {h h':Nat->Option O} {x x':Nat} {N N':Nat->Prop} {cv:CV} {ct:Ct} (s:CS ck h x N cv ct) (hx:x<=x') {v:V} {l:List Th} (h1:h' ck.c=some (.rows 9 [[cv.mo,cv.va,cv.lo,cv.pr,v,cv.bo,.fn 607 [] [.mp ck.d 0 0],.mm ck.n,.mm ck.r]] false)) (h2: ∃rows,zaF h' x' v 5 rows/\Pw (ThR h' x' N') rows l) (h3: ∀j,j<x->zbg v j)
 (hk: ∀j,j<x->j≠ck.c->zbg cv.th j->h' j=h j) (n1: ∀j,N j->N' j) (n2: ∀j,j<x->N' j->N j) (n3: ∀j,N' j->j<x'/\zbg v j):CS ck h' x' N' { cv with th:=v } { ct with thrs:=l }/\FrC ck h x N cv h' x' N' { cv with th:=v }:=by
 obtain⟨l1,l2,l3,l4⟩:=s.lt;obtain⟨es,r1,r2⟩:=s.hr;obtain⟨rm,m1,m2⟩:=s.mo;obtain⟨rp,p1,p2⟩:=s.pr;obtain⟨rt,t1,t2⟩:=s.th;have key: ∀j,j<x->j≠ck.c->(∀r,h j≠some (.rows 5 r false))->h' j=h j:=fun j hj a1 a2=>hk j hj a1 (zGt fun e=>a2 _ (zGi t1 e).1)
 have EI: ∀j,j<x->N j->h' j=h j/\N' j:=fun j hj hn=>⟨hk j hj (fun e=>s.nt j hn (.inl e)) (zGt fun e=>s.nt j hn (by unfold Tp;simp[e])),n1 j hn⟩
 have tp: ∀j,Tp ck { cv with th:=v } j-> ¬zbg v j\/Tp ck cv j:=fun j ht=>by
  unfold Tp at ht⊢;rcases ht with ht | ht | ht | ht | ht | ht | ht | ht | ht | ht | ht<;>simp[ht]
 have G3: ∀j,N' j-> ¬Tp ck { cv with th:=v } j:=fun j hn ht=>by
  rcases tp j ht with h | h
  ·exact h (n3 j hn).2
  ·by_cases hj:j<x
   ·exact s.nt j (n2 j hj hn) h
   ·exact s.below (by omega) h
 refine⟨⟨h1,by rw[key _ l2 (fun e=>by have:=s.hd;rw[e,s.hc]at this;simp at this) (by simp[s.hd])];exact s.hd,by rw[key _ l3 (fun e=>by have:=s.hn;rw[e,s.hc]at this;simp at this) (by simp[s.hn])];exact s.hn,⟨es,by rw[key _ l4 (fun e=>by rw[e,s.hc]at r1;simp at r1) (by simp[r1])];exact r1,r2.imp fun _ _ o=>o.keep hx EI⟩,
  s.od.keep hx fun k AF hv=>key k AF (fun e=>by have:=(zGi s.od hv).1;rw[e,s.hc]at this;simp at this) (by simp[(zGi s.od hv).1]),⟨rm,m1.keep hx fun k AF hv=>key k AF (fun e=>by have:=(zGi m1 hv).1;rw[e,s.hc]at this;simp at this) (by simp[(zGi m1 hv).1]),m2.imp fun _ _ o=>o.keep hx EI⟩,s.va.keep hx fun k AF hv=>key k AF (fun e=>by have:=(zGi s.va hv).1;rw[e,s.hc]at this;simp at this) (by simp[(zGi s.va hv).1]),s.lo.keep hx fun k AF hv=>key k AF (fun e=>by have:=(zGi s.lo hv).1;rw[e,s.hc]at this;simp at this) (by simp[(zGi s.lo hv).1]),⟨rp,p1.keep hx fun k AF hv=>key k AF (fun e=>by have:=(zGi p1 hv).1;rw[e,s.hc]at this;simp at this) (by simp[(zGi p1 hv).1]),p2.imp fun _ _ o=>o.keep hx EI⟩,h2,s.bo.keep hx fun k AF hv=>key k AF (fun e=>hv (e▸s.bc)) (by simp[(zGi s.bo hv).1]),⟨by omega,by omega,by omega,by omega⟩,s.ne,s.bc,G3,fun j hn=>(n3 j hn).1⟩,
  ⟨hx,fun j hj ht=>hk j hj (fun e=>ht (.inl e)) (zGt fun e=>ht (by unfold Tp;simp[e])),fun j hj ht=>(tp j ht).resolve_left fun h=>h (h3 j hj),n2,n1,rfl⟩⟩
theorem CS.setbo {ck:CK} {h h':Nat->Option O} {x x':Nat} {N N':Nat->Prop} {cv:CV} {ct:Ct} (s:CS ck h x N cv ct) (hx:x<=x') {v:V} {l:List Nd} (h1:h' ck.c=some (.rows 9 [[cv.mo,cv.va,cv.lo,cv.pr,cv.th,v,.fn 607 [] [.mp ck.d 0 0],.mm ck.n,.mm ck.r]] false)) (h2:zaF h' x' v 9 (zGk (l.map Nd.enc))) (h3: ∀j,j<x->zbg v j)
 (hk: ∀j,j<x->j≠ck.c->zbg cv.bo j->h' j=h j) (n1: ∀j,N j->N' j) (n2: ∀j,j<x->N' j->N j) (n3: ∀j,N' j->j<x'/\zbg v j):CS ck h' x' N' { cv with bo:=v } { ct with bodies:=l }/\FrM ck h x N cv h' x' N' { cv with bo:=v }:=by
 obtain⟨l1,l2,l3,l4⟩:=s.lt;obtain⟨es,r1,r2⟩:=s.hr;obtain⟨rm,m1,m2⟩:=s.mo;obtain⟨rp,p1,p2⟩:=s.pr;obtain⟨rt,t1,t2⟩:=s.th;have key: ∀j,j<x->j≠ck.c->(∀r,h j≠some (.rows 9 r false))->h' j=h j:=fun j hj a1 a2=>hk j hj a1 (zGt fun e=>a2 _ (zGi s.bo e).1)
 have EI: ∀j,j<x->N j->h' j=h j/\N' j:=fun j hj hn=>⟨hk j hj (fun e=>s.nt j hn (.inl e)) (zGt fun e=>s.nt j hn (by unfold Tp;simp[e])),n1 j hn⟩
 have tp: ∀j,Tp ck { cv with bo:=v } j-> ¬zbg v j\/Tp ck cv j:=fun j ht=>by
  unfold Tp at ht⊢;rcases ht with ht | ht | ht | ht | ht | ht | ht | ht | ht | ht | ht<;>simp[ht]
 have G3: ∀j,N' j-> ¬Tp ck { cv with bo:=v } j:=fun j hn ht=>by
  rcases tp j ht with h | h
  ·exact h (n3 j hn).2
  ·by_cases hj:j<x
   ·exact s.nt j (n2 j hj hn) h
   ·exact s.below (by omega) h
 refine⟨⟨h1,by rw[key _ l2 (fun e=>by have:=s.hd;rw[e,s.hc]at this;simp at this) (by simp[s.hd])];exact s.hd,by rw[key _ l3 (fun e=>by have:=s.hn;rw[e,s.hc]at this;simp at this) (by simp[s.hn])];exact s.hn,⟨es,by rw[key _ l4 (fun e=>by rw[e,s.hc]at r1;simp at r1) (by simp[r1])];exact r1,r2.imp fun _ _ o=>o.keep hx EI⟩,
  s.od.keep hx fun k AF hv=>key k AF (fun e=>by have:=(zGi s.od hv).1;rw[e,s.hc]at this;simp at this) (by simp[(zGi s.od hv).1]),⟨rm,m1.keep hx fun k AF hv=>key k AF (fun e=>by have:=(zGi m1 hv).1;rw[e,s.hc]at this;simp at this) (by simp[(zGi m1 hv).1]),m2.imp fun _ _ o=>o.keep hx EI⟩,s.va.keep hx fun k AF hv=>key k AF (fun e=>by have:=(zGi s.va hv).1;rw[e,s.hc]at this;simp at this) (by simp[(zGi s.va hv).1]),s.lo.keep hx fun k AF hv=>key k AF (fun e=>by have:=(zGi s.lo hv).1;rw[e,s.hc]at this;simp at this) (by simp[(zGi s.lo hv).1]),⟨rp,p1.keep hx fun k AF hv=>key k AF (fun e=>by have:=(zGi p1 hv).1;rw[e,s.hc]at this;simp at this) (by simp[(zGi p1 hv).1]),p2.imp fun _ _ o=>o.keep hx EI⟩,⟨rt,t1.keep hx fun k AF hv=>key k AF (fun e=>by have:=(zGi t1 hv).1;rw[e,s.hc]at this;simp at this) (by simp[(zGi t1 hv).1]),t2.imp fun _ _ o=>o.keep hx EI⟩,h2,⟨by omega,by omega,by omega,by omega⟩,s.ne,h3 _ l1,G3,fun j hn=>(n3 j hn).1⟩,
  ⟨hx,fun j hj ht=>hk j hj (fun e=>ht (.inl e)) (zGt fun e=>ht (by unfold Tp;simp[e])),fun j hj ht=>(tp j ht).resolve_left fun h=>h (h3 j hj),n2,n1⟩⟩
theorem CS.setn {ck:CK} {h h':Nat->Option O} {x x':Nat} {N N':Nat->Prop} {cv:CV} {ct:Ct} (s:CS ck h x N cv ct) (hx:x<=x') {l:List Key} (h1:h' ck.n=some (.map (l.map fun k=>(zJM k,vb true))))
 (hk: ∀j,j<x->j≠ck.n->h' j=h j) (n1: ∀j,N j->N' j) (n2: ∀j,j<x->N' j->N j) (n3: ∀j,N' j->j<x'):CS ck h' x' N' cv { ct with names:=l }/\FrC ck h x N cv h' x' N' cv:=by
 obtain⟨l1,l2,l3,l4⟩:=s.lt;obtain⟨es,r1,r2⟩:=s.hr;obtain⟨rm,m1,m2⟩:=s.mo;obtain⟨rp,p1,p2⟩:=s.pr;obtain⟨rt,t1,t2⟩:=s.th;have gX:=s.hn;have EI: ∀j,j<x->N j->h' j=h j/\N' j:=fun j hj hn=>⟨hk j hj (fun e=>s.nt j hn (by unfold Tp;simp[e])),n1 j hn⟩
 have G3: ∀j,N' j-> ¬Tp ck cv j:=fun j hn ht=>by
  by_cases hj:j<x
  ·exact s.nt j (n2 j hj hn) ht
  ·exact s.below (by omega) ht
 refine⟨⟨by rw[hk _ l1 (fun e=>by have:=s.hc;rw[e,gX]at this;simp at this)];exact s.hc,by rw[hk _ l2 (fun e=>by have:=s.hd;rw[e,gX]at this;simp at this)];exact s.hd,h1,⟨es,by rw[hk _ l4 s.ne.symm];exact r1,r2.imp fun _ _ o=>o.keep hx EI⟩,
  s.od.keep hx fun k AF hv=>hk k AF (fun e=>by have:=(zGi s.od hv).1;rw[e,gX]at this;simp at this),⟨rm,m1.keep hx fun k AF hv=>hk k AF (fun e=>by have:=(zGi m1 hv).1;rw[e,gX]at this;simp at this),m2.imp fun _ _ o=>o.keep hx EI⟩,s.va.keep hx fun k AF hv=>hk k AF (fun e=>by have:=(zGi s.va hv).1;rw[e,gX]at this;simp at this),s.lo.keep hx fun k AF hv=>hk k AF (fun e=>by have:=(zGi s.lo hv).1;rw[e,gX]at this;simp at this),⟨rp,p1.keep hx fun k AF hv=>hk k AF (fun e=>by have:=(zGi p1 hv).1;rw[e,gX]at this;simp at this),p2.imp fun _ _ o=>o.keep hx EI⟩,⟨rt,t1.keep hx fun k AF hv=>hk k AF (fun e=>by have:=(zGi t1 hv).1;rw[e,gX]at this;simp at this),t2.imp fun _ _ o=>o.keep hx EI⟩,s.bo.keep hx fun k AF hv=>hk k AF (fun e=>by have:=(zGi s.bo hv).1;rw[e,gX]at this;simp at this),⟨by omega,by omega,by omega,by omega⟩,s.ne,s.bc,G3,n3⟩,
  ⟨hx,fun j hj ht=>hk j hj (fun e=>ht (by unfold Tp;simp[e])),fun _ _ h=>h,n2,n1,rfl⟩⟩
theorem CS.setr {ck:CK} {h h':Nat->Option O} {x x':Nat} {N N':Nat->Prop} {cv:CV} {ct:Ct} (s:CS ck h x N cv ct) (hx:x<=x') {l:List (Key×List Nd)} (h1: ∃es,h' ck.r=some (.map es)/\Pw (RcR h' x' N') es l)
 (hk: ∀j,j<x->j≠ck.r->h' j=h j) (n1: ∀j,N j->N' j) (n2: ∀j,j<x->N' j->N j) (n3: ∀j,N' j->j<x'):CS ck h' x' N' cv { ct with recs:=l }/\FrC ck h x N cv h' x' N' cv:=by
 obtain⟨l1,l2,l3,l4⟩:=s.lt;obtain⟨es,r1,r2⟩:=s.hr;obtain⟨rm,m1,m2⟩:=s.mo;obtain⟨rp,p1,p2⟩:=s.pr;obtain⟨rt,t1,t2⟩:=s.th;have gX:=r1;have EI: ∀j,j<x->N j->h' j=h j/\N' j:=fun j hj hn=>⟨hk j hj (fun e=>s.nt j hn (by unfold Tp;simp[e])),n1 j hn⟩
 have G3: ∀j,N' j-> ¬Tp ck cv j:=fun j hn ht=>by
  by_cases hj:j<x
  ·exact s.nt j (n2 j hj hn) ht
  ·exact s.below (by omega) ht
 refine⟨⟨by rw[hk _ l1 (fun e=>by have:=s.hc;rw[e,gX]at this;simp at this)];exact s.hc,by rw[hk _ l2 (fun e=>by have:=s.hd;rw[e,gX]at this;simp at this)];exact s.hd,by rw[hk _ l3 s.ne];exact s.hn,h1,
  s.od.keep hx fun k AF hv=>hk k AF (fun e=>by have:=(zGi s.od hv).1;rw[e,gX]at this;simp at this),⟨rm,m1.keep hx fun k AF hv=>hk k AF (fun e=>by have:=(zGi m1 hv).1;rw[e,gX]at this;simp at this),m2.imp fun _ _ o=>o.keep hx EI⟩,s.va.keep hx fun k AF hv=>hk k AF (fun e=>by have:=(zGi s.va hv).1;rw[e,gX]at this;simp at this),s.lo.keep hx fun k AF hv=>hk k AF (fun e=>by have:=(zGi s.lo hv).1;rw[e,gX]at this;simp at this),⟨rp,p1.keep hx fun k AF hv=>hk k AF (fun e=>by have:=(zGi p1 hv).1;rw[e,gX]at this;simp at this),p2.imp fun _ _ o=>o.keep hx EI⟩,⟨rt,t1.keep hx fun k AF hv=>hk k AF (fun e=>by have:=(zGi t1 hv).1;rw[e,gX]at this;simp at this),t2.imp fun _ _ o=>o.keep hx EI⟩,s.bo.keep hx fun k AF hv=>hk k AF (fun e=>by have:=(zGi s.bo hv).1;rw[e,gX]at this;simp at this),⟨by omega,by omega,by omega,by omega⟩,s.ne,s.bc,G3,n3⟩,
  ⟨hx,fun j hj ht=>hk j hj (fun e=>ht (by unfold Tp;simp[e])),fun _ _ h=>h,n2,n1,rfl⟩⟩
theorem zGZ (a b:ByteArray):zeu (.str a) (.str b)=some (decide (a=b)):=by
 show some (a==b)=_;rw[zjF,zNx]
theorem zHd (a b:Int):zeu (ti a) (ti b)=some (decide (a=b)):=by
 simp only[zeu,if_true,zFu]
theorem zGR (a b:Key):zeu (zJM a) (zJM b)=some (decide (a=b)):=by
 obtain⟨a1,a2⟩:=a;obtain⟨b1,b2⟩:=b;simp only[zeu,zfw,zsp,if_true,zC,zD];rw[zjF,zNx,zFu]
 by_cases h1:a1=b1
 ·by_cases h2:a2=b2<;>simp[h1,h2]
 ·simp[h1]
abbrev zHu {α:Type} (f:α->T) (l:List α):List (T×V):=l.map fun k=>(f k,vb true)
def zG5 {α:Type} [DecidableEq α] (l:List α) (a:α):Bool:=l.any fun b=>decide (b=a)
theorem zIf {α:Type} [DecidableEq α] {l:List α} {a:α}:zG5 l a=true<->a∈l:=by simp[zG5]
theorem zIQ {α:Type} [DecidableEq α] {f:α->T} (hf: ∀a b,zeu (f a) (f b)=some (decide (a=b))) (a:α): ∀l:List α,zbo (f a) (zHu f l)=some (if zG5 l a then some (vb true)else none)
 | []=>rfl
 | b::l=>by
   have ih:=zIQ hf a l;rw[zHu]at ih;rw[zHu,List.map_cons,zbo,hf,zG5,List.any_cons]
   by_cases h:a=b
   ·subst h;simp
   ·have h': ¬b=a:=fun e=>h e.symm
    simp only[h,h',decide_false,Bool.false_or];exact ih
theorem zLr {α:Type} [DecidableEq α] {f:α->T} (hf: ∀a b,zeu (f a) (f b)=some (decide (a=b))) (a:α): ∀l:List α,zG5 l a=false->zbF (f a) (vb true) (zHu f l)=some (zHu f (l++[a]))
 | [],_=>rfl
 | b::l,h=>by
   rw[zG5,List.any_cons,Bool.or_eq_false_iff]at h;have h1: ¬a=b:=fun e=>by have:=h.1;simp[e]at this
   have ih:=zLr hf a l h.2;rw[zHu]at ih;rw[zHu,List.map_cons,zbF,hf];simp[h1,ih]
@[go_sem]theorem zNI (m:Int) (b:ByteArray):zj1 16 (.agg [.t (ti m),.t (.str b)])=some (zJM (m,b)):=rfl
theorem CS.le {ck:CK} {h:Nat->Option O} {x y:Nat} {N:Nat->Prop} {cv:CV} {ct:Ct} (s:CS ck h x N cv ct) (hy:x<=y):CS ck h y N cv ct:=
 s.keep hy (fun _ _ _=>rfl) (fun _ _ h=>h) s.nt (fun j h=>by have:=s.nl j h;omega)
theorem FrC.lo {ck:CK} {h h':Nat->Option O} {x y x':Nat} {N N':Nat->Prop} {cv cv':CV} (a:FrC ck h y N cv h' x' N' cv') (hy:x<=y):FrC ck h x N cv h' x' N' cv':=
 ⟨Nat.le_trans hy a.le,fun j hj=>a.kp j (by omega),fun j hj=>a.tp j (by omega),fun j hj=>a.nn j (by omega),a.nm,a.bo⟩
theorem zvH {ck:CK} {h:Nat->Option O} {x y:Nat} {N:Nat->Prop} {cv:CV} {ct:Ct} (s:CS ck h x N cv ct) (hy:x<=y) (e:Int) (n:Nd):
 ∃r h' x',DenR Γ G 607 [vi e,(.agg [.t (ti (n).kind),.t (.str (n).name),.t (.str (n).other),.t (ti (n).n),.t (ti (n).len),.t (ti (n).init),.t (tb (n).ghost),.t (.sl ((n).kids.map Nd.enc)),.t (ti (n).pos)]),.mp ck.d 0 0] h y=some (r,h',x')/\ ∃v',CS ck h' x' N { cv with d:=v' } (ct.report e n.pos)/\FrC ck h x N cv h' x' N { cv with d:=v' }:=by
 obtain⟨r,h',x',h1,cv',h2,h3⟩:=zM4 (s.le hy) e n;exact⟨r,h',x',h1,cv',h2,h3.lo hy⟩
def Ct.lock (ct:Ct) (m:Int) (n:Nd):Ct×Bool:=
 if ct.locks.length>=4 then(ct.report 2 n.pos,false)else({ ct with locks:=ct.locks++[⟨n.name,m,zGC n,n.pos⟩] },true)
theorem zL0 (l:Lk):l.enc.length=12:=by simp[Lk.enc,zGz]
theorem zMD {ck:CK} {h:Nat->Option O} {x:Nat} {N:Nat->Prop} {cv:CV} {ct:Ct} (s:CS ck h x N cv ct) (m:Int) (n:Nd) (hn:(zGC n).size<900) (hl:ct.locks.length<2^20):
 ∃r h' x',DenR Γ G 624 [.mp ck.c 0 0,vi m,(.agg [.t (ti (n).kind),.t (.str (n).name),.t (.str (n).other),.t (ti (n).n),.t (ti (n).len),.t (ti (n).init),.t (tb (n).ghost),.t (.sl ((n).kids.map Nd.enc)),.t (ti (n).pos)])] h x=some (r,h',x')/\(r=vb (ct.lock m n).2/\ ∃cv',CS ck h' x' N cv' (ct.lock m n).1/\FrC ck h x N cv h' x' N cv'):=by
 have hc:=s.hc;have v1:=s.lo.valOf;have v2:=s.lo.lenS;rw[show(zGk (ct.locks.map Lk.enc)).length=ct.locks.length by simp]at v2
 (refine zay Γ624 rfl ?_;dsimp only[zOg])
 unfold Ct.lock
 by_cases hl:ct.locks.length>=4
 ·have h1:((ct.locks.length:Int)>=4)=True:=eq_true (by omega);rw[if_pos hl];simp -dsimp -implicitDefEqProofs only[go_sem,seval,hc,v1,v2,h1];refine zas (zvH s (by omega) 2 n) ?_;rintro r h' x' ⟨v',s',f'⟩;simp -dsimp -implicitDefEqProofs only[go_sem,seval];exact⟨rfl,_,s'.le (by(try simp -dsimp -implicitDefEqProofs only[go_sem,seval]);(try omega)),f'.trans ⟨by(try simp -dsimp -implicitDefEqProofs only[go_sem,seval]);(try omega),fun _ _ _=>rfl,fun _ _ h=>h,fun _ _ h=>h,fun _ h=>h,rfl⟩⟩
 ·have h1:((ct.locks.length:Int)>=4)=False:=eq_false (by omega);rw[if_neg hl];have h2:=zJO n;have h3:=zIg (zGC n) hn;have r1:=s.lo.r3;have lc:=s.lt.1;simp -dsimp -implicitDefEqProofs only[go_sem,seval,hc,v1,v2,h1,h2,h3,r1];refine zav (s.lo.upd (by omega) _) (by omega) (by simp;omega) (by decide) (by simp) (by simp[zL0]) ?_;intro v hp hP Bp Aq;have z1:=hP.valOf;have z2:=zGv hP;unfold V.cells at z2;have Mv:zbg cv.lo ck.c:=zGA s.lo hc (by decide);have CG:=Aq ck.c (by omega) Mv;rw[zaa,if_neg (by omega),hc]at CG;simp -dsimp -implicitDefEqProofs only[go_sem,seval,z1,z2,CG];refine⟨rfl,{ cv with lo:=v },s.setlo ?_ ?_ ?_ (fun j hj=>Bp j (by omega)) (fun j hj j1 j2=> ?_) (fun _ h=>h) (fun _ _ h=>h) (fun j hj=>⟨?_,Bp j (by have:=s.nl j hj;omega)⟩)⟩
  ·(try simp -dsimp -implicitDefEqProofs only[go_sem,seval]);(try omega)
  ·simp only[zaC,zaA];rw[zaa,if_pos rfl]
  ·rw[List.map_append,zGk,List.map_append];simp only[zaC,zaA];refine zaF.keep (rows:=_) (by simpa[Lk.enc,Nd.enc_eq]using hP) (by(try simp -dsimp -implicitDefEqProofs only[go_sem,seval]);(try omega)) fun q q1 q2=> ?_
   have:q≠ck.c:=by rintro rfl;exact q2 (Bp _ (by omega))
   rw[zaa,if_neg this]
  ·simp only[zaC,zaA];rw[zaa,if_neg j1,Aq j (by omega) j2,zaa,if_neg (by omega)]
  ·have:=s.nl j hj
   (try simp -dsimp -implicitDefEqProofs only[go_sem,seval]);(try omega)
theorem FrC.loc {ck:CK} {h h' h'':Nat->Option O} {x x' x'':Nat} {N N':Nat->Prop} {cv cv':CV} (a:FrC ck h x N cv h' x' N' cv') (hx:x'<=x'') (hh: ∀j,j<x->h'' j=h' j):FrC ck h x N cv h'' x'' N' cv':=
 ⟨Nat.le_trans a.le hx,fun j hj ht=>(hh j hj).trans (a.kp j hj ht),a.tp,a.nn,a.nm,a.bo⟩
theorem CS.loc {ck:CK} {h' h'':Nat->Option O} {x' x'':Nat} {N:Nat->Prop} {cv:CV} {ct:Ct} (s:CS ck h' x' N cv ct) (hx:x'<=x'') (hh: ∀j,j<x'->Tp ck cv j\/N j->h'' j=h' j):CS ck h'' x'' N cv ct:=
 s.keep hx hh (fun _ _ h=>h) s.nt (fun j h=>by have:=s.nl j h;omega)
def zGm (st:Ct×List Nd) (f:Nd):Ct×List Nd:=
 if zG5 (st.2.map Nd.name) f.name then(st.1.report 41 f.pos,st.2)else if 1<=f.n/\f.n<=8 then(st.1,st.2++[f])else(st.1.report 50 f.pos,st.2)
def Ct.fields (ct:Ct) (n:Nd):Ct×List Nd:=(zGo n 52).foldl zGm (ct,[])
structure FI (ck:CK) (h:Nat->Option O) (x:Nat) (N:Nat->Prop) (cv:CV) (km:Nat) (st:Ct×List Nd) (v:V) (h':Nat->Option O) (x':Nat):Prop where
 ex: ∃d,CS ck h' x' N { cv with d:=d } st.1/\FrC ck h x N cv h' x' N { cv with d:=d }/\(∀j,¬zbg v j-> ¬Tp ck { cv with d:=d } j)/\ ¬Tp ck { cv with d:=d } km
 ow:zaF h' x' v 9 (zGk (st.2.map Nd.enc))
 fr: ∀j,j<x->zbg v j
 mp:h' km=some (.map (zHu T.str (st.2.map Nd.name)))
 lt:km<x'
theorem zLi {ck:CK} {h:Nat->Option O} {x:Nat} {N:Nat->Prop} {cv:CV} {ct:Ct} (s:CS ck h x N cv ct) (n:Nd) (hl:n.kids.length<2^20):
 ∃r h' x',DenR Γ G 622 [.mp ck.c 0 0,(.agg [.t (ti (n).kind),.t (.str (n).name),.t (.str (n).other),.t (ti (n).n),.t (ti (n).len),.t (ti (n).init),.t (tb (n).ghost),.t (.sl ((n).kids.map Nd.enc)),.t (ti (n).pos)])] h x=some (r,h',x')/\(zaF h' x' r 9 (zGk ((ct.fields n).2.map Nd.enc))/\(∀j,j<x->zbg r j)/\ ∃d,CS ck h' x' N { cv with d:=d } (ct.fields n).1/\FrC ck h x N cv h' x' N { cv with d:=d }/\(∀j,¬zbg r j-> ¬Tp ck { cv with d:=d } j)):=by
 (refine zay Γ622 rfl ?_;dsimp only[zOi])
 have hk:=zHt n 52 (by omega);have Mw:(zGo n 52).length<2^20:=Nat.lt_of_le_of_lt (List.length_filter_le _ _) hl;simp -dsimp -implicitDefEqProofs only[go_sem,seval,hk];refine zaq 140737488347456 (zGo n 52).length (fun i f h' x'=>(f 13).v=vi i/\FI ck h x N cv (x+2+0) (((zGo n 52).take i).foldl zGm (ct,[])) (f 6).v h' x') rfl ?_ ?_
 ·refine⟨by simp -dsimp -implicitDefEqProofs only[go_sem,seval],⟨⟨cv.d,s.loc (by(try simp -dsimp -implicitDefEqProofs only[go_sem,seval]);(try omega)) fun j hj _=> ?_,FrC.refl.loc (by(try simp -dsimp -implicitDefEqProofs only[go_sem,seval]);(try omega)) fun j hj=> ?_,fun j hj=> ?_,s.below (by omega)⟩,.inl ⟨by simp -dsimp -implicitDefEqProofs only[go_sem,seval],rfl⟩,fun j hj=> ?_,?_,by(try simp -dsimp -implicitDefEqProofs only[go_sem,seval]);(try omega)⟩⟩
  ·(try simp only[zaC,zaA])
   rw[zaa,if_neg (by omega)]
  ·(try simp only[zaC,zaA])
   rw[zaa,if_neg (by omega)]
  ·exact absurd (by simp -dsimp -implicitDefEqProofs only[go_sem,seval];intro i n e;cases e) hj
  ·simp -dsimp -implicitDefEqProofs only[go_sem,seval];intro i n e;cases e
  ·(try simp only[zaC,zaA])
   rw[zaa,if_pos rfl];rfl
 rintro i f u h' x' bb hi ⟨g,⟨d,sd,fd,G3,K0⟩,hO,SA,Ho,Ad⟩;have PA:=fd.le
 by_cases AV:i<(zGo n 52).length
 ·have h1:=eq_true AV;obtain⟨a,ha,Cp⟩:=zai AV;have hw:=zan i (by omega);have Bj:((zGo n 52).map Nd.enc)[i]? =some a.enc:=by rw[zJ,ha];rfl
  have LC:((zGo n 52).take (i+1)).foldl zGm (ct,[])=zGm (((zGo n 52).take i).foldl zGm (ct,[])) a:=by rw[zaf ha,List.foldl_append];rfl
  rw[LC]
  generalize AE:((zGo n 52).take i).foldl zGm (ct,[])=st at *
  have D2:=zIQ zGZ a.name (st.2.map Nd.name);have hc:=sd.hc
  by_cases c1:zG5 (st.2.map Nd.name) a.name=true
  ·rw[c1]at D2;have hs:zGm st a=(st.1.report 41 a.pos,st.2):=by unfold zGm;rw[if_pos c1]
   rw[hs];simp -dsimp -implicitDefEqProofs only[go_sem,seval,g,h1,Bj,Nd.enc_eq,Ho,D2,hc,if_true,Option.getD_some];refine zas (zvH sd (by omega) 41 a) ?_;rintro r h2 x2 ⟨d2,s2,f2⟩;have Cz:=hO.keep f2.le fun k hk hv=>f2.kp k hk (G3 k hv)
   have Mu:=f2.kp _ Ad K0;rw[Ho]at Mu;simp -dsimp -implicitDefEqProofs only[go_sem,seval,g,hw];refine⟨AV,by simp -dsimp -implicitDefEqProofs only[go_sem,seval],⟨⟨d2,s2.le (by(try simp -dsimp -implicitDefEqProofs only[go_sem,seval]);(try omega)),(fd.trans f2).loc (by(try simp -dsimp -implicitDefEqProofs only[go_sem,seval]);(try omega)) fun _ _=>rfl,fun j hj ht=> ?_,fun ht=>K0 (f2.tp _ (by omega) ht)⟩,?_,by simp -dsimp -implicitDefEqProofs only[go_sem,seval];exact SA,Mu,by have:=f2.le;(try simp -dsimp -implicitDefEqProofs only[go_sem,seval]);(try omega)⟩⟩
   ·(try simp -dsimp -implicitDefEqProofs only[go_sem,seval]at hj)
    exact G3 j hj (f2.tp j (zGi hO hj).2 ht)
   ·simp -dsimp -implicitDefEqProofs only[go_sem,seval];exact Cz.le (by(try simp -dsimp -implicitDefEqProofs only[go_sem,seval]);(try omega))
  ·have c1':=Bool.eq_false_iff.2 c1;rw[c1']at D2;have SP:=zIh a.n
   by_cases c2:1<=a.n/\a.n<=8
   ·have hs:zGm st a=(st.1,st.2++[a]):=by unfold zGm;rw[if_neg c1,if_pos c2]
    rw[hs];have c2':=eq_true c2;have Gy:=zLr zGZ a.name (st.2.map Nd.name) c1';have Qk:zbg (f 6).v (x+2+0):=zHH hO Ho
    have O0: ∀m,zaF (updC h' (x+2+0) m) x' (f 6).v 9 (zGk (st.2.map Nd.enc)):=fun m=>hO.keep (Nat.le_refl _) fun q q1 q2=>by
     have:q≠x+2+0:=by rintro rfl;exact q2 Qk
     rw[zaa,if_neg this]
    have v1:=hO.valOf;have r6: ∀m (a b c d e f:Nat) z,Rg.rowsS (updC (updC h' (x+2+0) m) (x'+a+b+c+d+e+f) z) (‹Nat->Slot› 6).v=some (zGk (st.2.map Nd.enc)):=fun m a b c d e f z=>((O0 m).upd (by omega) z).rowsS
    simp -dsimp -implicitDefEqProofs only[go_sem,seval,g,h1,Bj,Nd.enc_eq,Ho,D2,hc,zG,if_false,Option.getD_none,SP,c2',Gy,v1,r6]
    have BA:st.2.length<2^21:=by
     have key: ∀(l:List Nd) (q:Ct×List Nd),(l.foldl zGm q).2.length<=q.2.length+l.length:=fun l=>by
      induction l with
      | nil=>intro q;simp
      | cons a l ih=>
        intro q;have:=ih (zGm q a)
        have h1:(zGm q a).2.length<=q.2.length+1:=by
         unfold zGm;split
         ·simp
         ·split<;>simp
        simp only[List.foldl_cons,List.length_cons];omega
     have:=key ((zGo n 52).take i) (ct,[]);rw[AE]at this;simp only[List.length_nil,List.length_take]at this;omega
    refine zav ((O0 _).upd (by omega) _) (by omega) (by simp only[zGk,List.length_map];omega) (by decide) rfl (zHb _) ?_;intro v hp hP Bp Aq;have z1:=hP.valOf;simp -dsimp -implicitDefEqProofs only[go_sem,seval,z1,g,hw];have A8:=fun(j:Nat) (j1:j<x') (j2:j≠x+2+0) (j3:zbg (f 6).v j)=>(Aq j (by omega) j3).trans (by rw[zaa,if_neg (by omega),zaa,if_neg j2])
    have SE:=Aq (x+2+0) (by omega) Qk;rw[zaa,if_neg (by omega),zaa,if_pos rfl]at SE;have Us: ∀j,Tp ck { cv with d:=d } j->zbg (f 6).v j:=fun j ht=>zGt fun e=>G3 j e ht
    refine⟨AV,by simp -dsimp -implicitDefEqProofs only[go_sem,seval],⟨⟨d,sd.loc (by(try simp -dsimp -implicitDefEqProofs only[go_sem,seval]);(try omega)) fun j hj ht=> ?_,fd.loc (by(try simp -dsimp -implicitDefEqProofs only[go_sem,seval]);(try omega)) fun j hj=> ?_,fun j hj ht=> ?_,K0⟩,?_,by simp -dsimp -implicitDefEqProofs only[go_sem,seval];exact fun j hj=>Bp j (by omega),?_,by(try simp -dsimp -implicitDefEqProofs only[go_sem,seval]);(try omega)⟩⟩
    ·simp -dsimp -implicitDefEqProofs only[go_sem,seval];rcases ht with ht | ht
     ·exact A8 j hj (by rintro rfl;exact K0 ht) (Us j ht)
     ·have:=s.nl j ht;exact A8 j hj (by omega) (SA j this)
    ·simp -dsimp -implicitDefEqProofs only[go_sem,seval];exact A8 j (by omega) (by omega) (SA j hj)
    ·(try simp -dsimp -implicitDefEqProofs only[go_sem,seval]at hj)
     have:=(sd.at ht).2;exact hj (Bp j (by omega))
    ·simp -dsimp -implicitDefEqProofs only[go_sem,seval];rw[List.map_append,zGk,List.map_append];refine zaF.le (by simpa[Nd.enc_eq]using hP) ?_
     (try simp -dsimp -implicitDefEqProofs only[go_sem,seval]);(try omega)
    ·simp -dsimp -implicitDefEqProofs only[go_sem,seval];rw[List.map_append];exact SE
   ·have hs:zGm st a=(st.1.report 50 a.pos,st.2):=by unfold zGm;rw[if_neg c1,if_neg c2]
    rw[hs];have c2':=eq_false c2;simp -dsimp -implicitDefEqProofs only[go_sem,seval,g,h1,Bj,Nd.enc_eq,Ho,D2,hc,zG,if_false,Option.getD_none,SP,c2'];refine zas (zvH sd (by omega) 50 a) ?_;rintro r h2 x2 ⟨d2,s2,f2⟩;have Cz:=hO.keep f2.le fun k hk hv=>f2.kp k hk (G3 k hv)
    have Mu:=f2.kp _ Ad K0;rw[Ho]at Mu;simp -dsimp -implicitDefEqProofs only[go_sem,seval,g,hw];refine⟨AV,by simp -dsimp -implicitDefEqProofs only[go_sem,seval],⟨⟨d2,s2.le (by(try simp -dsimp -implicitDefEqProofs only[go_sem,seval]);(try omega)),(fd.trans f2).loc (by(try simp -dsimp -implicitDefEqProofs only[go_sem,seval]);(try omega)) fun _ _=>rfl,fun j hj ht=> ?_,fun ht=>K0 (f2.tp _ (by omega) ht)⟩,?_,by simp -dsimp -implicitDefEqProofs only[go_sem,seval];exact SA,Mu,by have:=f2.le;(try simp -dsimp -implicitDefEqProofs only[go_sem,seval]);(try omega)⟩⟩
    ·(try simp -dsimp -implicitDefEqProofs only[go_sem,seval]at hj)
     exact G3 j hj (f2.tp j (zGi hO hj).2 ht)
    ·simp -dsimp -implicitDefEqProofs only[go_sem,seval];exact Cz.le (by(try simp -dsimp -implicitDefEqProofs only[go_sem,seval]);(try omega))
 ·have h1:=eq_false AV;have:i=(zGo n 52).length:=by omega
  subst this;rw[List.take_length]at sd hO Ho;have v1:=hO.valOf;have v2:=hO.resVal;simp only[Rg.resVal]at v2;simp -dsimp -implicitDefEqProofs only[go_sem,seval,g,h1,v1,v2];refine⟨hO.le (by(try simp -dsimp -implicitDefEqProofs only[go_sem,seval]);(try omega)),SA,d,sd.le (by(try simp -dsimp -implicitDefEqProofs only[go_sem,seval]);(try omega)),fd.loc (by(try simp -dsimp -implicitDefEqProofs only[go_sem,seval]);(try omega)) fun _ _=>rfl,G3⟩
def zKd (a b:ByteArray):ByteArray:=a++bs [46]++b
def zHc (m:Int) (n:Nd) (nm:ByteArray) (w:Int):Va:=⟨nm,w,n.len,n.init,n.ghost,m,n.pos⟩
def zJQ (recs:List (Key×List Nd)) (k:Key):Option (Key×List Nd):=recs.find? fun r=>decide (r.1=k)
def Ct.sharedFin (ct:Ct) (n:Nd) (vars:List Va):Ct×Bool:=
 if vars.all (fun v=>zhA v.init v.w)=true then({ ct with vars:=ct.vars++vars },true)else(ct.report 50 n.pos,false)
def Ct.shared (ct:Ct) (m:Int) (n:Nd):Ct×Bool:=
 if n.len<0\/n.len>8 then(ct.report 2 n.pos,false)
 else if n.other=bs []then
  if 1<=n.n/\n.n<=8 then ct.sharedFin n [zHc m n n.name n.n]else(ct.report 50 n.pos,false)
 else match zJQ ct.recs (m,n.other)with
  | none=>(ct.report 40 n.pos,false)
  | some r=>ct.sharedFin n (r.2.map fun f=>zHc m n (zKd n.name f.name) f.n)
theorem zJP {h:Nat->Option O} {x:Nat} {N:Nat->Prop} (k:Key): ∀{es:List (T×V)} {recs:List (Key×List Nd)},Pw (RcR h x N) es recs->
 (∃r v,zJQ recs k=some r/\zbo (zJM k) es=some (some v)/\Nst h x N v 9 (r.2.map Nd.enc)/\r∈recs)\/(zJQ recs k=none/\zbo (zJM k) es=some none)
 | [],[],_=> .inr ⟨rfl,rfl⟩
 | (kt,v)::es,r::recs,hp=>by
   have h0:=hp.2 0 _ _ rfl rfl;have G6:Pw (RcR h x N) es recs:=⟨by simpa using hp.1,fun i a b ha hb=>hp.2 (i+1) a b ha hb⟩
   obtain⟨h1,h2⟩:=h0;simp only at h1;subst h1;rw[zJQ,List.find?_cons,zbo,zGR]
   by_cases hk:r.1=k
   ·left;refine⟨r,v,by simp[hk],?_,h2,by simp⟩;simp[hk]
   ·have Ah: ¬k=r.1:=fun e=>hk e.symm
    simp only[hk,Ah,decide_false];rcases zJP k G6 with⟨r',v',a1,a2,a3,a4⟩ | ⟨a1,a2⟩
    ·exact .inl ⟨r',v',a1,a2,a3,by simp[a4]⟩
    ·exact .inr ⟨a1,a2⟩
 | [],_::_,hp=>by have:=hp.1;simp at this
 | _::_,[],hp=>by have:=hp.1;simp at this
theorem zJl {h:Nat->Option O} {x:Nat} {N:Nat->Prop} {v:V} {sz:Nat} {es:List (List T)} (o:Nst h x N v sz es) (hl: ∀r∈es,r.length=sz):SlR h v sz (zGk es):=by
 rcases o with⟨rfl,rfl⟩ | ⟨k,f,rfl,_,_,hk⟩
 ·exact⟨rfl,rfl,rfl,fun i row hi=>by simp at hi⟩
 ·refine⟨rfl,rfl,by simp[lenS,hk],fun i row hi=> ?_⟩;have AV:=(zH.1 hi).1
  have hr:row.length=sz:=by
   rw[zGk,zJ]at hi
   cases he:es[i]? with
   | none=>rw[he]at hi;cases hi
   | some e=>rw[he]at hi;cases hi;simpa using hl e (zL he)
  refine⟨.mp k i 0,?_,rfl,?_⟩
  ·simp only[zlx,hk];rw[if_pos ⟨by omega,by simp at AV;omega,trivial⟩];simp
  ·simp only[zuA,hk,hi];simp[rd,hr,zb9,List.take_of_length_le]
theorem zNu (v:Va):v.enc.length=7:=rfl
theorem zIn {h:Nat->Option O} {x q sz bytes:Nat} {u:V} {a b:List (List V)} {K:V->List (Nat×O)->Prop} {w:WK K} (ho:zaF h x u sz a) (hx:x<=q) (Co:b≠[]) (Ac:a.length+b.length<=2^32) (S4:bytes<=2^12) (hb:(b.all fun r=>decide (r.length=sz))=true) (ha:(a.all fun r=>decide (r.length=sz))=true)
 (hK: ∀v hp,zaF (VI h hp) (q+1) v sz (a++b)->(∀j,j<x->zbg v j)->(∀j,j<x->zbg u j->VI h hp j=h j)->K v hp):ziX false (zck h q sz bytes u a b) K w:=by
 unfold zck;have h1:b.isEmpty=false:=by cases b with | nil=>exact absurd rfl Co | cons a b=>rfl
 rw[if_pos ⟨⟨Ac,S4⟩,hb,ha⟩];simp only[h1,zG,if_false];rcases ho with⟨rfl,rfl⟩ | ⟨k,rfl,hk,hh⟩
 ·simp only[zcb];refine hK _ _ (.inr ⟨q,rfl,by omega,?_⟩) (fun j hj=>za3 (by omega) _ _) (fun j hj _=> ?_)
  ·simp[zaC,zaA,zaa]
  ·have:j≠q:=by omega
   simp[zaC,zaA,zaa,this]
 ·simp only[hh,and_self,if_true,zcb,zfP];refine hK _ _ (.inr ⟨q,by rw[zM],by omega,by simp[zaC,zaA,zaa]⟩) (fun j hj=>za3 (by omega) _ _) (fun j hj Az=> ?_);have h1:j≠q:=by omega
  have h2:j≠k:=by rintro rfl;exact Az 0 _ rfl
  simp[zaC,zaA,zaa,h1,h2]
theorem zIo {h:Nat->Option O} {q sz bytes:Nat} {u:V} {a:List (List V)} {K:V->List (Nat×O)->Prop} {w:WK K} (Ac:a.length<=2^32) (S4:bytes<=2^12) (ha:(a.all fun r=>decide (r.length=sz))=true) (hK:K u []):ziX false (zck h q sz bytes u a []) K w:=by
 unfold zck;rw[if_pos ⟨⟨by simpa using Ac,S4⟩,rfl,ha⟩];simp only[List.isEmpty_nil,if_true,zcb];exact hK
theorem zHl (l:List Va):((zGk (l.map Va.enc)).all fun r=>decide (r.length=7))=true:=by
 simp[List.all_eq_true,zNu]
theorem zJ9 (sl:Nat->Slot) (u:Nat->Bool) (h:Nat->Option O) (n b t:Nat):zd8 (M.st ⟨sl,u,h,n,b⟩) (.s t)=match(sl t).ad with
 | some r=>some r
 | none=>match(sl t).v with
   | .lb=>some (t,0)
   | _=>none:=rfl
theorem FrC.pre {ck:CK} {h h' h'':Nat->Option O} {x x' x'':Nat} {N N':Nat->Prop} {cv cv':CV} (a:FrC ck h' x' N cv h'' x'' N' cv') (hx:x<=x') (hh: ∀j,j<x->h' j=h j):FrC ck h x N cv h'' x'' N' cv':=
 ⟨Nat.le_trans hx a.le,fun j hj ht=>(a.kp j (by omega) ht).trans (hh j hj),fun j hj=>a.tp j (by omega),fun j hj=>a.nn j (by omega),a.nm,a.bo⟩
structure Ct.ok (ct:Ct):Prop where
 rw : ∀r∈ct.recs,∀f∈r.2,(1<=f.n/\f.n<=8)/\f.name.size<=2^21
 rl: ∀r∈ct.recs,r.2.length<2^21
theorem zKY {ck:CK} {h:Nat->Option O} {x:Nat} {N:Nat->Prop} {cv:CV} {ct:Ct} (s:CS ck h x N cv ct) (Bm:ct.ok) (m:Int) (n:Nd) (hn:Nd.okN n) (E6:ct.vars.length<2^31):
 ∃r h' x',DenR Γ G 623 [.mp ck.c 0 0,vi m,(.agg [.t (ti (n).kind),.t (.str (n).name),.t (.str (n).other),.t (ti (n).n),.t (ti (n).len),.t (ti (n).init),.t (tb (n).ghost),.t (.sl ((n).kids.map Nd.enc)),.t (ti (n).pos)])] h x=some (r,h',x')/\(r=vb (ct.shared m n).2/\ ∃cv',CS ck h' x' N cv' (ct.shared m n).1/\FrC ck h x N cv h' x' N cv'):=by
 have hc:=s.hc;obtain⟨es,B3,BC⟩:=s.hr
 (refine zay Γ623 rfl ?_;dsimp only[zOh])
 generalize hR:ct.shared m n=R
 unfold Ct.shared at hR
 by_cases c1:n.len<0
 ·have c1':=eq_true c1;rw[if_pos (.inl c1)]at hR;subst hR;simp -dsimp -implicitDefEqProofs only[go_sem,seval,c1',hc];refine zas (zvH s (by omega) 2 n) ?_;rintro r h' x' ⟨v',s',f'⟩;simp -dsimp -implicitDefEqProofs only[go_sem,seval];exact⟨rfl,_,s'.le (by(try simp -dsimp -implicitDefEqProofs only[go_sem,seval]);(try omega)),f'.loc (by(try simp -dsimp -implicitDefEqProofs only[go_sem,seval]);(try omega)) fun _ _=>rfl⟩
 have c1':=eq_false c1
 by_cases c2:n.len>8
 ·have c2':=eq_true c2;rw[if_pos (.inr c2)]at hR;subst hR;simp -dsimp -implicitDefEqProofs only[go_sem,seval,c1',c2',hc];refine zas (zvH s (by omega) 2 n) ?_;rintro r h' x' ⟨v',s',f'⟩;simp -dsimp -implicitDefEqProofs only[go_sem,seval];exact⟨rfl,_,s'.le (by(try simp -dsimp -implicitDefEqProofs only[go_sem,seval]);(try omega)),f'.loc (by(try simp -dsimp -implicitDefEqProofs only[go_sem,seval]);(try omega)) fun _ _=>rfl⟩
 have c2':=eq_false c2;rw[if_neg (by omega)]at hR
 by_cases c3:n.other=bs []
 ·have c3':=eq_true c3;rw[if_pos c3]at hR;have SP:=zIh n.n
  by_cases c4:1<=n.n/\n.n<=8
  rotate_left
  ·have c4':=eq_false c4;rw[if_neg c4]at hR;subst hR;simp -dsimp -implicitDefEqProofs only[go_sem,seval,c1',c2',c3',SP,c4',hc];refine zas (zvH s (by omega) 50 n) ?_;rintro r h' x' ⟨v',s',f'⟩;simp -dsimp -implicitDefEqProofs only[go_sem,seval];exact⟨rfl,_,s'.le (by(try simp -dsimp -implicitDefEqProofs only[go_sem,seval]);(try omega)),f'.loc (by(try simp -dsimp -implicitDefEqProofs only[go_sem,seval]);(try omega)) fun _ _=>rfl⟩
  have c4':=eq_true c4;rw[if_pos c4]at hR;simp -dsimp -implicitDefEqProofs only[go_sem,seval,c1',c2',c3',SP,c4',hc];refine⟨?_,?_⟩
  ·simp only[zgO,List.all_cons,List.all_nil,List.getElem?_cons_succ,List.getElem?_cons_zero,sep,AOp.looksL,AOp.looks,AOp.isSt,AOp.keeps,AOp.opds,AOp.lwopd,zIa,zJ9,List.filterMap_cons,List.filterMap_nil];simp -dsimp -implicitDefEqProofs only[go_sem,seval];rfl
  refine zav (.inl ⟨rfl,rfl⟩:zaF _ x _ _ _) (by omega) (by simp) (by decide) rfl (by simp) ?_;intro vS hp Ut Bp Aq;have hP:zaF _ _ vS 7 (zGk ([zHc m n n.name n.n].map Va.enc)):=Ut;have T0: ∀j,j<x->zbg (.t .nils) j:=fun j _ i n e=>by cases e
  have C2: ∀j,j<x->updC h (x+2+8+12+1+3+4+8+2) (some (.rows 7 (zGk [(zHc m n n.name n.n).enc]) false)) j=h j:=fun j hj=>by rw[zaa,if_neg (by omega)]
  have C5: ∀v∈[zHc m n n.name n.n],0<=v.w/\v.w<=8:=fun v hv=>by rw[List.mem_singleton]at hv;subst hv;simp only[zHc];omega
  have TP: [zHc m n n.name n.n].length<2^21:=by simp
  generalize [zHc m n n.name n.n]=vs at *
  have z1:=hP.valOf;have z3:=hP.lenS;rw[show(zGk (vs.map Va.enc)).length=vs.length by simp]at z3;simp -dsimp -implicitDefEqProofs only[go_sem,seval,z1,z3];unfold Ct.sharedFin at hR;refine zaq 5316871418320456188274380346618822720 vs.length (fun i f h' x'=>(f 105).v=vi i/\zaF h' x' vS 7 (zGk (vs.map Va.enc))/\x<=x'/\(∀j,j<x->h' j=h j)/\ ∀(j:Nat) (v:Va),j<i->vs[j]? =some v->zhA v.init v.w=true) rfl ?_ ?_
  ·refine⟨by simp -dsimp -implicitDefEqProofs only[go_sem,seval],?_,by(try simp -dsimp -implicitDefEqProofs only[go_sem,seval]);(try omega),fun j hj=> ?_,fun j v hj=>by omega⟩
   ·simp only[zaC,zaA];exact hP.le (by(try simp -dsimp -implicitDefEqProofs only[go_sem,seval]);(try omega))
   ·simp only[zaC,zaA];rw[Aq j (by omega) (T0 j hj)];exact C2 j hj
  rintro i f u h' x' bb hi ⟨g,hO,hx,A8,CA⟩;have Bz:=A8 _ s.lt.1;rw[hc]at Bz;have s':=s.loc hx fun j hj _=>A8 j hj
  have sl:=zHh hO (fun r hr=>by simpa using List.all_eq_true.1 (zHl vs) r hr)
  by_cases AV:i<vs.length
  ·have h1:=eq_true AV;obtain⟨a,ha,Cp⟩:=zai AV;have hw:=zan i (by omega);have Bj:(zGk (vs.map Va.enc))[i]? =some (a.enc.map V.t):=by rw[zGk,zJ,zJ,ha];rfl
   obtain⟨p,k1,k2,k3⟩:=sl.at_ i _ Bj;rw[show a.enc.map V.t=[.t (.str a.name),.t (ti a.w),.t (ti a.len),.t (ti a.init),.t (tb a.ghost),.t (ti a.module),.t (ti a.pos)]from rfl]at k3;have Pp:=zJo a.init a.w (C5 a Cp).1 (C5 a Cp).2
   by_cases hf:zhA a.init a.w=true
   ·simp -dsimp -implicitDefEqProofs only[go_sem,seval,g,h1,z1,↓k1,k2,↓k3,Pp,hf,hw];refine⟨AV,by simp -dsimp -implicitDefEqProofs only[go_sem,seval],hO.le (by(try simp -dsimp -implicitDefEqProofs only[go_sem,seval]);(try omega)),by(try simp -dsimp -implicitDefEqProofs only[go_sem,seval]);(try omega),A8,fun j v hj hv=> ?_⟩
    by_cases DP:j=i
    ·subst DP;rw[ha]at hv;cases hv;exact hf
    ·exact CA j v (by omega) hv
   ·have JO:=Bool.eq_false_iff.2 hf;rw[if_neg (fun h=>hf (List.all_eq_true.1 h a Cp))]at hR;subst hR;simp -dsimp -implicitDefEqProofs only[go_sem,seval,g,h1,z1,↓k1,k2,↓k3,Pp,JO,Bz];refine zas (zvH s' (by omega) 50 n) ?_;rintro r h2 x2 ⟨v',s2,f2⟩;simp -dsimp -implicitDefEqProofs only[go_sem,seval];exact⟨rfl,_,s2.le (by(try simp -dsimp -implicitDefEqProofs only[go_sem,seval]);(try omega)),⟨Nat.le_trans hx (Nat.le_trans f2.le (by(try simp -dsimp -implicitDefEqProofs only[go_sem,seval]);(try omega))),fun j hj ht=>(f2.kp j (by omega) ht).trans (A8 j hj),fun j hj=>f2.tp j (by omega),fun _ _ h=>h,fun _ h=>h,rfl⟩⟩
  ·have h1:=eq_false AV;have:i=vs.length:=by omega
   subst this
   have Aa:vs.all (fun v=>zhA v.init v.w)=true:=List.all_eq_true.2 fun v hv=>by
    obtain⟨j,hj,e⟩:=List.getElem_of_mem hv;exact CA j v hj (by rw[<- e];exact zI hj)
   rw[if_pos Aa]at hR;subst hR;have y1:=s'.va.valOf;have y2:=s'.va.rowsS;have y3:=hO.rowsS;simp -dsimp -implicitDefEqProofs only[go_sem,seval,g,h1,z1,Bz,y1,y2,y3];have lc:=s.lt.1;have Fc:zbg cv.va ck.c:=zGA s'.va Bz (by decide)
   cases Tw:vs with
   | nil=>
     refine zIo (by simp;omega) (by decide) (zHl _) ?_;have y4:=zGv s'.va;unfold V.cells at y4;simp -dsimp -implicitDefEqProofs only[go_sem,seval,Bz,y1,y4];refine⟨rfl,cv,?_,?_⟩
     ·rw[List.append_nil];refine s'.loc (by(try simp -dsimp -implicitDefEqProofs only[go_sem,seval]);(try omega)) fun j hj _=> ?_
      simp only[zaC,zaA];rw[zaa];split
      ·rename_i e;rw[e,Bz]
      ·rfl
     ·refine FrC.pre (FrC.refl.loc (by(try simp -dsimp -implicitDefEqProofs only[go_sem,seval]);(try omega)) fun j hj=> ?_) hx A8;simp only[zaC,zaA];rw[zaa];split
      ·rename_i e;rw[e,Bz]
      ·rfl
   | cons v0 vr=>
     rw[<- Tw];refine zIn (s'.va.le (by omega)) (Nat.le_refl _) (by rw[Tw];simp) (by simp;omega) (by decide) (zHl _) (zHl _) ?_;intro v hp Ge G2 GM;have w1:=Ge.valOf;have w2:=zGv Ge;unfold V.cells at w2;have CG:=GM ck.c (by omega) Fc;rw[Bz]at CG;simp -dsimp -implicitDefEqProofs only[go_sem,seval,w1,w2,CG];refine⟨rfl,{ cv with va:=v },?_⟩;refine(fun p=>⟨p.1,FrC.pre p.2 hx A8⟩) (s'.setva ?_ ?_ ?_ (fun j hj=>G2 j (by omega)) (fun j hj j1 j2=> ?_) (fun _ h=>h) (fun _ _ h=>h) (fun j hj=>⟨?_,G2 j (by have:=s'.nl j hj;omega)⟩))
     ·(try simp -dsimp -implicitDefEqProofs only[go_sem,seval]);(try omega)
     ·simp only[zaC,zaA];rw[zaa,if_pos rfl]
     ·rw[List.map_append,zGk,List.map_append];simp only[zaC,zaA];refine zaF.keep (rows:=_) Ge (by(try simp -dsimp -implicitDefEqProofs only[go_sem,seval]);(try omega)) fun q q1 q2=> ?_
      have:q≠ck.c:=by rintro rfl;exact q2 (G2 _ (by omega))
      rw[zaa,if_neg this]
     ·simp only[zaC,zaA];rw[zaa,if_neg j1,GM j (by omega) j2]
     ·have:=s'.nl j hj
      (try simp -dsimp -implicitDefEqProofs only[go_sem,seval]);(try omega)
 ·have c3':=eq_false c3;rw[if_neg c3]at hR;have hz:(x:Nat)<=x:=Nat.le_refl _;rcases zJP (m,n.other) BC with⟨r,rv,f1,f2,f3,f4⟩ | ⟨f1,f2⟩
  rotate_left
  ·rw[f1]at hR;simp only at hR;subst hR;simp -dsimp -implicitDefEqProofs only[go_sem,seval,c1',c2',c3',hc,B3,f2,Option.getD_none,Option.isSome_none];refine zas (zvH s (by omega) 40 n) ?_;rintro r h' x' ⟨v',s',f'⟩;simp -dsimp -implicitDefEqProofs only[go_sem,seval];exact⟨rfl,_,s'.le (by(try simp -dsimp -implicitDefEqProofs only[go_sem,seval]);(try omega)),f'.loc (by(try simp -dsimp -implicitDefEqProofs only[go_sem,seval]);(try omega)) fun _ _=>rfl⟩
  rw[f1]at hR;simp only at hR;have sr:=zJl f3 (fun e he=>by obtain⟨q,_,rfl⟩:=List.mem_map.1 he;exact zGz q);have y1:=sr.vl;have y2:=sr.cl;unfold V.cells at y2;have y3:=sr.ln;rw[show(zGk (r.2.map Nd.enc)).length=r.2.length by simp]at y3;have Bb:=Bm.rl r f4;simp -dsimp -implicitDefEqProofs only[go_sem,seval,c1',c2',c3',hc,B3,f2,Option.getD_some,Option.isSome_some,y1,y2,y3];refine zaq 10141185459012721377906830348672 r.2.length (fun i f h' x'=>(f 84).v=vi i/\(f 7).v= .lb/\(∃a b,(f 7).box=some [a,b,.t (ti n.len),.t (ti n.init),.t (tb n.ghost),.t (ti m),.t (ti n.pos)])/\zaF h' x' (f 8).v 7 (zGk (((r.2.map fun f=>zHc m n (zKd n.name f.name) f.n).take i).map Va.enc))/\x<=x'/\(∀j,j<x->h' j=h j)/\ ∀j,j<x->zbg (f 8).v j) rfl ?_ ?_
  ·refine⟨by simp -dsimp -implicitDefEqProofs only[go_sem,seval],by simp -dsimp -implicitDefEqProofs only[go_sem,seval],⟨.t (.str (bs [])),.t (ti 0),by simp -dsimp -implicitDefEqProofs only[go_sem,seval];(try exact⟨rfl,rfl⟩)⟩,.inl ⟨by simp -dsimp -implicitDefEqProofs only[go_sem,seval],rfl⟩,by(try simp -dsimp -implicitDefEqProofs only[go_sem,seval]);(try omega),fun _ _=>rfl,fun j _=>by simp -dsimp -implicitDefEqProofs only[go_sem,seval];intro i n e;cases e⟩
  rintro i f u H1 x1 bb hi ⟨g,g7,⟨ba,bb2,gb⟩,hO,KA,J3,Jq⟩
  by_cases AV:i<r.2.length
  ·have h1:=eq_true AV;obtain⟨a,ha,Cp⟩:=zai AV;have hw:=zan i (by omega);have Bj:(zGk (r.2.map Nd.enc))[i]? =some (a.enc.map V.t):=by rw[zGk,zJ,zJ,ha];rfl
   have sr1:=zJl (f3.keep KA (N':=N) fun j j1 j2=>⟨J3 j j1,j2⟩) (fun e he=>by obtain⟨q,_,rfl⟩:=List.mem_map.1 he;exact zGz q);obtain⟨p,k1,k2,k3⟩:=sr1.at_ i _ Bj;rw[Nd.enc_eq]at k3;simp only[List.map_cons,List.map_nil]at k3;obtain⟨w1,w2⟩:=Bm.rw r f4 a Cp;have GE:=hn.name;have hb:(bs [46]).size=1:=rfl;have e1:((((n.name.size+(bs [46]).size:Nat)):Int)<=1099511627776)=True:=eq_true (by rw[hb];omega);have e2:((((n.name++bs [46]).size+a.name.size:Nat):Int)<=1099511627776)=True:=eq_true (by rw[ByteArray.size_append,hb];omega);have e3:(((n.name.size+(bs [46]).size+a.name.size:Nat):Int)<=1099511627776)=True:=eq_true (by rw[hb];omega);simp -dsimp -implicitDefEqProofs only[go_sem,seval,g,h1,y1,↓k1,k2,↓k3,g7,gb,e1,e2,e3];refine⟨?_,?_⟩
   ·simp only[zgO,List.all_cons,List.all_nil,List.getElem?_cons_succ,List.getElem?_cons_zero,sep,AOp.looksL,AOp.looks,AOp.isSt,AOp.keeps,AOp.opds,AOp.lwopd,zIa,zJ9,List.filterMap_cons,List.filterMap_nil];simp -dsimp -implicitDefEqProofs only[go_sem,seval,g7];rfl
   have v1:=hO.valOf;have r5:=hO.r5;have r4:=hO.r4;have r3:=hO.r3;simp -dsimp -implicitDefEqProofs only[go_sem,seval,g7,v1,r5,r4,r3];have Dv:(r.2.map fun f=>zHc m n (zKd n.name f.name) f.n)[i]? =some (zHc m n (zKd n.name a.name) a.n):=by rw[zJ,ha];rfl
   refine zav (hO.upd (by omega) _) (by omega) (by simp only[zGk,List.length_map,List.length_take];omega) (by decide) rfl (zHl _) ?_;intro v hp hP Bp Aq;have z1:=hP.valOf;simp -dsimp -implicitDefEqProofs only[go_sem,seval,z1,g,hw,g7,gb];refine⟨AV,by simp -dsimp -implicitDefEqProofs only[go_sem,seval],by simp -dsimp -implicitDefEqProofs only[go_sem,seval,g7],⟨.t (.str (n.name++bs [46]++a.name)),.t (ti a.n),by simp -dsimp -implicitDefEqProofs only[go_sem,seval,gb];(try exact⟨rfl,rfl⟩)⟩,?_,by(try simp -dsimp -implicitDefEqProofs only[go_sem,seval]);(try omega),fun j hj=> ?_,fun j hj=>by simp -dsimp -implicitDefEqProofs only[go_sem,seval];exact Bp j (by omega)⟩
   ·simp -dsimp -implicitDefEqProofs only[go_sem,seval];rw[zaf Dv,List.map_append,zGk,List.map_append];exact zaF.le hP (by(try simp -dsimp -implicitDefEqProofs only[go_sem,seval]);(try omega))
   ·simp -dsimp -implicitDefEqProofs only[go_sem,seval];rw[Aq j (by omega) (Jq j hj),zaa,if_neg (by omega)];exact J3 j hj
  have h1:=eq_false AV;have Tf:i=r.2.length:=by omega
  subst Tf;have hP:=hO;rw[List.take_of_length_le (by simp)]at hP
  have C5: ∀v∈r.2.map fun f=>zHc m n (zKd n.name f.name) f.n,0<=v.w/\v.w<=8:=fun v hv=>by
   obtain⟨q,hq,rfl⟩:=List.mem_map.1 hv;have:=(Bm.rw r f4 q hq).1;simp only[zHc];omega
  have TP:(r.2.map fun f=>zHc m n (zKd n.name f.name) f.n).length<2^21:=by simpa using Bb
  generalize(r.2.map fun f=>zHc m n (zKd n.name f.name) f.n)=vs at *
  obtain⟨vS,TK⟩: ∃v,(f 8).v=v:=⟨_,rfl⟩
  rw[TK]at hP;have z1:=hP.valOf;have z3:=hP.lenS;rw[show(zGk (vs.map Va.enc)).length=vs.length by simp]at z3;simp -dsimp -implicitDefEqProofs only[go_sem,seval,g,h1,TK,z1,z3];unfold Ct.sharedFin at hR;refine zaq 5316871418320456188274380346618822720 vs.length (fun i f h' x'=>(f 105).v=vi i/\zaF h' x' vS 7 (zGk (vs.map Va.enc))/\x<=x'/\(∀j,j<x->h' j=h j)/\ ∀(j:Nat) (v:Va),j<i->vs[j]? =some v->zhA v.init v.w=true) rfl ?_ ?_
  ·refine⟨by simp -dsimp -implicitDefEqProofs only[go_sem,seval],?_,by(try simp -dsimp -implicitDefEqProofs only[go_sem,seval]);(try omega),fun j hj=> ?_,fun j v hj=>by omega⟩
   ·exact hP.le (by(try simp -dsimp -implicitDefEqProofs only[go_sem,seval]);(try omega))
   ·exact J3 j hj
  rintro i f u h' x' bb hi ⟨g,hO,hx,A8,CA⟩;have Bz:=A8 _ s.lt.1;rw[hc]at Bz;have s':=s.loc hx fun j hj _=>A8 j hj
  have sl:=zHh hO (fun r hr=>by simpa using List.all_eq_true.1 (zHl vs) r hr)
  by_cases AV:i<vs.length
  ·have h1:=eq_true AV;obtain⟨a,ha,Cp⟩:=zai AV;have hw:=zan i (by omega);have Bj:(zGk (vs.map Va.enc))[i]? =some (a.enc.map V.t):=by rw[zGk,zJ,zJ,ha];rfl
   obtain⟨p,k1,k2,k3⟩:=sl.at_ i _ Bj;rw[show a.enc.map V.t=[.t (.str a.name),.t (ti a.w),.t (ti a.len),.t (ti a.init),.t (tb a.ghost),.t (ti a.module),.t (ti a.pos)]from rfl]at k3;have Pp:=zJo a.init a.w (C5 a Cp).1 (C5 a Cp).2
   by_cases hf:zhA a.init a.w=true
   ·simp -dsimp -implicitDefEqProofs only[go_sem,seval,g,h1,TK,z1,↓k1,k2,↓k3,Pp,hf,hw];refine⟨AV,by simp -dsimp -implicitDefEqProofs only[go_sem,seval],hO.le (by(try simp -dsimp -implicitDefEqProofs only[go_sem,seval]);(try omega)),by(try simp -dsimp -implicitDefEqProofs only[go_sem,seval]);(try omega),A8,fun j v hj hv=> ?_⟩
    by_cases DP:j=i
    ·subst DP;rw[ha]at hv;cases hv;exact hf
    ·exact CA j v (by omega) hv
   ·have JO:=Bool.eq_false_iff.2 hf;rw[if_neg (fun h=>hf (List.all_eq_true.1 h a Cp))]at hR;subst hR;simp -dsimp -implicitDefEqProofs only[go_sem,seval,g,h1,z1,↓k1,k2,↓k3,Pp,JO,Bz];refine zas (zvH s' (by omega) 50 n) ?_;rintro r h2 x2 ⟨v',s2,f2⟩;simp -dsimp -implicitDefEqProofs only[go_sem,seval];exact⟨rfl,_,s2.le (by(try simp -dsimp -implicitDefEqProofs only[go_sem,seval]);(try omega)),⟨Nat.le_trans hx (Nat.le_trans f2.le (by(try simp -dsimp -implicitDefEqProofs only[go_sem,seval]);(try omega))),fun j hj ht=>(f2.kp j (by omega) ht).trans (A8 j hj),fun j hj=>f2.tp j (by omega),fun _ _ h=>h,fun _ h=>h,rfl⟩⟩
  ·have h1:=eq_false AV;have:i=vs.length:=by omega
   subst this
   have Aa:vs.all (fun v=>zhA v.init v.w)=true:=List.all_eq_true.2 fun v hv=>by
    obtain⟨j,hj,e⟩:=List.getElem_of_mem hv;exact CA j v hj (by rw[<- e];exact zI hj)
   rw[if_pos Aa]at hR;subst hR;have y1:=s'.va.valOf;have y2:=s'.va.rowsS;have y3:=hO.rowsS;simp -dsimp -implicitDefEqProofs only[go_sem,seval,g,h1,TK,z1,Bz,y1,y2,y3];have lc:=s.lt.1;have Fc:zbg cv.va ck.c:=zGA s'.va Bz (by decide)
   cases Tw:vs with
   | nil=>
     refine zIo (by simp;omega) (by decide) (zHl _) ?_;have y4:=zGv s'.va;unfold V.cells at y4;simp -dsimp -implicitDefEqProofs only[go_sem,seval,Bz,y1,y4];refine⟨rfl,cv,?_,?_⟩
     ·rw[List.append_nil];refine s'.loc (by(try simp -dsimp -implicitDefEqProofs only[go_sem,seval]);(try omega)) fun j hj _=> ?_
      simp only[zaC,zaA];rw[zaa];split
      ·rename_i e;rw[e,Bz]
      ·rfl
     ·refine FrC.pre (FrC.refl.loc (by(try simp -dsimp -implicitDefEqProofs only[go_sem,seval]);(try omega)) fun j hj=> ?_) hx A8;simp only[zaC,zaA];rw[zaa];split
      ·rename_i e;rw[e,Bz]
      ·rfl
   | cons v0 vr=>
     rw[<- Tw];refine zIn (s'.va.le (by omega)) (Nat.le_refl _) (by rw[Tw];simp) (by simp;omega) (by decide) (zHl _) (zHl _) ?_;intro v hp Ge G2 GM;have w1:=Ge.valOf;have w2:=zGv Ge;unfold V.cells at w2;have CG:=GM ck.c (by omega) Fc;rw[Bz]at CG;simp -dsimp -implicitDefEqProofs only[go_sem,seval,w1,w2,CG];refine⟨rfl,{ cv with va:=v },?_⟩;refine(fun p=>⟨p.1,FrC.pre p.2 hx A8⟩) (s'.setva ?_ ?_ ?_ (fun j hj=>G2 j (by omega)) (fun j hj j1 j2=> ?_) (fun _ h=>h) (fun _ _ h=>h) (fun j hj=>⟨?_,G2 j (by have:=s'.nl j hj;omega)⟩))
     ·(try simp -dsimp -implicitDefEqProofs only[go_sem,seval]);(try omega)
     ·simp only[zaC,zaA];rw[zaa,if_pos rfl]
     ·rw[List.map_append,zGk,List.map_append];simp only[zaC,zaA];refine zaF.keep (rows:=_) Ge (by(try simp -dsimp -implicitDefEqProofs only[go_sem,seval]);(try omega)) fun q q1 q2=> ?_
      have:q≠ck.c:=by rintro rfl;exact q2 (G2 _ (by omega))
      rw[zaa,if_neg this]
     ·simp only[zaC,zaA];rw[zaa,if_neg j1,GM j (by omega) j2]
     ·have:=s'.nl j hj
      (try simp -dsimp -implicitDefEqProofs only[go_sem,seval]);(try omega)
structure AddS where
 ct:Ct
 known:List ByteArray
 vs:List Va
def zOE (m:Int) (a:Nd):Va:=⟨a.name,a.n,0,0,a.ghost,m,a.pos⟩
def zGn (m:Int) (st:AddS) (a:Nd):AddS:=
 if zG5 st.known a.name=true then{ st with ct:=st.ct.report 41 a.pos }else if 1<=a.n/\a.n<=8 then{ st with known:=st.known++[a.name],vs:=st.vs++[zOE m a] }else{ st with ct:=st.ct.report 50 a.pos }
theorem zMm {ck:CK} {h:Nat->Option O} {x:Nat} {N:Nat->Prop} {cv:CV} {st:AddS} (s:CS ck h x N cv st.ct) {u:V} {k7 k3 k4 km:Nat} {m:Int} (a:Nd) (hu:zaF h x u 7 (zGk (st.vs.map Va.enc))) (h7:h k7=some (.rows 1 [[.mm km]] false)) (h3:h k3=some (.rows 1 [[.mp ck.c 0 0]] false))
 (h4:h k4=some (.rows 1 [[vi m]] false)) (hm:h km=some (.map (zHu T.str st.known))) (lm:km<x) (tm: ¬Tp ck cv km) (tu: ∀j,¬zbg u j-> ¬Tp ck cv j) (nm: ¬N km) (nu: ∀j,¬zbg u j-> ¬N j) (t7: ¬Tp ck cv k7) (l7:k7<x) (u7:zbg u k7) (hl:st.vs.length<2^30):
 ∃r h' x',DenR Γ G 636 [u,.t (.ip a.enc),.mp k7 0 0,.mp k3 0 0,.mp k4 0 0] h x=some (r,h',x')/\(zaF h' x' r 7 (zGk ((zGn m st a).vs.map Va.enc))/\(∀j,j<x->zbg u j->zbg r j)/\h' km=some (.map (zHu T.str (zGn m st a).known))/\
  (∀j,j<x->j≠km-> ¬Tp ck cv j->zbg u j->h' j=h j)/\x<=x'/\ ∃d,CS ck h' x' N { cv with d:=d } (zGn m st a).ct/\(∀j,j<x->Tp ck { cv with d:=d } j->Tp ck cv j)/\(∀j,¬zbg r j-> ¬Tp ck { cv with d:=d } j)):=by
 have hc:=s.hc;have D2:=zIQ zGZ a.name st.known;have v1:=hu.valOf
 (refine zay Γ636 rfl ?_;dsimp only[zN6])
 by_cases c1:zG5 st.known a.name=true
 ·rw[c1]at D2;have hs:zGn m st a= { st with ct:=st.ct.report 41 a.pos }:=by unfold zGn;rw[if_pos c1]
  rw[hs];simp -dsimp -implicitDefEqProofs only[go_sem,seval,Nd.enc_eq,h7,h3,h4,hm,D2,hc,if_true,Option.getD_some,v1];refine zas (zvH s (by omega) 41 a) ?_;rintro r h' x' ⟨d,s',f'⟩;have hv:=hu.resVal;simp only[Rg.resVal]at hv;simp -dsimp -implicitDefEqProofs only[go_sem,seval,v1,hv];refine⟨hu.keep (Nat.le_trans f'.le (by(try simp -dsimp -implicitDefEqProofs only[go_sem,seval]);(try omega))) fun k hk he=>f'.kp k hk (tu k he),fun j hj h=>h,by rw[f'.kp km lm tm];exact hm,fun j hj _ ht _=>f'.kp j hj ht,Nat.le_trans f'.le (by(try simp -dsimp -implicitDefEqProofs only[go_sem,seval]);(try omega)),d,s'.le (by(try simp -dsimp -implicitDefEqProofs only[go_sem,seval]);(try omega)),f'.tp,fun j hj ht=>tu j hj (f'.tp j (zGi hu hj).2 ht)⟩
 have c1':=Bool.eq_false_iff.2 c1;rw[c1']at D2;have SP:=zIh a.n
 by_cases c2:1<=a.n/\a.n<=8
 rotate_left
 ·have hs:zGn m st a= { st with ct:=st.ct.report 50 a.pos }:=by unfold zGn;rw[if_neg c1,if_neg c2]
  rw[hs];have c2':=eq_false c2;simp -dsimp -implicitDefEqProofs only[go_sem,seval,Nd.enc_eq,h7,h3,h4,hm,D2,hc,zG,if_false,Option.getD_none,v1,SP,c2'];refine zas (zvH s (by omega) 50 a) ?_;rintro r h' x' ⟨d,s',f'⟩;have hv:=hu.resVal;simp only[Rg.resVal]at hv;simp -dsimp -implicitDefEqProofs only[go_sem,seval,v1,hv];refine⟨hu.keep (Nat.le_trans f'.le (by(try simp -dsimp -implicitDefEqProofs only[go_sem,seval]);(try omega))) fun k hk he=>f'.kp k hk (tu k he),fun j hj h=>h,by rw[f'.kp km lm tm];exact hm,fun j hj _ ht _=>f'.kp j hj ht,Nat.le_trans f'.le (by(try simp -dsimp -implicitDefEqProofs only[go_sem,seval]);(try omega)),d,s'.le (by(try simp -dsimp -implicitDefEqProofs only[go_sem,seval]);(try omega)),f'.tp,fun j hj ht=>tu j hj (f'.tp j (zGi hu hj).2 ht)⟩
 ·have hs:zGn m st a= { st with known:=st.known++[a.name],vs:=st.vs++[zOE m a] }:=by unfold zGn;rw[if_neg c1,if_pos c2]
  rw[hs];have c2':=eq_true c2;have Gy:=zLr zGZ a.name st.known c1';have Uz:zbg u km:=zHH hu hm
  have MV: ∀m',zaF (updC h km m') x u 7 (zGk (st.vs.map Va.enc)):=fun m'=>hu.keep (Nat.le_refl _) fun q q1 q2=>by
   have:q≠km:=by rintro rfl;exact q2 Uz
   rw[zaa,if_neg this]
  have n34:(k4=km)=False:=eq_false (by rintro rfl;rw[hm]at h4;cases h4);have r6: ∀m' (b c d e f:Nat) z,Rg.rowsS (updC (updC h km m') (x+b+c+d+e+f) z) u=some (zGk (st.vs.map Va.enc)):=fun m' b c d e f z=>((MV m').upd (by omega) z).rowsS
  simp -dsimp -implicitDefEqProofs only[go_sem,seval,Nd.enc_eq,h7,h3,h4,hm,D2,hc,zG,if_false,Option.getD_none,v1,SP,c2',Gy,n34,r6];refine zav ((MV _).upd (by omega) _) (by omega) (by simp only[zGk,List.length_map];omega) (by decide) rfl (zHl _) ?_;intro v hp hP Bp Aq;have z1:=hP.valOf;have z2:=hP.resVal;simp only[Rg.resVal]at z2;simp -dsimp -implicitDefEqProofs only[go_sem,seval,z1,z2];have SE:=Aq km (by omega) Uz;rw[zaa,if_neg (by omega),zaa,if_pos rfl]at SE;have A8:=fun(j:Nat) (j1:j<x) (j2:j≠km) (j3:zbg u j)=>(Aq j (by omega) j3).trans (by rw[zaa,if_neg (by omega),zaa,if_neg j2])
  have Us: ∀j,Tp ck cv j->zbg u j:=fun j ht=>zGt fun e=>tu j e ht
  refine⟨?_,fun j hj _=>Bp j (by omega),?_,fun j hj IS _ Pi=> ?_,by(try simp -dsimp -implicitDefEqProofs only[go_sem,seval]);(try omega),cv.d,s.loc (by(try simp -dsimp -implicitDefEqProofs only[go_sem,seval]);(try omega)) fun j hj ht=> ?_,fun _ _ h=>h,fun j hj ht=> ?_⟩
  ·rw[List.map_append,zGk,List.map_append];simp only[zaC,zaA];exact zaF.le hP (by(try simp -dsimp -implicitDefEqProofs only[go_sem,seval]);(try omega))
  ·simp only[zaC,zaA];exact SE
  ·simp only[zaC,zaA];exact A8 j hj IS Pi
  ·simp only[zaC,zaA];rcases ht with ht | ht
   ·exact A8 j hj (by rintro rfl;exact tm ht) (Us j ht)
   ·exact A8 j hj (by rintro rfl;exact nm ht) (zGt fun e=>nu j e ht)
  ·have:=(s.at ht).2;exact hj (Bp j (by omega))
end Rg
end
