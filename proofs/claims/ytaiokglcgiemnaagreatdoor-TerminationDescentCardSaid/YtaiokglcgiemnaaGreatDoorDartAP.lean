/- Part of the proof of laws of relyguardlaw36. No condition. -/
import Derived.Test.YtaiokglcgiemnaaGreatDoorDartAN
import Derived.Test.YtaiokglcgiemnaaGreatDoorDartAO
import Derived.Lib.ItoaLen
import Derived.Test.YtaiokglcgiemnaaGreatDoorDartAL
set_option linter.unusedSimpArgs false
set_option linter.unusedVariables false
section
namespace Rg
open Go
def zAo (h:Nat->Option O) (lo x:Nat) (v:V) (l:List Int) (room:Nat):Prop:= ∃k,v= .ms k 0 l.length/\lo<=k/\k<x/\h k=some (.rows 1 (zw5 l++List.replicate room [zi]) false)
theorem zAo.valOf {h:Nat->Option O} {lo x:Nat} {v:V} {l:List Int} {room:Nat} (o:zAo h lo x v l room):valOf v=some v:=by obtain⟨k,rfl,_,_,_⟩:=o;rfl
theorem zAo.rows {h:Nat->Option O} {lo x:Nat} {v:V} {l:List Int} {room:Nat} (o:zAo h lo x v l room):Rg.rowsS h v=some (zw5 l):=by
 obtain⟨k,rfl,_,_,hk⟩:=o;unfold Rg.rowsS;simp only[hk,rd,Nat.zero_add,List.drop_zero];rw[if_pos (by simp[zw2]),List.take_append_of_le_length (by rw[zw2];exact Nat.le_refl _),List.take_of_length_le (by rw[zw2];exact Nat.le_refl _)]
theorem zAo.resVal {h:Nat->Option O} {lo x:Nat} {v:V} {l:List Int} {room:Nat} (o:zAo h lo x v l room):Rg.resVal v=some v:=by obtain⟨k,rfl,_,_,_⟩:=o;rfl
theorem zAo.reify {h:Nat->Option O} {lo x:Nat} {v:V} {l:List Int} {room:Nat} (o:zAo h lo x v l room):Rg.reify h v=some (.t (ints l)):=by
 obtain⟨k,rfl,_,_,hk⟩:=o;have h1:=zdD h 999 (l.map fun n=>[ti n]) (zxU _)
 have h2:toT h 1000 (.ms k 0 l.length)=some (ints l):=by
  rw[toT,hk];simp only[rd,Nat.zero_add,List.drop_zero];rw[if_pos (by simp[zw2]),List.take_append_of_le_length (by rw[zw2];exact Nat.le_refl _),List.take_of_length_le (by rw[zw2];exact Nat.le_refl _)];simp only[zC,zD];rw[show zw5 l=(l.map fun n=>[ti n]).map (·.map V.t)from rfl,h1];rfl
 simp only[Rg.reify,toT1,h2,Option.map_some]
theorem zhd {h:Nat->Option O} {lo x q room:Nat} {v:V} {l m:List Int} {K:V->List (Nat×O)->Prop} {w:WK K} (hv:zAo h lo x v l (m.length+room)) (hx:x<=q) (hl:l.length+m.length<=2^32)
 (hK: ∀v' hp,zAo (Ax h hp) lo (q+1) v' (l++m) room->(∀j,j<lo->Ax h hp j=h j)->K v' hp):zfo false (zyh h q 1 8 v (zw5 l) (zw5 m)) K w:=by
 unfold zyh;rw[if_pos ⟨⟨by rw[zw2,zw2];exact hl,by decide⟩,zxw _,zxw _⟩]
 cases m with
 | nil=>
   simp only[zw5,List.map_nil,List.isEmpty_nil,if_true,zbz];refine hK v [] ?_ (fun j _=>by rw[zar]);rw[List.append_nil];obtain⟨k,rfl,CQ,hk,hh⟩:=hv
   exact⟨k,rfl,CQ,by omega,by simpa[zar]using hh⟩
 | cons y m=>
   obtain⟨k,rfl,CQ,hk,hh⟩:=hv;have he:(zw5 (y::m)).isEmpty=false:=rfl;simp only[he,hh,zG,if_false,and_self,if_true,zbz]
   have NA:zxY (zw5 l) (zw5 (y::m)) (zw5 l++List.replicate ((y::m).length+room) [zi])=zw5 (l++y::m)++List.replicate room [zi]:=by
    have e1:zw5 (l++y::m)=zw5 l++zw5 (y::m):=by simp[zw5]
    rw[e1];unfold zxY;split
    ·rename_i A5;simp only[zM,zw2,List.length_replicate]at A5;have:room=0:=by omega
     subst this;simp
    ·rw[List.drop_append,List.drop_of_length_le (by rw[zw2,zw2];omega),List.drop_replicate,zw2,zw2];rw[show(y::m).length+room-(l.length+(y::m).length-l.length)=room by omega,List.nil_append]
   refine hK _ [(k,.dead),(q,.rows 1 (zxY (zw5 l) (zw5 (y::m)) (zw5 l++List.replicate ((y::m).length+room) [zi])) false)] ⟨q,?_,by omega,by omega,?_⟩ (fun j hj=> ?_)
   ·rw[zw2,zw2,zM]
   ·rw[NA];have:q≠k:=by omega
    simp[zav,zar,zae]
   ·have h1:j≠q:=by omega
    have h2:j≠k:=by omega
    simp[zav,zar,zae,h1,h2]
theorem zCE (m:Nat) (h0:0<m) (h1:m<=2^31) (H:Nat->Option O) (n:Nat): ∃r h' n',DenR Γ G 368 [.t .nils,vi m] H n=some (r,h',n')/\(zAo h' n n' r [] m/\ ∀j,j<n->h' j=H j):=by
 have e1: ¬((m:Int)<0):=by omega
 have e2:(0:Int)<m:=by omega
 have e3:(m:Int)<=4294967296:=by omega
 have hw:IntKind.i64.wrap ((m:Int)-0)=m:=by rw[Int.sub_zero];exact zaj (by omega)
 have e4:(1:Int)<=m:=by omega
 (refine zxC Γ368 rfl ?_;dsimp only[zpP])
 simp -dsimp only[go_sem,seval,e1,e2,e3,e4,hw];refine⟨⟨_,rfl,by omega,by simp -dsimp only[go_sem];omega,by simp[zav,zar,zae,zw5]⟩,fun j hj=> ?_⟩;have:j≠n+1+2+8+2+5:=by omega
 simp[zav,zar,zae,this]
theorem zCg (n:Nat) (H:Nat->Option O): ∃r h' n',DenR Γ G 368 [.t .nils,vi 0] H n=some (r,h',n')/\(r= .t .nils/\h'=H):=by
 have hw:IntKind.i64.wrap (0-0)=0:=rfl
 (refine zxC Γ368 rfl ?_;dsimp only[zpP])
 simp -dsimp only[go_sem,seval,hw];exact⟨rfl,rfl⟩
theorem zBW (a b:List Int) (ha:a.length<2^20) (hb:b.length<2^20) (H:Nat->Option O) (n k:Nat) (va vb:V) (hk:H k=some (.rows 1 [[va],[vb]] false)) (GL:k<n)
 (oa:za0 H n va 1 (zw5 a)) (ob:za0 H n vb 1 (zw5 b)): ∃r h' n',DenR Γ G 350 [.ms k 0 2] H n=some (r,h',n')/\za0 h' n' r 1 (zw5 (a++b)):=by
 have w1:IntKind.i64.wrap (0+(a.length:Int))=a.length:=by rw[Int.zero_add];exact zaj (by omega)
 have w2:IntKind.i64.wrap ((a.length:Int)+b.length)=((a.length+b.length:Nat):Int):=by rw[Int.natCast_add];exact zaj (by omega)
 have e1: ¬((a.length:Int)<0):=by omega
 have e2: ¬(((a.length+b.length:Nat):Int)<0):=by omega
 have v1:=oa.valOf;have v2:=ob.valOf
 have l1:zBo H va=some a.length:=by rcases oa with⟨rfl,he⟩ | ⟨q,rfl,_,hq⟩
                                    ·have:a=[]:=by simpa[zw5]using he
                                     subst this;rfl
                                    ·simp[zBo,hq,zw2]
 have l2:zBo H vb=some b.length:=by rcases ob with⟨rfl,he⟩ | ⟨q,rfl,_,hq⟩
                                    ·have:b=[]:=by simpa[zw5]using he
                                     subst this;rfl
                                    ·simp[zBo,hq,zw2]
 (refine zxC Γ350 rfl ?_;dsimp only[zqV])
 simp -dsimp only[go_sem,seval,hk];refine zai ?_;simp -dsimp only[go_sem,seval,hk,v1,l1,w1,e1];refine zai ?_;simp -dsimp only[go_sem,seval,hk,v2,l2,w2,e2];refine zai ?_;simp -dsimp only[go_sem,seval]
 by_cases h0:a.length+b.length=0
 ·rw[h0];have FF:a=[]:=List.eq_nil_of_length_eq_zero (by omega);have Cm:b=[]:=List.eq_nil_of_length_eq_zero (by omega);subst FF Cm;refine zas (zCg _ _) ?_;rintro r h' n' ⟨rfl,rfl⟩;have r1:=oa.rowsS;have r2:=ob.rowsS;have e3:zw5 []=[]:=rfl;simp -dsimp only[go_sem,seval,hk];refine zai ?_;simp -dsimp only[go_sem,seval,hk,v1,r1,e3,zyh];refine zai ?_;simp -dsimp only[go_sem,seval,hk,v2,r2,e3,zyh];refine zai ?_;simp -dsimp only[go_sem,seval];exact .inl ⟨rfl,rfl⟩
 ·refine zas (zCE _ (by omega) (by omega) _ _) ?_;rintro r h' n' ⟨hP,As⟩;have q1:=hP.valOf;have q2:=hP.rows;have Be:h' k=some (.rows 1 [[va],[vb]] false):=by rw[As k (by omega)];exact hk
  have oa1:za0 h' n va 1 (zw5 a):=oa.keep (Nat.le_refl _) fun j hj _=>As j (by omega)
  have ob1:za0 h' n vb 1 (zw5 b):=ob.keep (Nat.le_refl _) fun j hj _=>As j (by omega)
  have r1:=oa1.rowsS;simp -dsimp only[go_sem,seval,q1,Be];refine zai ?_;simp -dsimp only[go_sem,seval,Be,v1,q1,q2,r1];refine zhd hP (by omega) (by simp;omega) ?_;rintro v' hp Mb Gl;rw[List.nil_append]at Mb;have q3:=Mb.valOf;have q4:=Mb.rows;have Ba:Ax h' hp k=some (.rows 1 [[va],[vb]] false):=by rw[Gl k (by omega)];exact Be
  have ob2:za0 (Ax h' hp) n vb 1 (zw5 b):=ob1.keep (Nat.le_refl _) fun j hj _=>Gl j (by omega)
  have r2:=ob2.rowsS;simp -dsimp only[go_sem,seval,q3,Ba];refine zai ?_;simp -dsimp only[go_sem,seval,Ba,v2,q3,q4,r2];refine zhd (room:=0) Mb (by omega) (by omega) ?_;rintro v' FX NG MY;have q5:=NG.valOf;have q6:=NG.resVal;simp only[Rg.resVal]at q6;simp -dsimp only[go_sem,seval,q5];refine zai ?_;simp -dsimp only[go_sem,seval,q5,q6];obtain⟨kk,rfl,h1,h2,h3⟩:=NG;exact .inr ⟨kk,by rw[zw2];rfl,by simp -dsimp only[go_sem];omega,by simpa using h3⟩
end Rg
end
section
namespace Rg
open Go
def wOf (p:Prog) (c:Int):Nat:=match p.cells[c.toNat]? with
 | some x=>x.w.toNat
 | none=>0
def stM (p:Prog):List Int->Int->List Int->List Int
 | [],_,s=>s
 | c::r,n,s=>stM p r (n/ 2^wOf p c) (s.set c.toNat (n % 2^wOf p c))
def zxf (p:Prog) (l:List Int):Nat:=(l.map (wOf p)).sum
def zBz (p:Prog) (mem:List Int):List Int->Int
 | []=>0
 | c::r=>atI mem c % 2^wOf p c+2^wOf p c*zBz p mem r
theorem zgc {p:Prog}: ∀(l:List Int) (n:Int) (s:List Int),(stM p l n s).length=s.length
 | [],_,_=>rfl
 | c::r,n,s=>by rw[stM,zgc r];simp
theorem zwd {p:Prog} {j:Nat}: ∀{l:List Int} {n:Int} {s:List Int},(∀c∈l,c.toNat≠j)->(stM p l n s).getD j 0=s.getD j 0
 | [],_,_,_=>rfl
 | c::r,n,s,h=>by
   rw[stM,zwd fun x hx=>h x (by simp[hx])];have:=h c (by simp);simp[zK,List.getElem?_set,this]
theorem zv8 {p:Prog} {mem:List Int}: ∀(l:List Int),0<=zBz p mem l/\zBz p mem l<2^zxf p l
 | []=>by simp[zBz,zxf]
 | c::r=>by
   obtain⟨h1,h2⟩:=zv8 (p:=p) (mem:=mem) r;have hp:(0:Int)<2^wOf p c:=zxD _;have h3:=Int.emod_nonneg (atI mem c) (b:=2^wOf p c) (by omega);have h4:=Int.emod_lt_of_pos (atI mem c) hp
   have hb:(2:Int)^zxf p (c::r)=2^wOf p c*2^zxf p r:=by
    rw[zxf,List.map_cons,List.sum_cons,Int.pow_add];rfl
   rw[zBz,hb];constructor
   ·exact Int.add_nonneg h3 (Int.mul_nonneg (by omega) h1)
   ·have h5:(2:Int)^wOf p c*(zBz p mem r+1)<=2^wOf p c*2^zxf p r:=Int.mul_le_mul_of_nonneg_left (by omega) (by omega);rw[Int.mul_add]at h5;omega
theorem zwu {p:Prog} {mem:List Int}: ∀{l:List Int} {s:List Int},l.Pairwise (fun a b=>a.toNat≠b.toNat)->(∀c∈l,c.toNat<s.length)->
 ∀c∈l,atI (stM p l (zBz p mem l) s) c=atI mem c % 2^wOf p c
 | [],_,_,_,c,hc=>by simp at hc
 | x::r,s,hp,hl,c,hc=>by
   obtain⟨p1,p2⟩:=List.pairwise_cons.1 hp;have Cf:(0:Int)<2^wOf p x:=zxD _;have h3:=Int.emod_nonneg (atI mem x) (b:=2^wOf p x) (by omega);have h4:=Int.emod_lt_of_pos (atI mem x) Cf
   have hd:zBz p mem (x::r)/ 2^wOf p x=zBz p mem r:=by
    rw[zBz,Int.add_mul_ediv_left _ _ (by omega),Int.ediv_eq_zero_of_lt h3 h4,Int.zero_add]
   have hm:zBz p mem (x::r) % 2^wOf p x=atI mem x % 2^wOf p x:=by
    rw[zBz,Int.add_mul_emod_self_left,Int.emod_emod_of_dvd _ (Int.dvd_refl _)]
   rw[stM,hd,hm];rcases List.mem_cons.1 hc with rfl | hc
   ·rw[atI,zwd fun y hy=>fun e=>p1 y hy e.symm];have:=hl c (by simp);simp[zK,List.getElem?_set,this]
   ·exact zwu p2 (fun y hy=>by simpa using hl y (by simp[hy])) c hc
theorem zwn {p:Prog} {e:Expr} (he:e.valid p.cells false=true) {m m' o o':List Int} (h: ∀c∈e.sup 2,atI m c % 2^wOf p c=atI m' c % 2^wOf p c):e.eval o m=e.eval o' m':=by
 have hv:=he;simp only[Expr.valid,zF]at hv;rw[Expr.eval,Expr.eval,if_pos hv.1,if_pos hv.1]
 have:=zwC (f:=fun x=>x) (o1:=o) (o2:=o') (m1:=m) (m2:=m') (zxk hv.1) (fun x hx=>by
  obtain⟨hk,hn,ho⟩:=zwA he hx;rcases ho with ho | ⟨ho,h0,Af,c,hc,PE⟩
  ·simp[Expr.ev_eq,ho]
  ·have hm:=zwG hv.1 hx ho h0 Af;have hg:=h x.n hm;have hw:wOf p x.n=x.w.toNat:=by rw[wOf,hc];simp[PE]
   rw[hw]at hg
   simp[Expr.ev_eq,ho,hg])
 rwa[zww]at this
def zA2 (p:Prog) (l:List Int) (A V:Expr) (x:List Int×Int) (n:Nat):List Int×Int:=
 (stM p l n x.1,if A.eval (stM p l n x.1) (stM p l n x.1)=1 then(if V.eval (stM p l n x.1) (stM p l n x.1)>x.2 then V.eval (stM p l n x.1) (stM p l n x.1)else x.2)else x.2)
def zxN (p:Prog) (l:List Int) (A V:Expr) (k:Nat):List Int×Int:=(List.range k).foldl (zA2 p l A V) (List.replicate p.cells.length 0,0)
def zoN (p:Prog) (l:List Int) (A V:Expr):Int:=(zxN p l A V (2^zxf p l)).2
theorem zc6 (p:Prog) (l:List Int) (A V:Expr) (k:Nat):zxN p l A V (k+1)=zA2 p l A V (zxN p l A V k) k:=by
 rw[zxN,List.range_succ,List.foldl_append];rfl
theorem ze5 (p:Prog) (l:List Int) (A V:Expr): ∀k,(zxN p l A V k).1.length=p.cells.length
 | 0=>by simp[zxN]
 | k+1=>by rw[zc6,zA2];simp only[zgc];exact ze5 p l A V k
theorem zv9 (e:Expr) (o m:List Int):0<=e.eval o m/\(e.formed=true->e.eval o m<2^e.w.toNat):=by
 unfold Expr.eval;split
 ·rename_i h;have:=zeC o m 40 e (zxk h);exact⟨this.1,fun _=>this.2⟩
 ·rename_i h;exact⟨Int.le_refl 0,fun h'=>absurd h' h⟩
theorem zv7 (p:Prog) (l:List Int) (A V:Expr) (hV:V.formed=true): ∀k,0<=(zxN p l A V k).2/\(zxN p l A V k).2<2^V.w.toNat
 | 0=>by simp[zxN];exact zxD _
 | k+1=>by
   have ih:=zv7 p l A V hV k;have:=zv9 V (stM p l k (zxN p l A V k).1) (stM p l k (zxN p l A V k).1);rw[zc6,zA2];simp only;split
   ·split
    ·exact⟨this.1,this.2 hV⟩
    ·exact ih
   ·exact ih
theorem zBS (p:Prog) (l:List Int) (A V:Expr) (k:Nat):(zxN p l A V k).2<=(zxN p l A V (k+1)).2:=by
 rw[zc6,zA2];simp only;split
 ·split<;>omega
 ·exact Int.le_refl _
theorem zAD (p:Prog) (l:List Int) (A V:Expr) {i:Nat}: ∀{k:Nat},i<=k->(zxN p l A V i).2<=(zxN p l A V k).2
 | 0,h=>by have:i=0:=by omega
           subst this;exact Int.le_refl _
 | k+1,h=>by
   rcases Nat.lt_or_ge k i with hi | hi
   ·have:i=k+1:=by omega
    subst this;exact Int.le_refl _
   ·exact Int.le_trans (zAD p l A V hi) (zBS p l A V k)
theorem zwE {p:Prog} {l:List Int} {A V:Expr} (hA:A.valid p.cells false=true) (hV:V.valid p.cells false=true) (Oh: ∀c∈A.sup 2,c∈l) (Og: ∀c∈V.sup 2,c∈l)
 (hp:l.Pairwise (fun a b=>a.toNat≠b.toNat)) (hl: ∀c∈l,c.toNat<p.cells.length) (mem:List Int) (h1:A.eval mem mem=1):V.eval mem mem<=zoN p l A V:=by
 obtain⟨n0,n1⟩:=zv8 (p:=p) (mem:=mem) l;obtain⟨n,hn⟩: ∃n:Nat,(n:Int)=zBz p mem l:=⟨(zBz p mem l).toNat,by omega⟩
 have Af:n<2^zxf p l:=by
  have:((2^zxf p l:Nat):Int)=2^zxf p l:=by simp
  omega
 have AA:=zwu (p:=p) (mem:=mem) hp (s:=(zxN p l A V n).1) (by rw[ze5];exact hl);rw[<- hn]at AA;have C4: ∀c∈l,atI mem c % 2^wOf p c=atI (stM p l n (zxN p l A V n).1) c % 2^wOf p c:=fun c hc=>by rw[AA c hc,Int.emod_emod_of_dvd _ (Int.dvd_refl _)]
 have eA:=zwn hA (o:=mem) (o':=stM p l n (zxN p l A V n).1) fun c hc=>C4 c (Oh c hc)
 have eV:=zwn hV (o:=mem) (o':=stM p l n (zxN p l A V n).1) fun c hc=>C4 c (Og c hc)
 have h2:V.eval mem mem<=(zxN p l A V (n+1)).2:=by
  rw[zc6,zA2];simp only;rw[<- eA,h1,<- eV,if_pos rfl];split<;>omega
 exact Int.le_trans h2 (zAD p l A V (by omega))
def zxj (l:Loop) (a:Int):Bool:=decide (a=l.head)||l.body.contains a
def zA5 (t:Int) (x:Choice):Bool:=decide (x.thread=t)&&decide (x.step≠ -1)
structure It where
 c:Config
 best:Int
 arr:Int
def It.see (l:Loop) (s:It) (c':Config) (a:Int) (mv:Bool):It:=
 ⟨c',if(if !zxj l a then 0 else if mv&&decide (a=l.head)then s.arr+1 else s.arr)-1>s.best then(if !zxj l a then 0 else if mv&&decide (a=l.head)then s.arr+1 else s.arr)-1 else s.best,
   if !zxj l a then 0 else if mv&&decide (a=l.head)then s.arr+1 else s.arr⟩
def itS (nx:Config->Choice->Config) (t:Int) (l:Loop) (s:It) (x:Choice):It:=
 s.see l (nx s.c x) (atI (nx s.c x).at_ t) (zA5 t x||decide (atI s.c.at_ t= -1))
def it0 (t:Int) (l:Loop) (c:Config):It:=⟨c,0,if atI c.at_ t=l.head then 1 else 0⟩
def itM (nx:Config->Choice->Config) (t:Int) (l:Loop) (c:Config) (run:List Choice):It:=run.foldl (itS nx t l) (it0 t l c)
theorem zgq (nx:Config->Choice->Config) (t:Int) (l:Loop) (c:Config) (run:List Choice) (x:Choice):itM nx t l c (run++[x])=itS nx t l (itM nx t l c run) x:=by
 rw[itM,List.foldl_append];rfl
theorem zwI (nx:Config->Choice->Config) (t:Int) (l:Loop): ∀(run:List Choice) (c:Config) (s:It),s.c=c->(run.foldl (itS nx t l) s).c=run.foldl nx c
 | [],_,_,h=>h
 | x::r,c,s,h=>by
   rw[List.foldl_cons,List.foldl_cons];exact zwI nx t l r _ _ (by rw[itS,It.see,h])
structure It.Ok (t:Int) (s:It) (n:Int):Prop where
 b0:0<=s.best
 a0:0<=s.arr
 ab:s.arr<=s.best+1
 bn:s.best<=n
 an:s.arr<=n+1
 az:atI s.c.at_ t= -1->s.arr=0
theorem It.Ok.init {t:Int} {l:Loop} {c:Config} (hl:l.head≠ -1):(it0 t l c).Ok t 0:=by
 refine⟨Int.le_refl _,?_,?_,Int.le_refl _,?_,fun h=> ?_⟩<;>simp only[it0]at * <;>(try split)<;>(try omega)
theorem It.Ok.step {nx:Config->Choice->Config} {t:Int} {l:Loop} {s:It} {n:Int} (h:s.Ok t n) (hl:zxj l (-1)=false) (x:Choice):
 (itS nx t l s x).Ok t (n+if zA5 t x then 1 else 0)/\s.best<=(itS nx t l s x).best/\(itS nx t l s x).best<=s.best+1:=by
 obtain⟨h1,h2,h3,h4,h5,h6⟩:=h
 generalize Bt:nx s.c x=c'
 generalize ha:atI c'.at_ t=a
 have Ab:(0:Int)<=(if zA5 t x=true then 1 else 0):=by split<;>omega
 have D8:(zA5 t x||decide (atI s.c.at_ t= -1))=true->(zA5 t x=true\/s.arr=0):=by
  intro h;simp only[Bool.or_eq_true,decide_eq_true_eq]at h;exact h.imp id h6
 have Gi:zxj l a=true->a≠ -1:=fun h e=>by rw[e,hl]at h;cases h
 simp only[itS,It.see,Bt,ha];cases hi:zxj l a
 ·simp only[Bool.not_false,if_true];refine⟨⟨?_,?_,?_,?_,?_,?_⟩,?_,?_⟩<;>(try dsimp only)<;>(try split)<;>(try omega)
 ·simp only[Bool.not_true,if_false,zG];cases hm:(zA5 t x||decide (atI s.c.at_ t= -1))&&decide (a=l.head)
  ·simp only[if_false,zG];refine⟨⟨?_,?_,?_,?_,?_,fun e=>absurd (ha.symm.trans e) (Gi hi)⟩,?_,?_⟩<;>(try dsimp only)<;>(try split)<;>(try omega)
  ·simp only[if_true];simp only[zF]at hm;have Fp:=D8 hm.1;refine⟨⟨?_,?_,?_,?_,?_,fun e=>absurd (ha.symm.trans e) (Gi hi)⟩,?_,?_⟩<;>(try dsimp only)
   all_goals(rcases Fp with Fp | Fp<;>(try rw[Fp])<;>(try simp only[if_true])<;>(try split)<;>omega)
structure It.Desc (B:Int) (s:It) (last:Int):Prop where
 b:s.best<=B
 z:s.arr=0->last= -1
 p:0<s.arr->0<=last/\last+(s.arr-1)<=B
 a0:0<=s.arr
def zzO (l:Loop) (a:Int) (mv:Bool) (v last:Int):Int:=if !zxj l a then -1 else if mv&&decide (a=l.head)then v else last
theorem It.Desc.step {B:Int} {l:Loop} {s:It} {last:Int} (h:s.Desc B last) {c':Config} {a v:Int} {mv:Bool} (hB:0<=B)
 (hv:zxj l a=true->(mv&&decide (a=l.head))=true->0<=v/\v<=B/\ ¬(last>=0/\v>=last)):(s.see l c' a mv).Desc B (zzO l a mv v last):=by
 obtain⟨h1,h2,h3,h4⟩:=h;simp only[It.see,zzO];cases hi:zxj l a
 ·simp only[Bool.not_false,if_true];refine⟨?_,?_,?_,?_⟩<;>(try dsimp only)<;>(try split)<;>(try omega)
 ·simp only[Bool.not_true,if_false,zG];have hv:=hv hi;cases hm:mv&&decide (a=l.head)
  ·simp only[if_false,zG];refine⟨?_,?_,?_,?_⟩<;>(try dsimp only)<;>(try split)<;>(try omega)
  ·simp only[if_true];obtain⟨v1,v2,v3⟩:=hv hm;rcases Int.lt_or_eq_of_le h4 with OE | OE
   ·obtain⟨q1,q2⟩:=h3 OE;have:v<last:=Int.not_le.1 fun BV=>v3 ⟨q1,BV⟩
    refine⟨?_,?_,?_,?_⟩<;>(try dsimp only)<;>(try split)<;>(try omega)
   ·refine⟨?_,?_,?_,?_⟩<;>(try dsimp only)<;>(try split)<;>(try omega)
def zyr (p:Prog) (t j:Int):Bool:=zw6 p&&(decide (0<=t)&&(decide (0<=j)&&match p.threads[t.toNat]? with
 | some x=>decide (j<x.loops.length)
 | none=>false))
theorem zjS {p:Prog} {t j:Int} (h:zyr p t j=true):zw6 p=true/\ ∃(tn jn:Nat) (x:Thread) (l:Loop),t=tn/\j=jn/\p.threads[tn]? =some x/\x.loops[jn]? =some l:=by
 simp only[zyr,zF,decide_eq_true_eq]at h;obtain⟨h1,h2,h3,h4⟩:=h;refine⟨h1,t.toNat,j.toNat,?_⟩
 cases hx:p.threads[t.toNat]? with
 | none=>rw[hx]at h4;cases h4
 | some x=>
   rw[hx]at h4;have hj:j.toNat<x.loops.length:=by simp only[decide_eq_true_eq]at h4;omega
   exact⟨x,x.loops[j.toNat],by omega,by omega,rfl,zI hj⟩
theorem zm6 (p:Prog) (hs:p.sane) (t j:Int):Den Γ G 348 [(zP p),vi t,vi j]=some (vb (zyr p t j)):=by
 have h1:=ze4 p hs
 (refine zw3 Γ348 rfl ?_;dsimp only[zqX])
 cases hf:zw6 p
 ·rw[hf]at h1;have:zyr p t j=false:=by simp[zyr,hf]
  rw[this];simp -dsimp only[go_sem,seval,h1]
 ·rw[hf]at h1
  by_cases ht:0<=t
  ·obtain⟨n,rfl⟩: ∃n:Nat,t=n:=⟨t.toNat,by omega⟩
   have e0:((n:Int)>=0):=by omega
   by_cases hn:n<p.threads.length
   ·have IH:((n:Int)<(p.threads.length:Int)):=by omega
    have hx:=zI hn
    generalize p.threads[n]=x at hx
    have:zyr p n j=(decide (0<=j)&&decide (j<x.loops.length)):=by simp[zyr,hf,hx]
    rw[this]
    by_cases hj:j>=0
    ·have DA:0<=j:=hj;simp -dsimp only[go_sem,seval,h1,e0,IH,hj,DA,hx]
    ·have DA: ¬0<=j:=hj;simp -dsimp only[go_sem,seval,h1,e0,IH,hj,DA,Bool.false_and]
   ·have IH: ¬((n:Int)<(p.threads.length:Int)):=by omega
    have hx:p.threads[n]? =none:=List.getElem?_eq_none (by omega);have:zyr p n j=false:=by simp[zyr,hf,hx]
    rw[this];simp -dsimp only[go_sem,seval,h1,e0,IH]
  ·have e0: ¬(t>=0):=ht;have:zyr p t j=false:=by simp[zyr,ht]
   rw[this];simp -dsimp only[go_sem,seval,h1,e0]
theorem zjT (p:Prog) (hl:p.lite) (t j:Int):Den Γ G 335 [(zP p),vi t,vi j]=some (vb (zBT p&&zyr p t j)):=by
 have h1:=zna p hl.steps
 (refine zw3 Γ335 rfl ?_;dsimp only[zq0])
 cases hf:zBT p
 ·rw[hf]at h1;simp -dsimp only[go_sem,seval,h1,Bool.false_and]
 ·rw[hf]at h1;have h2:=zm6 p (zBC hl hf) t j;simp -dsimp only[go_sem,seval,h1,h2,Bool.true_and]
theorem zeE (p:Prog) (hs:p.sane) (hf:zw6 p=true) {t j:Nat} {x:Thread} {l:Loop} (hx:p.threads[t]? =some x) (hl:x.loops[j]? =some l):Den Γ G 349 [(zP p),vi t,vi j]=some (vb true):=by
 have h1:=zbM p hs;have h0:(zxL p).1=0:=by simpa[zw6]using hf
 have e1:((t:Int)>=0):=by omega
 have e2:((j:Int)>=0):=by omega
 have e3:((t:Int)<(p.threads.length:Int)):=by have:=(zH.1 hx).1;omega
 have e4:((j:Int)<(x.loops.length:Int)):=by have:=(zH.1 hl).1;omega
 (refine zw3 Γ349 rfl ?_;dsimp only[zqW])
 simp -dsimp only[go_sem,seval,h1,h0,e1,e2,e3,e4,hx]
theorem zmS (a b:Entry) (ha:a.cells.length<2^20) (hb:b.cells.length<2^20):
 Den Γ G 384 [.agg [.t (ints a.cells),.t (ints a.values)],.agg [.t (ints b.cells),.t (ints b.values)]]=some (vb (zAr a b)):=by
 (refine zw3 Γ384 rfl ?_;dsimp only[zqL])
 simp -dsimp only[go_sem,seval];refine zaq 4294967280 a.cells.length (fun i f=>(f 5).v=vi i/\ ∀c∈a.cells.take i,c∉ b.cells) rfl rfl ⟨by simp -dsimp only[go_sem,seval],by simp⟩ ?_;rintro i f u x bs hi ⟨h5,Bq⟩;have hw:=zag i (by omega);simp -dsimp only[go_sem,seval,h5];refine zw1 (fun h=> ?_) (fun h=> ?_)<;>(try rw[h])<;>(try simp only[zab]at h)<;>(try simp -dsimp only[go_sem,seval,h5])
 ·obtain⟨c,hc,Bh⟩:=zad ‹i<a.cells.length›;refine zaq 4294950992 b.cells.length (fun k f=>(f 6).v=vi k/\ ∀d∈b.cells.take k,d≠c) rfl rfl ⟨by simp -dsimp only[go_sem,seval],by simp⟩ ?_;rintro k f2 u2 x2 bs2 hk ⟨h6,ID⟩;have C6:=zag k (by omega);simp -dsimp only[go_sem,seval,h6];refine zw1 (fun h=> ?_) (fun h=> ?_)<;>(try rw[h])<;>(try simp only[zab]at h)<;>(try simp -dsimp only[go_sem,seval,h6,h5])
  ·obtain⟨d,hd,Jq⟩:=zad ‹k<b.cells.length›
   by_cases Li:c=d
   ·have hm:zAr a b=true:=by
     simp only[zAr,List.any_eq_true];exact⟨d,Jq,by simpa[Li]using Li▸Bh⟩
    rw[hm];simp -dsimp only[go_sem,seval,h5,h6,hc,hd,Li]
   ·simp -dsimp only[go_sem,seval,h5,h6,hc,hd,Li];refine⟨by omega,by simp -dsimp only[go_sem,seval,C6],?_⟩;intro e he;rw[zac hd,List.mem_append]at he;rcases he with he | he
    ·exact ID e he
    ·simp only[List.mem_singleton]at he;subst he;exact Ne.symm Li
  ·have:k=b.cells.length:=by omega
   subst this;rw[List.take_length]at ID;refine⟨by omega,by simp -dsimp only[go_sem,seval,hw],?_⟩;intro e he;rw[zac hc,List.mem_append]at he;rcases he with he | he
   ·exact Bq e he
   ·simp only[List.mem_singleton]at he;subst he;exact fun AY=>ID e AY rfl
 ·have:i=a.cells.length:=by omega
  subst this;rw[List.take_length]at Bq
  have hm:zAr a b=false:=by
   simp only[zAr,List.any_eq_false];intro d hd;simp only[List.contains_eq_mem,decide_eq_true_eq];exact fun h=>Bq d h hd
  rw[hm]
def zC3 (l:List Int) (v:Int):Int:=match l.findIdx? (fun x=>decide (x=v))with
 | some i=>i
 | none=> -1
theorem zoy {l:List Int} {v:Int} {i:Nat} (h:l[i]? =some v) (hn: ∀j,j<i->l[j]? ≠some v):zC3 l v=i:=by
 have hi:=(zH.1 h).1
 have:l.findIdx? (fun x=>decide (x=v))=some i:=by
  rw[List.findIdx?_eq_some_iff_getElem];refine⟨hi,by simpa using(zH.1 h).2,fun j hj=> ?_⟩;have:=hn j hj;rw[zI (by omega)]at this;simpa using this
 rw[zC3,this]
theorem zm5 {l:List Int} {v:Int} (hn: ∀j,j<l.length->l[j]? ≠some v):zC3 l v= -1:=by
 have:l.findIdx? (fun x=>decide (x=v))=none:=by
  rw[List.findIdx?_eq_none_iff];intro x hx;obtain⟨j,hj⟩:=List.getElem?_of_mem hx;have:=hn j (zH.1 hj).1;rw[hj]at this;simpa using this
 rw[zC3,this]
theorem zoz (l:List Int) (v:Int):decide (zC3 l v>=0)=l.contains v:=by
 unfold zC3
 cases h:l.findIdx? (fun x=>decide (x=v))with
 | some i=>
   have hm:v∈l:=by
    rw[List.findIdx?_eq_some_iff_getElem]at h;obtain⟨h1,h2,_⟩:=h;exact(by simpa using h2:l[i]=v)▸List.getElem_mem h1
   simp[hm]
 | none=>
   have hm:v∉ l:=by
    intro hm;rw[List.findIdx?_eq_none_iff]at h;have:=h v hm;simp at this
   simp[hm]
theorem zkd (l:List Int) (v:Int) (hl:l.length<2^40):Den Γ G 207 [.t (ints l),vi v]=some (vi (zC3 l v)):=by
 (refine zw3 Γ207 rfl ?_;dsimp only[f207])
 simp -dsimp only[go_sem,seval];refine zaq 524080 l.length (fun i f=>(f 8).v=vi i/\ ∀j,j<i->l[j]? ≠some v) rfl rfl ⟨by simp -dsimp only[go_sem,seval],fun j hj=>by omega⟩ ?_;rintro i f u kk bb hi ⟨h8,hn⟩;have hw:=zag i (by omega);simp -dsimp only[go_sem,seval,h8];refine zw1 (fun h=> ?_) (fun h=> ?_)<;>(try rw[h])<;>(try simp only[zab]at h)<;>(try simp -dsimp only[go_sem,seval,h8])
 ·obtain⟨y,hy,_⟩:=zad ‹i<l.length›;simp -dsimp only[go_sem,seval,h8,hy];refine zw1 (fun h=> ?_) (fun h=> ?_)<;>(try rw[h])<;>(try simp only[zab]at h)<;>(try simp -dsimp only[go_sem,seval,h8])
  ·rw[zoy (by rw[hy,h]) hn]
  ·refine⟨by omega,by simp -dsimp only[go_sem,seval,hw],fun j hj=> ?_⟩;rcases Nat.lt_or_ge j i with h1 | h1
   ·exact hn j h1
   ·have:j=i:=by omega
    subst this;rw[hy];intro he;cases he;exact absurd rfl h
 ·have:i=l.length:=by omega
  subst this;rw[zm5 hn]
theorem zcx (l:List Int) (v:Int) (hl:l.length<2^40):Den Γ G 206 [.t (ints l),vi v]=some (vb (l.contains v)):=by
 (refine zw3 Γ206 rfl ?_;dsimp only[f206])
 have h1:=zkd l v hl;have h2:=zoz l v;simp -dsimp only[go_sem,seval,h1,h2]
theorem ziz (l:List Entry) (e:Entry) (hl:l.length<2^40) (he:e.cells.length<2^40) (hc: ∀o∈l,o.cells.length<2^40):
 Den Γ G 201 [.t (.sl (l.map Entry.enc)),.agg [.t (ints e.cells),.t (ints e.values)]]=some (vb (zyb l e)):=by
 (refine zw3 Γ201 rfl ?_;dsimp only[f201])
 simp -dsimp only[go_sem,seval];refine zaq 268433744 l.length (fun i f=>(f 11).v=vi i/\zyb l e=(l.drop i).any fun o=>zAr o e) rfl rfl ⟨by simp -dsimp only[go_sem,seval],rfl⟩ ?_;rintro i f u kk bb hi ⟨Bj,A4⟩;have hw:=zag i (by omega);simp -dsimp only[go_sem,seval,Bj];refine zw1 (fun h=> ?_) (fun h=> ?_)<;>(try rw[h])<;>(try simp only[zab]at h)<;>(try simp -dsimp only[go_sem,seval,Bj])
 ·obtain⟨y,hy,DE⟩:=zad ‹i<l.length›;have JZ:=hc y DE;simp -dsimp only[go_sem,seval,Bj,hy,Entry.enc];refine zaq 133955856 e.cells.length (fun j f'=>(f' 18).v=vi j/\(e.cells.take j).any (fun n=>y.cells.contains n)=false) rfl rfl ⟨by simp -dsimp only[go_sem,seval],by simp⟩ ?_;rintro j f' u' kk' bb' hj ⟨CO,Bq⟩;have Ay:=zag j (by omega);simp -dsimp only[go_sem,seval,CO];refine zw1 (fun h=> ?_) (fun h=> ?_)<;>(try rw[h])<;>(try simp only[zab]at h)<;>(try simp -dsimp only[go_sem,seval,CO,Bj])
  ·obtain⟨n,hn,HL⟩:=zad ‹j<e.cells.length›;have PF:=zcx y.cells n JZ;simp -dsimp only[go_sem,seval,CO,Bj,hn,PF];refine zw1 (fun h=> ?_) (fun h=> ?_)<;>(try rw[h])<;>(try simp only[zab]at h)<;>(try simp -dsimp only[go_sem,seval,CO,Bj])
   ·rw[A4,zgG hy (by rw[zAr,List.any_eq_true];exact⟨n,HL,by simpa using h⟩)]
   ·refine⟨by omega,by simp -dsimp only[go_sem,seval,Ay],?_⟩;rw[zac hn,List.any_append,Bq];simpa using h
  ·have:j=e.cells.length:=by omega
   subst this;refine⟨by omega,by simp -dsimp only[go_sem,seval,hw],?_⟩;rw[A4,zgH hy (by rw[List.take_length]at Bq;exact Bq)]
 ·have:i=l.length:=by omega
  subst this;rw[A4,ziE]
def zsI (h:Nat->Option O) (x:Nat) (v:V) (rows:List (List V)):Prop:=
 (v= .t (.sl [])/\rows=[])\/ ∃k,v= .ms k 0 rows.length/\k<x/\h k=some (.rows 1 rows false)
theorem zik (l:List Int):zyR (zw5 l)=some l:=by
 induction l with
 | nil=>rfl
 | cons n l ih=>
   show(zyR (zw5 l)).map (n:: ·)=_;rw[ih];rfl
theorem zic (l:List Int):zxs l=zw5 l:=by simp[zxs,zw5]
theorem zhG {h:Nat->Option O} {key:Nat} {l:List Int} {K:V->List (Nat×O)->Prop} {w:WK K} (hl:l.length<2^40)
 (hK: ∀v hp,zsI (Ax h hp) (key+1) v (zw5 l)->(∀j,j≠key->Ax h hp j=h j)->(∀j,j≠key->zdc v j)->(Rg.valOf v=some v/\V.cells v=some [v])->K v hp):zpM (Γ:=Γ) (G:=G) false h key 198 [.t (ints l)] K w:=by
 refine⟨rfl,rfl,[.t (ints l)],rfl,?_⟩
 cases l with
 | nil=>
   refine⟨.t (.sl []),fun _=>none,0,zc7 Γ198 rfl rfl rfl,{ val:=.t (.sl []) },rfl,hK _ _ (.inl ⟨rfl,rfl⟩) (fun j _=>by rw[zar]) (fun j _ i n h=>by cases h) ⟨rfl,rfl⟩⟩
 | cons a l=>
   have hd:zyL .cloneI [.t (ints (a::l))] (fun _=>none) 0=some (.ms 0 0 (a::l).length,upd (fun _=>none) 0 (some (.rows 1 (zxs (a::l)) false)),1):=by
    show((zyR (zw5 (a::l))).bind fun zs=>if zs.length<1099511627776 then some (V.ms 0 0 zs.length,upd (fun _=>none) 0 (some (O.rows 1 (zxs zs) false)),0+1)else none)=_;rw[zik,zD,if_pos hl]
   rw[zic]at hd;have Aa:(zw5 (a::l)).all (fun row=>row.all V.isTr)=true:=by simp[zw5,V.isTr]
   refine⟨_,_,_,zc7 Γ198 rfl rfl hd,{ val:=.ms key 0 (zw5 (a::l)).length,hp:=[(key,.rows 1 (zw5 (a::l)) false)] },?_,hK _ _ (.inr ⟨key,rfl,by omega,by simp[zav,zar,zae]⟩) (fun j hj=>by simp[zav,zar,zae,hj]) (fun j hj=>zyp (by omega) _ _) ⟨rfl,rfl⟩⟩;simp only[zBy,zxg];rw[if_pos ⟨trivial,by rw[zw2],Aa⟩,zw2]
theorem zsI.reify {h:Nat->Option O} {x:Nat} {v:V} {l:List Int} (o:zsI h x v (zw5 l)):Rg.reify h v=some (.t (ints l)):=by
 rcases o with⟨rfl,he⟩ | ⟨k,rfl,_,hh⟩
 ·have:l=[]:=by
   have:=congrArg List.length he;rw[zw2]at this;exact List.eq_nil_of_length_eq_zero this
  subst this;rfl
 ·have:toT h 1000 (.ms k 0 (zw5 l).length)=some (.sl (l.map fun n=>[ti n])):=zbS (h:=h) (x:=k+1) (es:=l.map fun n=>[ti n]) (.inr ⟨k,rfl,by omega,hh⟩) (zxU _);simp only[Rg.reify,toT1,this,Option.map_some]
def zzX (m:List Int) (e:Entry) (i:Nat):List Int:=((e.cells.zip e.values).take i).foldl (fun m q=>m.set q.1.toNat q.2) m
theorem ziY (m:List Int) (e:Entry) (i:Nat):(zzX m e i).length=m.length:=zbG _ m
theorem zhb {m:List Int} {e:Entry} {i:Nat} {c v:Int} (hc:e.cells[i]? =some c) (hv:e.values[i]? =some v):zzX m e (i+1)=(zzX m e i).set c.toNat v:=by
 have hz:(e.cells.zip e.values)[i]? =some (c,v):=by rw[List.getElem?_zip_eq_some];exact⟨hc,hv⟩
 unfold zzX;rw[zac hz,List.foldl_append];rfl
theorem ziZ {m:List Int} {e:Entry} (hl:e.values.length=e.cells.length):zzX m e e.cells.length=zz2 m e:=by
 unfold zzX zz2;rw[List.take_of_length_le (by rw[List.length_zip];omega)]
theorem zju (m:List Int) (e:Entry) (hl:e.values.length=e.cells.length) (hs:e.cells.length<2^40) (hc: ∀n∈e.cells,0<=n/\n.toNat<m.length) (H:Nat->Option O) (nx k:Nat) (hk:H k=some (.rows 1 (zw5 m) false)):
 ∃r h' n',DenR Γ G 199 [.ms k 0 m.length,.agg [.t (ints e.cells),.t (ints e.values)]] H nx=some (r,h',n')/\(r= .tup []/\h' k=some (.rows 1 (zw5 (zz2 m e)) false)/\(∀j,j≠k->h' j=H j)/\nx<=n'):=by
 (refine zxC Γ199 rfl ?_;dsimp only[f199])
 simp -dsimp only[go_sem,seval];refine zap 8388144 e.cells.length (fun i f h x=>(f 9).v=vi i/\h k=some (.rows 1 (zw5 (zzX m e i)) false)/\(∀j,j≠k->h j=H j)/\nx<=x) rfl ⟨by simp -dsimp only[go_sem,seval],by simp -dsimp only[go_sem,seval,hk,zzX,List.take_zero,List.foldl_nil],fun j _=>rfl,by simp -dsimp only[go_sem,seval];omega⟩ ?_;rintro i f u h x bs hi ⟨h9,hh,hj,hx⟩;have hw:=zag i (by omega);simp -dsimp only[go_sem,seval,h9];refine zw1 (fun h=> ?_) (fun h=> ?_)<;>(try rw[h])<;>(try simp only[zab]at h)<;>(try simp -dsimp only[go_sem,seval,h9])
 ·obtain⟨c,Ed,Bh⟩:=zad ‹i<e.cells.length›;obtain⟨v,hv,_⟩:=zad (show i<e.values.length by omega);obtain⟨c0,c1⟩:=hc c Bh;have AR:=zhb (m:=m) Ed hv;have Ac:=ziY m e i;have Bn:=zaE (l:=zzX m e i) (i:=c.toNat) (by omega);have AA:=zaD (zzX m e i) c.toNat v;have c2:c<(m.length:Int):=by omega
  simp -dsimp only[go_sem,seval,h9,Ed,hv,hh,c0,c2,Bn];refine⟨by omega,by simp -dsimp only[go_sem,seval,hw],?_,?_,by simp -dsimp only[go_sem,seval];omega⟩
  ·rw[AR];simp -dsimp only[go_sem,seval,AA]
  ·intro j Nb;simp -dsimp only[go_sem,seval,Nb,hj]
 ·have:i=e.cells.length:=by omega
  subst this;rw[ziZ hl]at hh;refine⟨rfl,hh,hj,by simp -dsimp only[go_sem,seval];omega⟩
theorem zml (p:Prog) (hf:zw6 p=true) (c:Config) (hc:IsB p c) (t:Nat) (ht:t<p.threads.length):Den Γ G 188 [(.agg [.t (ints (c).mem),.t (ints (c).at_),.t (.sl ((c).buf.map (fun b=>[.sl (b.map Entry.enc)])))]),vi t]=some (.t (ints (zxd c t))):=by
 obtain⟨⟨m1,m2,m3,m4⟩,_⟩:=zw8 (zw9 hf).1;have l1:=hc.lm;have l3:=hc.lb;have Ae:=zx4 (c:=c) (t:=t) (by omega);obtain⟨b1,b2,_⟩:=hc.buf t _ Ae
 (refine zw3 Γ188 rfl ?_;dsimp only[f188])
 simp -dsimp only[go_sem,seval];refine zhG (by omega) ?_;rintro v hp ho LR Hh ⟨Bb,_⟩;simp -dsimp only[go_sem,seval,Ae,Bb];rcases ho with⟨rfl,he⟩ | ⟨k,rfl,hk,hh⟩
 ·have hm:c.mem=[]:=by
   have:=congrArg List.length he;rw[zw2]at this;exact List.eq_nil_of_length_eq_zero this
  have hb:zxq c t=[]:=by
   cases LZ:zxq c t with
   | nil=>rfl
   | cons e r=>
     have hp:=b2 e (by rw[LZ];exact List.mem_cons_self);have:=zyw hp (zz3 hp);have hl:p.cells.length=0:=by rw[<- l1,hm];rfl
     omega
  have Kg:zxd c t=[]:=by rw[zxd,hb,hm];rfl
  refine zap 33423488 (zxq c t).length (fun i f h x=>(f 17).v=vi i) rfl (by simp -dsimp only[go_sem,seval]) ?_;rintro i f u h x bs hi J4;simp -dsimp only[go_sem,seval,J4];refine zw1 (fun h=> ?_) (fun h=> ?_)<;>(try rw[h])<;>(try simp only[zab]at h)<;>(try simp -dsimp only[go_sem,seval,J4])
  ·have:(zxq c t).length=0:=by rw[hb];rfl
   omega
  ·rw[Kg];rfl
 ·rw[zw2]at *;refine zap 33423488 (zxq c t).length (fun i f h x=>(f 17).v=vi i/\h k=some (.rows 1 (zw5 (((zxq c t).take i).foldl zz2 c.mem)) false)) rfl ⟨by simp -dsimp only[go_sem,seval],by simp -dsimp only[go_sem,seval,hh,List.take_zero,List.foldl_nil]⟩ ?_;rintro i f u H2 x bs hi ⟨J4,Nj⟩;have hw:=zag i (by omega);simp -dsimp only[go_sem,seval,J4];refine zw1 (fun h=> ?_) (fun h=> ?_)<;>(try rw[h])<;>(try simp only[zab]at h)<;>(try simp -dsimp only[go_sem,seval,J4])
  ·obtain⟨e,he,Dc⟩:=zad ‹i<(zxq c t).length›;have Cu:=b2 e Dc;have Ac:(((zxq c t).take i).foldl zz2 c.mem).length=c.mem.length:=zbs _ _;simp -dsimp only[go_sem,seval,J4,he,Entry.enc];refine zas (by rw[<- Ac];exact zju _ e Cu.len (by have:=zaW Cu;omega) (fun n hn=>by have:=zyw Cu hn;omega) _ _ k (by simp -dsimp only[go_sem,seval,Nj])) ?_;rintro r h' n' ⟨rfl,g1,g2,g3⟩;simp -dsimp only[go_sem,seval,J4];refine⟨by omega,by simp -dsimp only[go_sem,seval,hw],?_⟩;rw[zac he,List.foldl_append];simp -dsimp only[go_sem,seval,g1,List.foldl_cons,List.foldl_nil]
  ·have:i=(zxq c t).length:=by omega
   subst this;rw[List.take_length]at Nj;have Dw:H2 k=some (.rows 1 (zw5 (zxd c t)) false):=Nj;have HP:(zw5 (zxd c t)).length=c.mem.length:=by rw[zw2,zmk]
   have Di:List.take c.mem.length (zw5 (zxd c t))=zw5 (zxd c t):=zaC HP.symm;simp -dsimp only[go_sem,seval,Dw,HP,Di,Nat.le_refl,zaL]
abbrev num (z:Int):List UInt8:=Go.Lib.itoa z
def zpz (op:Int):List UInt8:=
 if op=4 then [110,111,116]else if op=5 then [97,110,100]else if op=6 then [111,114]else if op=7 then [120,111,114]else if op=8 then [97,100,100]
 else if op=9 then [115,117,98]else if op=10 then [109,117,108]else if op=11 then [101,113]else if op=12 then [108,116]else if op=13 then [108,101]else [105,116,101]
def zpF (op:Int):List UInt8:=if op=2 then [99]else if op=3 then [111]else []
def znV:List (List UInt8)->List UInt8
 | []=>[]
 | [x]=>x
 | x::r=>x++44::znV r
namespace Expr
mutual
def txt:Expr->List UInt8
 | .mk op w n ks=>if op=1\/op=2\/op=3 then zpF op++num n++[58]++num w else zpz op++[40]++znV (zDJ ks)++[41]
def zDJ:List Expr->List (List UInt8)
 | []=>[]
 | e::r=>txt e::zDJ r
end
end Expr
theorem zzk {α:Type} {f:Nat->α->Int}: ∀{l:List α} {i:Nat},(zx7 f i l).1=0<-> ∀(j:Nat) (x:α),l[j]? =some x->f (i+j) x=0
 | [],i=>by simp[zx7]
 | y::r,i=>by
   rw[zx7];constructor
   ·intro h j x hj;split at h
    ·rename_i h0
     cases j with
     | zero=>simp at hj;subst hj;exact h0
     | succ j=>
       have:=(zzk (l:=r) (i:=i+1)).1 h j x (by simpa using hj);rwa[show i+1+j=i+(j+1)by omega]at this
    ·rename_i h0;exact absurd h h0
   ·intro h;have h0:f i y=0:=h 0 y rfl;rw[if_pos h0];refine(zzk (l:=r) (i:=i+1)).2 fun j x hj=> ?_
    have:=h (j+1) x (by simpa using hj);rwa[show i+(j+1)=i+1+j by omega]at this
theorem zAI {p:Prog}: ∀{l:List Thread} {i:Nat},(zyW p i l).1=0<-> ∀(j:Nat) (x:Thread),l[j]? =some x->(zxa p (i+j) x).1=0
 | [],i=>by simp[zyW]
 | y::r,i=>by
   rw[zyW];constructor
   ·intro h j x hj;split at h
    ·rename_i h0
     cases j with
     | zero=>simp at hj;subst hj;exact h0
     | succ j=>
       have:=(zAI (l:=r) (i:=i+1)).1 h j x (by simpa using hj);rwa[show i+1+j=i+(j+1)by omega]at this
    ·rename_i h0;exact absurd h h0
   ·intro h;have h0:(zxa p i y).1=0:=h 0 y rfl;rw[if_pos h0];refine(zAI (l:=r) (i:=i+1)).2 fun j x hj=> ?_
    have:=h (j+1) x (by simpa using hj);rwa[show i+(j+1)=i+1+j by omega]at this
abbrev Prog.ok (p:Prog):Prop:=(zxL p).1=0
structure Rules (p:Prog):Prop where
 lim:(zxn p).1=0
 cells: ∀(i:Nat) (c:Cell),p.cells[i]? =some c->zx3 p i c=0
 modules: ∀(i:Nat) (m:Contract),p.modules[i]? =some m->zyK p i m=0
 locks: ∀(i:Nat) (l:Lock),p.locks[i]? =some l->zyq p i l=0
 threads: ∀(i:Nat) (x:Thread),p.threads[i]? =some x->(zxa p i x).1=0
theorem zi5 {p:Prog}:p.ok<->Rules p:=by
 unfold Prog.ok zxL;constructor
 ·intro h;split at h
  ·rename_i h0;exact absurd h h0
  ·rename_i h0;split at h
   ·rename_i h1;exact absurd h h1
   ·rename_i h1;split at h
    ·rename_i h2;exact absurd h h2
    ·rename_i h2;split at h
     ·rename_i h3;exact absurd h h3
     ·rename_i h3;simp only[Decidable.not_not]at h0 h1 h2 h3;exact⟨h0,by simpa[zx2,zzk]using h1,by simpa[zxB,zzk]using h2,by simpa[zys,zzk]using h3,by simpa[zAI]using h⟩
 ·rintro⟨h0,h1,h2,h3,h4⟩;have g1:zx2 p=0:=by unfold zx2;rw[zzk];simpa using h1
  have g2:zxB p=0:=by unfold zxB;rw[zzk];simpa using h2
  have g3:zys p=0:=by unfold zys;rw[zzk];simpa using h3
  rw[if_neg (by simpa using h0),if_neg (by simpa using g1),if_neg (by simpa using g2),if_neg (by simpa using g3),zAI];simpa using h4
theorem zAk {p:Prog} {i:Nat} {c:Cell}:zx3 p i c=0<->za6 p c=false/\(p.cells.take i).any (fun d=>d.name.toList==c.name.toList)=false:=by
 unfold zx3;cases za6 p c<;>cases(p.cells.take i).any (fun d=>d.name.toList==c.name.toList)<;>simp
theorem zeY {p:Prog} {t n:Int} {l:Loop}:zaF p t n l=0<->(inR l.head n=true/\zyv l.body=true/\l.body.all (fun k=>inR k n&&decide (k≠l.head))=true)/\l.variant.valid p.cells false=true/\zxI p l.variant true t=true:=by
 unfold zaF;cases inR l.head n<;>cases zyv l.body<;>cases l.body.all (fun k=>inR k n&&decide (k≠l.head))<;>cases l.variant.valid p.cells false<;>cases zxI p l.variant true t<;>simp
theorem zdA {p:Prog} {i:Nat} {x:Thread}:(zxa p i x).1=0<->zxG x.name=true/\(p.threads.take i).any (fun d=>d.name.toList==x.name.toList)=false/\(1<=x.points/\(x.asserts.length:Int)=x.points/\(x.modules.length:Int)=x.points)/\
 x.modules.all (fun m=>inR m p.modules.length)=true/\x.asserts.all (fun e=>zxl p e false i)=true/\(∀(j:Nat) (s:Step),x.steps[j]? =some s->zxm p i x.points s=0)/\(∀(j:Nat) (l:Loop),x.loops[j]? =some l->zaF p i x.points l=0):=by
 unfold zxa;have hs:(zx7 (fun _ s=>zxm p i x.points s) 0 x.steps).1=0<-> ∀(j:Nat) (s:Step),x.steps[j]? =some s->zxm p i x.points s=0:=by rw[zzk]
 have hl:(zx7 (fun _ l=>zaF p i x.points l) 0 x.loops).1=0<-> ∀(j:Nat) (l:Loop),x.loops[j]? =some l->zaF p i x.points l=0:=by rw[zzk]
 rw[<- hs,<- hl];cases zxG x.name
 ·simp
 ·cases(p.threads.take i).any (fun d=>d.name.toList==x.name.toList)
  ·by_cases h1:x.points<1\/ ¬(x.asserts.length:Int)=x.points\/ ¬(x.modules.length:Int)=x.points
   ·simp only[Bool.not_true,zG,if_false,if_pos h1];constructor
    ·intro h;cases h
    ·rintro⟨_,_,h,_⟩;omega
   ·have Ii:1<=x.points/\(x.asserts.length:Int)=x.points/\(x.modules.length:Int)=x.points:=by omega
    simp only[Bool.not_true,zG,if_false,if_neg h1];cases x.modules.all (fun m=>inR m p.modules.length)
    ·simp
    ·cases x.asserts.all (fun e=>zxl p e false i)
     ·simp
     ·by_cases h0:(zx7 (fun _ s=>zxm p i x.points s) 0 x.steps).1=0
      ·simp[h0,Ii]
      ·simp[h0,Ii]
  ·simp
theorem zAB {p:Prog}:(zxn p).1=0<->(p.cells.length<=32/\p.modules.length<=6/\p.locks.length<=4/\p.threads.length<=4)/\ ∀x∈p.threads,x.points<=48/\x.steps.length<=64/\x.loops.length<=8:=by
 unfold zxn;split
 ·rename_i h;constructor
  ·intro h;cases h
  ·rintro⟨h',_⟩;omega
 ·rename_i h;rw[zzk];constructor
  ·intro h2;refine⟨by omega,fun x hx=> ?_⟩;obtain⟨j,hj,rfl⟩:=List.mem_iff_getElem.1 hx;have:=h2 j _ (zI hj);cases hb:zao p.threads[j]
   ·simp only[zao,Bool.or_eq_false_iff,decide_eq_false_iff_not]at hb;omega
   ·simp[hb]at this
  ·rintro⟨_,h2⟩ j x hx;have:=h2 x (zL hx)
   have hb:zao x=false:=by
    simp only[zao,Bool.or_eq_false_iff,decide_eq_false_iff_not];omega
   simp[hb]
end Rg
end
section
set_option maxRecDepth 100000
namespace Rg
open Go
def Expr.text (e:Expr):List UInt8:=if e.formed then e.txt else []
end Rg
end
section
set_option maxRecDepth 100000
namespace Rg
open Go
end Rg
end
section
set_option maxRecDepth 100000
namespace Rg
open Go
def zrT (ws:List (List UInt8)):List UInt8:=Go.Lib.join ws [32]++[10]
end Rg
end
section
set_option maxRecDepth 100000
namespace Rg
open Go
def zDF (l:Loop):List (List UInt8):=[[108,111,111,112],num l.head,l.variant.text]
def loopX (l:Loop):List UInt8:=zrT (zDF l++l.body.map num)
end Rg
end
section
set_option maxRecDepth 100000
namespace Rg
open Go
end Rg
end
section
set_option maxRecDepth 100000
namespace Rg
open Go
end Rg
end
section
namespace Rg
open Go
end Rg
end
section
set_option maxRecDepth 100000
namespace Rg
open Go
end Rg
end
section
namespace Rg
open Go
theorem zew (zs:List Int) (hs:zs.Pairwise (· <= ·)) (m:Nat) (hm:m<=zs.length):(Go.Lib.compactUpTo zs.toArray m).Pairwise (· < ·):=by
 have Ae: ∀i j:Nat,i<=j->j<zs.length->zs.toArray[i]! <=zs.toArray[j]! :=by
  intro i j At hj;rw[getElem!_pos zs.toArray i (by simp;omega),getElem!_pos zs.toArray j (by simp;omega)];simp only[List.getElem_toArray];rcases Nat.lt_or_eq_of_le At with h | h
  ·exact List.pairwise_iff_getElem.1 hs i j (by omega) hj h
  ·subst h;exact Int.le_refl _
 unfold Go.Lib.compactUpTo;rw[List.pairwise_map];have h0:=(List.pairwise_lt_range (n:=m)).filter (Go.Lib.keeps zs.toArray);refine h0.imp_of_mem ?_;intro a b ha hb Ei;have Cl:=List.mem_range.1 (List.mem_filter.1 hb).1;have hk:=(List.mem_filter.1 hb).2;have h1:=Ae a (b-1) (by omega) (by omega);have h2:=Ae (b-1) b (by omega) (by omega);simp only[Go.Lib.keeps,Bool.or_eq_true,decide_eq_true_eq,bne_iff_ne,ne_eq]at hk;rcases hk with hk | hk
 ·omega
 ·omega
theorem zyD (l:List Int):(zzs l).Pairwise (· < ·):=by
 unfold zzs Go.Lib.compact;refine zew _ ?_ _ (Nat.le_refl _);have:=List.pairwise_mergeSort (le:=fun x y:Int=>decide (x<=y)) (by intro a b c h1 h2;simp at *;omega) (by intro a b;simp;omega) l;exact this.imp (by intro a b h;simpa using h)
structure LoopF (p:Prog) (x:Thread) (l:Loop) (A:Expr):Prop where
 h0:0<=l.head
 hA:x.asserts[l.head.toNat]? =some A
 vA:A.valid p.cells false=true
 wA:A.w=1
 vV:l.variant.valid p.cells false=true
 nb:zxj l (-1)=false
theorem zi6 {p:Prog} (hf:zw6 p=true) {t j:Nat} {x:Thread} {l:Loop} (hx:p.threads[t]? =some x) (hl:x.loops[j]? =some l): ∃A,LoopF p x l A:=by
 have hr:=zi5.1 (show p.ok by simpa[zw6]using hf);obtain⟨_,_,⟨h1,h2,_⟩,_,h3,_,h4⟩:=zdA.1 (hr.threads t x hx);obtain⟨⟨g1,g2,g3⟩,g4,_⟩:=zeY.1 (h4 j l hl);have hb:=(zAB.1 hr.lim).2 x (zL hx);simp only[inR,decide_eq_true_eq]at g1;have Af:l.head.toNat<x.asserts.length:=by omega
 have hA:=zI Af;have ht:=zN.1 h3 _ (zL hA);simp only[zxl,zF,decide_eq_true_eq]at ht
 have G5: ∀k∈l.body,0<=k/\k<x.points:=fun k hk=>by
  have:=zN.1 g3 k hk;simp only[inR,zF,decide_eq_true_eq]at this;exact this.1
 refine⟨_,g1.1,hA,ht.1.1,ht.1.2,g4,?_⟩
 ·simp only[zxj,Bool.or_eq_false_iff,decide_eq_false_iff_not];refine⟨by omega,?_⟩;cases hc:l.body.contains (-1)
  ·rfl
  ·have:=G5 (-1) (by simpa using hc);omega
theorem zop {w:Int} (h:1<=w/\w<=12):IntKind.i64.wrap (1*2^min w.toNat IntKind.i64.bits)=2^w.toNat:=by
 have:(2:Int)^w.toNat<=2^12:=zcn (i:=w.toNat) (k:=12) (by omega);have:=zxD w.toNat;rw[show min w.toNat IntKind.i64.bits=w.toNat from Nat.min_eq_left (by show w.toNat<=64;omega),Int.one_mul];exact zaj (by omega)
theorem zoo {w:Int} (h:1<=w/\w<=12):IntKind.i64.wrap (2^w.toNat-1)=2^w.toNat-1:=by
 have:(2:Int)^w.toNat<=2^12:=zcn (i:=w.toNat) (k:=12) (by omega);have:=zxD w.toNat;exact zaj (by omega)
theorem zn4 {a:Int} {w:Int} (h:1<=w/\w<=12):a.fdiv (2^min w.toNat IntKind.i64.bits)=a/ 2^w.toNat:=by
 have:=zxD w.toNat;rw[show min w.toNat IntKind.i64.bits=w.toNat from Nat.min_eq_left (by show w.toNat<=64;omega),Int.fdiv_eq_ediv_of_nonneg _ (by omega)]
theorem zd6 (p:Prog) (l:List Int) (c:Int):zxf p (l++[c])=zxf p l+wOf p c:=by simp[zxf]
theorem ziN (p:Prog) (c:Int): ∀(l:List Int) (n:Int) (s:List Int),stM p (l++[c]) n s=(stM p l n s).set c.toNat (n/ 2^zxf p l % 2^wOf p c)
 | [],n,s=>by simp[stM,zxf]
 | x::l,n,s=>by
   rw[List.cons_append,stM,ziN p c l,stM];have:zxf p (x::l)=wOf p x+zxf p l:=by simp[zxf]
   rw[this,Int.pow_add,<- Int.ediv_ediv_of_nonneg (Int.le_of_lt (zxD _))]
end Rg
end
section
namespace Rg
open Go
structure Vis where
 c:Config
 fr:Int
 x:Choice
 deriving Inhabited
def v0 (p:Prog):Vis:=⟨zxz p,-1,⟨0,0,0⟩⟩
theorem zxV {p:Prog} (hf:zw6 p=true):p.cells.length<=32/\(∀y∈p.cells,y.w<=8)/\(∀x∈p.threads,x.points<=48):=by
 have hr:=zi5.1 (show p.ok by simpa[zw6]using hf);obtain⟨⟨b1,_⟩,b5⟩:=zAB.1 hr.lim;refine⟨b1,fun y hy=> ?_,fun x hx=>(b5 x hx).1⟩;obtain⟨i,hi⟩:=List.getElem?_of_mem hy;have:=(zAk.1 (hr.cells i y hi)).1;simp only[za6,Bool.or_eq_false_iff,decide_eq_false_iff_not]at this;omega
def zxE (A V:Expr):List Int:=zzs (A.sup 2++V.sup 2)
theorem zy5 {p:Prog} (hf:zw6 p=true) {y:Cell} (hy:y∈p.cells):1<=y.w/\y.w<=8:=by
 have hr:=zi5.1 (show p.ok by simpa[zw6]using hf);obtain⟨i,hi⟩:=List.getElem?_of_mem hy;have:=(zAk.1 (hr.cells i y hi)).1;simp only[za6,Bool.or_eq_false_iff,decide_eq_false_iff_not]at this;omega
theorem zlU {p:Prog} {A V:Expr} (hA:A.valid p.cells false=true) (hV:V.valid p.cells false=true): ∀c∈zxE A V,0<=c/\c<p.cells.length:=by
 intro c hc;rw[zxE,zeH,List.mem_append]at hc;rcases hc with hc | hc
 ·exact zzm hA 2 (.inl rfl) c hc
 ·exact zzm hV 2 (.inl rfl) c hc
theorem zj9 (A V:Expr):(zxE A V).length<=64:=by
 have h1:=zh1 (A.sup 2++V.sup 2);have h2:=zcD 2 A;have h3:=zcD 2 V;rw[zM]at h1;rw[zxE];omega
def zBJ (l:List Int):List Int:=l.mergeSort fun x y=>decide (x<=y)
theorem zB6 (H:Nat->Option O) (x n:Nat) (v:V) (l:List Int) (ho:za0 H x v 1 (zw5 l)) (hl:l.length<2^40):
 ∃r h' n',DenR Γ G 74 [v] H n=some (r,h',n')/\r= .tup []/\za0 h' x v 1 (zw5 (zBJ l))/\n'=n:=by
 rcases ho with⟨rfl,hr⟩ | ⟨k,rfl,hk,hh⟩
 ·have DW:l=[]:=by
   have:=congrArg List.length hr;rw[zw2]at this;exact List.eq_nil_of_length_eq_zero this
  subst DW;exact⟨_,_,_,zc7 Γ74 rfl rfl rfl,rfl,.inl ⟨rfl,by rw[zBJ,List.mergeSort_nil];rfl⟩,rfl⟩
 ·rw[zw2]
  refine⟨_,upd H k (some (.rows 1 (zw5 (zBJ l)) false)),n,zc7 Γ74 rfl rfl (by
   simp only[zyL,hh,zcK,zD,zee]
   rw[if_pos (by exact⟨trivial,by omega⟩)];rfl),rfl,.inr ⟨k,by rw[zw2,zBJ,List.length_mergeSort],hk,by rw[zxg]⟩,rfl⟩
theorem zBg (H:Nat->Option O) (x n:Nat) (v:V) (l:List Int) (ho:za0 H x v 1 (zw5 l)) (hl:l.length<2^40):
 ∃r h' n',DenR Γ G 75 [v] H n=some (r,h',n')/\r= .t (ints (Go.Lib.compact l))/\n'=n:=by
 rcases ho with⟨rfl,hr⟩ | ⟨k,rfl,hk,hh⟩
 ·have DW:l=[]:=by
   have:=congrArg List.length hr;rw[zw2]at this;exact List.eq_nil_of_length_eq_zero this
  subst DW;exact⟨_,_,_,zc7 Γ75 rfl rfl rfl,rfl,rfl⟩
 ·rw[zw2]
  exact⟨_,_,_,zc7 Γ75 rfl rfl (by
   simp only[zyL,hh,zcK,zD,zee]
   rw[if_pos ⟨trivial,by omega⟩]),rfl,rfl⟩
theorem za0.cellsV {h:Nat->Option O} {x:Nat} {v:V} {sz:Nat} {rows:List (List V)} (o:za0 h x v sz rows):V.cells v=some [v]:=by
 rcases o with⟨rfl,_⟩ | ⟨k,rfl,_,_⟩<;>rfl
theorem za0.upd' {h:Nat->Option O} {x k:Nat} {v:V} {sz:Nat} {rows:List (List V)} {o':Option O} (o:za0 h x v sz rows) (hk:x<=k):za0 (updC h k o') (k+3) v sz rows:=by
 rcases o with o | ⟨q,h1,h2,h3⟩
 ·exact .inl o
 ·exact .inr ⟨q,h1,by omega,by rw[zae,if_neg (by omega)];exact h3⟩
theorem zmB {s:List Int} {c:Nat} (h:c<s.length):(zw5 s)[c]? =some [vi s[c]]:=by simp[zw5,h]
theorem zmA (s:List Int) (c:Nat) (v:Int):(zw5 s).set c [.t (.int .i64 v)]=zw5 (s.set c v):=by simp[zw5,List.map_set]
theorem zjy {h:Nat->Option O} {k len:Nat} {s:List Int} {fz:Bool} (hk:h k=some (.rows 1 (zw5 s) fz)) (hl:len=s.length):toT1 h (.ms k 0 len)=some (.t (ints s)):=by
 have h1:=zdD h 999 (s.map fun n=>[ti n]) (zxU _)
 have h2:toT h 1000 (.ms k 0 len)=some (ints s):=by
  rw[toT,hk];simp only[rd,Nat.zero_add,List.drop_zero];rw[if_pos (by rw[zw2];omega),List.take_of_length_le (by rw[zw2];omega)];simp only[zC,zD];rw[show zw5 s=(s.map fun n=>[ti n]).map (·.map V.t)from rfl,h1];rfl
 simp only[toT1,h2,Option.map_some]
theorem zlW (p:Prog) (hs:p.sane) (hf:zw6 p=true) {t j:Nat} {x:Thread} {l:Loop} {A:Expr} (hx:p.threads[t]? =some x) (hl:x.loops[j]? =some l) (hL:LoopF p x l A):
 Den Γ G 336 [(zP p),vi t,vi j]=some (.tup [vi (if zxf p (zxE A l.variant)>12 then 0 else zoN p (zxE A l.variant) A l.variant),vi (if zxf p (zxE A l.variant)>12 then 2 else 0)]):=by
 have hv:=zeE p hs hf hx hl;obtain⟨hd,FC⟩: ∃n:Nat,l.head=n:=⟨l.head.toNat,by have:=hL.h0;omega⟩
 have hA:=hL.hA;rw[FC,Int.toNat_natCast]at hA
 (refine zw3 Γ336 rfl ?_;dsimp only[zqZ])
 simp -dsimp only[go_sem,seval,hv,hx,hl,FC,hA];refine zas (zzf A _ _) ?_;rintro r1 h1 n1 ⟨a3,a2,rfl,oa3,oa2,Fm,Be⟩;have q1:=oa3.valOf;have q2:=oa2.valOf;simp -dsimp only[go_sem,seval,q1,q2];refine zas (zzf l.variant _ _) ?_;rintro r2 h2 n2 ⟨b3,b2,rfl,ob3,ob2,IG,Ba⟩;have q3:=ob3.valOf;have q4:=ob2.valOf;have oa2':za0 h2 n2 a2 1 (zw5 (A.sup 2)):=oa2.keep (by omega) fun k hk _=>(Ba k (by omega)).1
 have c2:=oa2.cellsV;have c4:=ob2.cellsV;unfold V.cells at c2 c4;simp -dsimp only[go_sem,seval,q2,q3,q4,c2,c4];have Oh:=zcD 2 A;have Og:=zcD 2 l.variant;refine zas (zBW (A.sup 2) (l.variant.sup 2) (by omega) (by omega) _ _ (n2+2) a2 b2 (by rw[zae,if_pos rfl]) (by omega) (oa2'.upd' (by omega)) (ob2.upd' (by omega))) ?_;clear oa2 oa3 ob2 ob3 oa2' Be Ba q1 q2 q3 q4 c2 c4;rintro r h3 n3 ho;have q1:=ho.valOf;simp -dsimp only[go_sem,seval,q1];refine zas (zB6 _ _ _ _ _ ho (by simp;omega)) ?_;rintro r4 h4 n4 ⟨rfl,Pj,Qj⟩;simp -dsimp only[go_sem,seval,q1];refine zas (zBg _ _ _ _ _ Pj (by rw[zBJ,List.length_mergeSort];simp;omega)) ?_;rintro r5 h5 n5 ⟨rfl,Qi⟩;rw[show Go.Lib.compact (zBJ (A.sup 2++l.variant.sup 2))=zxE A l.variant from rfl]
 generalize hC:zxE A l.variant=L
 have JT:=zlU hL.vA hL.vV;have PO:=zj9 A l.variant;rw[hC]at JT PO;have EM: ∀(c:Int) (y:Cell),p.cells[c.toNat]? =some y->1<=y.w/\y.w<=8/\wOf p c=y.w.toNat:=fun c y hy=>⟨(zy5 hf (zL hy)).1,(zy5 hf (zL hy)).2,by rw[wOf,hy]⟩
 have Ln: ∀i,zxf p (L.take i)<=8*i:=by
  intro i
  induction i with
  | zero=>simp[zxf]
  | succ i ih=>
    by_cases hi:i<L.length
    ·obtain⟨c,hc,Bh⟩:=zad hi;obtain⟨c0,c1⟩:=JT c Bh;obtain⟨y,hy,_⟩:=zad (show c.toNat<p.cells.length by omega);obtain⟨_,w2,w3⟩:=EM c y hy;rw[zac hc,zd6,w3];omega
    ·rw[List.take_of_length_le (by omega)]at ih⊢;omega
 simp -dsimp only[go_sem,seval];refine zap 151097280707754937450496 L.length (fun i f h z=>(f 64).v=vi i/\(f 15).v=vi (zxf p (L.take i))) rfl ⟨by simp -dsimp only[go_sem,seval],by simp -dsimp only[go_sem,seval];rfl⟩ ?_;rintro i f u H q bs hi ⟨Lx,Cp⟩;have hw:=zag i (by omega);simp -dsimp only[go_sem,seval,Lx];refine zw1 (fun h=> ?_) (fun h=> ?_)<;>(try rw[h])<;>(try simp only[zab]at h)<;>(try simp -dsimp only[go_sem,seval,Lx])
 ·obtain⟨c,hc,Bh⟩:=zad ‹i<L.length›;obtain⟨c0,c1⟩:=JT c Bh;obtain⟨y,hy,_⟩:=zad (show c.toNat<p.cells.length by omega);obtain⟨w1,w2,w3⟩:=EM c y hy;have hb:=Ln i
  have M0:IntKind.i64.wrap ((zxf p (L.take i):Int)+y.w)=zxf p (L.take (i+1)):=by
   rw[zac hc,zd6,w3,Int.natCast_add,show((y.w.toNat:Nat):Int)=y.w by omega];exact zaj (by omega)
  simp -dsimp only[go_sem,seval,Lx,Cp,hc,c0,hy];exact⟨by omega,by simp -dsimp only[go_sem,seval,hw],by simp -dsimp only[go_sem,seval,M0]⟩
 ·have:i=L.length:=by omega
  subst this;rw[List.take_length]at Cp;simp -dsimp only[go_sem,seval,Cp]
  by_cases hb:zxf p L>12
  ·have AY:(zxf p L:Int)>12:=by omega
   rw[if_pos hb,if_pos hb];simp -dsimp only[go_sem,seval,AY]
  ·have AY: ¬(zxf p L:Int)>12:=by omega
   rw[if_neg hb,if_neg hb];have Ci:=(zxV hf).1;have e1:(p.cells.length:Int)<=4294967296:=by omega
   have Bo:IntKind.i64.wrap (1*2^min (zxf p L) 64)=((2^zxf p L:Nat):Int):=by
    have:(2:Nat)^zxf p L<=4096:=Nat.pow_le_pow_right (n:=2) (j:=12) (by omega) (by omega);rw[show min (zxf p L) 64=zxf p L from Nat.min_eq_left (by omega),Int.one_mul,show(2:Int)^zxf p L=((2^zxf p L:Nat):Int)by simp]
    generalize(2:Nat)^zxf p L=z at *
    exact zaj (by omega)
   have Cm: ¬(zxf p L:Int)<0:=by omega
   simp -dsimp only[go_sem,seval,AY,e1,Int.le_refl,Cp,Bo,Cm];clear Bo;have JX:(2:Nat)^zxf p L<=4096:=Nat.pow_le_pow_right (n:=2) (j:=12) (by omega) (by omega);unfold zoN
   generalize hZ:(2:Nat)^zxf p L=Z at *
   refine zap 21778071482940022976029747207499580440576 Z (fun n f h z=>(f 85).v=vi n/\(f 18).v=vi (zxN p L A l.variant n).2/\h (q+1+2+1+3)=some (.rows 1 (zw5 (zxN p L A l.variant n).1) false)/\q+1+2+1+3<z) rfl ⟨by simp -dsimp only[go_sem,seval],by simp -dsimp only[go_sem,seval];rfl,by simp -dsimp only[go_sem,seval];simp[zxN,zw5],by simp -dsimp only[go_sem,seval];omega⟩ ?_;rintro n f2 u2 H2 z2 bs2 hn ⟨Mg,CO,Ca,Qm⟩;have C6:=zag n (by omega);simp -dsimp only[go_sem,seval,Mg];refine zw1 (fun h=> ?_) (fun h=> ?_)<;>(try rw[h])<;>(try simp only[zab]at h)<;>(try simp -dsimp only[go_sem,seval,Mg])
   ·refine zap 83076748498617202771107666373640192 L.length (fun i f h z=>(f 90).v=vi i/\(f 20).v=vi ((n:Int)/ 2^zxf p (L.take i))/\h (q+1+2+1+3)=some (.rows 1 (zw5 (stM p (L.take i) n (zxN p L A l.variant n).1)) false)/\q+1+2+1+3<z) rfl ⟨by simp -dsimp only[go_sem,seval],by simp -dsimp only[go_sem,seval];simp[zxf],by simp -dsimp only[go_sem,seval];exact Ca,by simp -dsimp only[go_sem,seval];omega⟩ ?_;rintro i f3 u3 H3 z3 bs3 DC ⟨NP,H6,DY,Pt⟩;have GG:=zag i (by omega);simp -dsimp only[go_sem,seval,NP];refine zw1 (fun h=> ?_) (fun h=> ?_)<;>(try rw[h])<;>(try simp only[zab]at h)<;>(try simp -dsimp only[go_sem,seval,NP])
    ·obtain⟨c,hc,Bh⟩:=zad ‹i<L.length›;obtain⟨c0,c1⟩:=JT c Bh;obtain⟨y,hy,_⟩:=zad (show c.toNat<p.cells.length by omega);obtain⟨w1,w2,w3⟩:=EM c y hy;have k1: ¬y.w<0:=by omega
     have k2:IntKind.i64.wrap (1*2^min y.w.toNat 64)=2^y.w.toNat:=zop (by omega);have k3:IntKind.i64.wrap (2^y.w.toNat-1)=2^y.w.toNat-1:=zoo (by omega);have k4: ∀a:Int,IntKind.i64.wrap ((BitVec.ofInt IntKind.i64.bits a&&& BitVec.ofInt IntKind.i64.bits (2^y.w.toNat-1)).toNat)=a % 2^y.w.toNat:=fun a=>zgI a y.w (by omega)
     have k5: ∀a:Int,a.fdiv (2^min y.w.toNat 64)=a/ 2^y.w.toNat:=fun a=>zn4 (by omega)
     have BR:c.toNat<(stM p (L.take i) n (zxN p L A l.variant n).1).length:=by rw[zgc,ze5];omega
     have Bn:=zmB BR;simp -dsimp only[go_sem,seval,NP,H6,hc,c0,c1,hy,DY,k1,k2,k3,k4,k5,Bn,zmA];refine⟨by omega,by simp -dsimp only[go_sem,seval,GG],?_,?_,by simp -dsimp only[go_sem,seval];omega⟩
     ·simp -dsimp only[go_sem,seval,zac hc,zd6,w3,Int.pow_add];rw[Int.ediv_ediv_of_nonneg (Int.le_of_lt (zxD _))]
     ·simp -dsimp only[go_sem,seval,zac hc,ziN,w3]
    ·have:i=L.length:=by omega
     subst this;rw[List.take_length]at DY;have Ac:=ze5 p L A l.variant n;have BR:(stM p L n (zxN p L A l.variant n).1).length=p.cells.length:=by rw[zgc,Ac]
     have hT:=zjy (h:=H3) (len:=p.cells.length) DY BR.symm;have Mc:=zbT A (stM p L n (zxN p L A l.variant n).1) (stM p L n (zxN p L A l.variant n).1);have Hz:=zbT l.variant (stM p L n (zxN p L A l.variant n).1) (stM p L n (zxN p L A l.variant n).1);simp -dsimp only[go_sem,seval,hA,↓hT,Mc];have Fg:(zxN p L A l.variant (n+1)).1=stM p L n (zxN p L A l.variant n).1:=by rw[zc6];rfl
     by_cases EJ:A.eval (stM p L n (zxN p L A l.variant n).1) (stM p L n (zxN p L A l.variant n).1)=1
     ·have Km:(zxN p L A l.variant (n+1)).2=if l.variant.eval (stM p L n (zxN p L A l.variant n).1) (stM p L n (zxN p L A l.variant n).1)>(zxN p L A l.variant n).2 then l.variant.eval (stM p L n (zxN p L A l.variant n).1) (stM p L n (zxN p L A l.variant n).1)else(zxN p L A l.variant n).2:=by
       rw[zc6,zA2];simp only[if_pos EJ]
      simp -dsimp only[go_sem,seval,EJ,CO,↓hT,Hz,Mg];refine⟨by omega,by simp -dsimp only[go_sem,seval,C6],?_,by simp -dsimp only[go_sem,seval,Fg];exact DY,by simp -dsimp only[go_sem,seval];omega⟩;simp -dsimp only[go_sem,seval,Km]
     ·have Km:(zxN p L A l.variant (n+1)).2=(zxN p L A l.variant n).2:=by
       rw[zc6,zA2];simp only[if_neg EJ]
      simp -dsimp only[go_sem,seval,EJ,Mg];refine⟨by omega,by simp -dsimp only[go_sem,seval,C6],by simp -dsimp only[go_sem,seval,Km,CO],by simp -dsimp only[go_sem,seval,Fg];exact DY,by simp -dsimp only[go_sem,seval];omega⟩
   ·have:n=Z:=by omega
    subst this;simp -dsimp only[go_sem,seval,CO]
def zBi (l:List Int):Int:=l.foldl (· + ·) 0
theorem zv5 (l:List Int) (x:Int):zBi (l++[x])=zBi l+x:=by simp[zBi]
def wsM (p:Prog) (l:List Int):List Int:=l.map fun c=>(wOf p c:Int)
theorem zv6: ∀(l:List Int) (a:Int),l.foldl (· + ·) a=a+l.foldl (· + ·) 0
 | [],a=>by simp
 | x::l,a=>by
   rw[List.foldl_cons,List.foldl_cons,zv6 l (a+x),zv6 l (0+x)];omega
theorem zws (p:Prog): ∀l:List Int,zBi (wsM p l)=zxf p l
 | []=>by simp[wsM,zBi,zxf]
 | c::l=>by
   have ih:=zws p l
   have e:zBi (wsM p (c::l))=wOf p c+zBi (wsM p l):=by
    rw[wsM,List.map_cons,zBi,List.foldl_cons,zv6];rw[zBi,wsM];omega
   rw[e,ih];simp[zxf]
theorem zwt (l:List Int) (h: ∀n∈l,0<=n/\n<=8) (hl:l.length<=2^20):Den Γ G 352 [.t (ints l)]=some (vi (zBi l)):=by
 have hb: ∀i,0<=zBi (l.take i)/\zBi (l.take i)<=8*i:=by
  intro i
  induction i with
  | zero=>simp[zBi]
  | succ i ih=>
    by_cases hi:i<l.length
    ·obtain⟨n,hn,hm⟩:=zad hi;have:=h n hm;rw[zac hn,zv5];omega
    ·rw[List.take_of_length_le (by omega)]at ih⊢;omega
 (refine zw3 Γ352 rfl ?_;dsimp only[zwM])
 simp -dsimp only[go_sem,seval];refine zaq 131064 l.length (fun i f=>(f 4).v=vi i/\(f 3).v=vi (zBi (l.take i))) rfl rfl ⟨by simp -dsimp only[go_sem,seval],by simp -dsimp only[go_sem,seval];rfl⟩ ?_;rintro i f u x bs hi ⟨h4,h3⟩;have hw:=zag i (by omega);simp -dsimp only[go_sem,seval,h4];refine zw1 (fun h=> ?_) (fun h=> ?_)<;>(try rw[h])<;>(try simp only[zab]at h)<;>(try simp -dsimp only[go_sem,seval,h4])
 ·obtain⟨n,hn,hm⟩:=zad ‹i<l.length›;have h1:=hb i;have h2:=hb (i+1);rw[zac hn,zv5]at h2;have HD:IntKind.i64.wrap (zBi (l.take i)+n)=zBi (l.take i)+n:=zaj (by omega);simp -dsimp only[go_sem,seval,h4,h3,hn,HD];refine⟨by omega,by simp -dsimp only[go_sem,seval,hw],by simp -dsimp only[go_sem,seval,zac hn,zv5]⟩
 ·have:i=l.length:=by omega
  subst this;rw[List.take_length]at h3;simp -dsimp only[go_sem,seval,h3]
def zwi (l:List Int) (b:Int):Prop:=l.Pairwise (· < ·)/\ ∀n∈l,0<=n/\n<b
theorem zwi.at {l:List Int} {b:Int} (h:zwi l b) {i:Nat} {n:Int} (hn:l[i]? =some n):0<=n/\n<b/\(0<i-> ∃m,l[i-1]? =some m/\m<n):=by
 have h1:=h.2 n (zL hn);refine⟨h1.1,h1.2,fun hi=> ?_⟩;have Af:=(zH.1 hn).1;have hm:=zI (show i-1<l.length by omega);refine⟨_,hm,?_⟩;have:=List.pairwise_iff_getElem.1 h.1 (i-1) i (by omega) Af (by omega);rw[(zH.1 hn).2]at this;exact this
theorem zwe (l:List Int) (b:Int) (hR:zwi l b) (hl:l.length<2^20):Den Γ G 369 [.t (ints l),vi b]=some (vb true):=by
 (refine zw3 Γ369 rfl ?_;dsimp only[zwK])
 simp -dsimp only[go_sem,seval];refine zaq 2199023255536 l.length (fun i f=>(f 5).v=vi i) rfl rfl (by simp -dsimp only[go_sem,seval]) ?_;rintro i f u x bs hi h5;have hw:=zag i (by omega);simp -dsimp only[go_sem,seval,h5];refine zw1 (fun h=> ?_) (fun h=> ?_)<;>(try rw[h])<;>(try simp only[zab]at h)<;>(try simp -dsimp only[go_sem,seval,h5])
 ·obtain⟨n,hn,hm⟩:=zad ‹i<l.length›;obtain⟨h1,h2,h3⟩:=hR.at hn;have e1: ¬n<0:=by omega
  have e2: ¬n>=b:=by omega
  by_cases Db:i=0
  ·subst Db;simp -dsimp only[go_sem,seval,h5,hn,e1,e2];exact⟨by omega,by simp -dsimp only[go_sem,seval,hw]⟩
  ·obtain⟨m,Fp,IL⟩:=h3 (by omega);have e3:(i:Int)>0:=by omega
   have e4: ¬n<=m:=by omega
   have e5:IntKind.i64.wrap ((i:Int)-1)=((i-1:Nat):Int):=by rw[show((i:Int)-1)=((i-1:Nat):Int)by omega];exact zaj (by omega)
   simp -dsimp only[go_sem,seval,h5,hn,e1,e2,e3,e4,e5,Fp];exact⟨by omega,by simp -dsimp only[go_sem,seval,hw]⟩
theorem zwa (p:Prog) (l:List Int) (most:Int) (hR:zwi l 32) (EM: ∀c∈l,1<=wOf p c/\wOf p c<=8) (hl:l.length<=32) (hm:(zxf p l:Int)<=most):
 Den Γ G 370 [.t (ints l),.t (ints (wsM p l)),vi most]=some (vi (zxf p l)):=by
 have Pq:(wsM p l).length=l.length:=by simp[wsM]
 have e0: ¬(l.length:Int)>32:=by omega
 have hb: ∀i,zxf p (l.take i)<=8*i:=by
  intro i
  induction i with
  | zero=>simp[zxf]
  | succ i ih=>
    by_cases hi:i<l.length
    ·obtain⟨c,hc,Bh⟩:=zad hi;have:=EM c Bh;rw[zac hc,zd6];omega
    ·rw[List.take_of_length_le (by omega)]at ih⊢;omega
 (refine zw3 Γ370 rfl ?_;dsimp only[zwJ])
 simp -dsimp only[go_sem,seval,Pq,e0];refine zaq 9444732965739289903552 l.length (fun i f=>(f 8).v=vi i/\(f 7).v=vi (zxf p (l.take i))) rfl rfl ⟨by simp -dsimp only[go_sem,seval],by simp -dsimp only[go_sem,seval];rfl⟩ ?_;rintro i f u x bs hi ⟨h8,h7⟩;have hw:=zag i (by omega);simp -dsimp only[go_sem,seval,h8];refine zw1 (fun h=> ?_) (fun h=> ?_)<;>(try rw[h])<;>(try simp only[zab]at h)<;>(try simp -dsimp only[go_sem,seval,h8])
 ·obtain⟨n,hn,HL⟩:=zad ‹i<l.length›;obtain⟨h1,h2,h3⟩:=hR.at hn;obtain⟨w1,w2⟩:=EM n HL;have HD:(wsM p l)[i]? =some (wOf p n:Int):=by simp[wsM,hn]
  have GQ:=hb i
  have hs:IntKind.i64.wrap ((zxf p (l.take i):Int)+wOf p n)=zxf p (l.take (i+1)):=by
   rw[zac hn,zd6,Int.natCast_add];exact zaj (by omega)
  have e1: ¬n<0:=by omega
  have e2: ¬n>=32:=by omega
  have e6: ¬((wOf p n:Int)<1):=by omega
  have e7: ¬((wOf p n:Int)>8):=by omega
  by_cases Db:i=0
  ·subst Db;simp -dsimp only[go_sem,seval,h8,h7,hn,e1,e2,e6,e7,HD,hs];exact⟨by omega,by simp -dsimp only[go_sem,seval,hw],by simp -dsimp only[go_sem,seval];exact hs⟩
  ·obtain⟨m,Fp,IL⟩:=h3 (by omega);have e3:(i:Int)>0:=by omega
   have e4: ¬n<=m:=by omega
   have e5:IntKind.i64.wrap ((i:Int)-1)=((i-1:Nat):Int):=by rw[show((i:Int)-1)=((i-1:Nat):Int)by omega];exact zaj (by omega)
   simp -dsimp only[go_sem,seval,h8,h7,hn,e1,e2,e3,e4,e5,e6,e7,Fp,HD,hs];exact⟨by omega,by simp -dsimp only[go_sem,seval,hw],by simp -dsimp only[go_sem,seval]⟩
 ·have:i=l.length:=by omega
  subst this;rw[List.take_length]at h7;have e8: ¬((zxf p l:Int)>most):=by omega
  simp -dsimp only[go_sem,seval,h7,e8]
theorem zwo {p:Prog} (hf:zw6 p=true): ∀l:List Int,zxf p l<=8*l.length
 | []=>by simp[zxf]
 | c::l=>by
   have ih:=zwo hf l
   have hw:wOf p c<=8:=by
    unfold wOf;split
    ·rename_i y hy;have:=zy5 hf (zL hy);omega
    ·omega
   have e:zxf p (c::l)=wOf p c+zxf p l:=by simp[zxf]
   rw[e,List.length_cons];omega
theorem zmJ {h:Nat->Option O} {x:Nat} {v:V} {l:List Int} (o:za0 h x v 1 (zw5 l)):toT1 h v=some (.t (ints l)):=by
 have:=zbS (es:=l.map fun n=>[ti n]) o (zxU _);rcases o with⟨rfl,he⟩ | ⟨k,rfl,_,_⟩
 ·have:l=[]:=by simpa[zw5]using he
  subst this;rfl
 ·simp only[toT1,this,Option.map_some]
theorem zwc (p:Prog) (hf:zw6 p=true) (l:List Int) (hR:zwi l p.cells.length):Den Γ G 351 [.t (.sl (p.cells.map Cell.enc)),.t (ints l)]=some (.tup [.t (ints (wsM p l)),vb true]):=by
 obtain⟨s1,s2,_⟩:=zxV hf
 have IO:l.length<=32:=by
  have:=zdI 32 l (hR.1.imp fun h=>by omega) fun k hk=>by have:=hR.2 k hk;omega
  omega
 have EM: ∀c∈l,1<=wOf p c/\wOf p c<=8:=fun c hc=>by
  have:=hR.2 c hc;obtain⟨y,hy,DE⟩:=zad (show c.toNat<p.cells.length by omega);have:=zy5 hf DE;rw[wOf,hy];simp only;omega
 have hm: ¬(32<(p.cells.length:Int)):=by omega
 have By:=zwe l p.cells.length hR (by omega);have LZ:=zwo hf l;have BI:=zwa p l 256 ⟨hR.1,fun n hn=>by have:=hR.2 n hn;omega⟩ EM IO (by omega)
 (refine zw3 Γ351 rfl ?_;dsimp only[zwN])
 simp -dsimp only[go_sem,seval,hm,By];refine zap 4294934720 l.length (fun i f h x=>(f 7).v=vi i/\za0 h x (f 6).v 1 (zw5 ((wsM p l).take i))) rfl ⟨by simp -dsimp only[go_sem,seval],.inr ⟨_,by simp -dsimp only[go_sem,seval];rfl,by simp -dsimp only[go_sem,seval],by simp -dsimp only[go_sem,seval];rfl⟩⟩ ?_;rintro i f u H x bs hi ⟨h7,Ab⟩;have hw:=zag i (by omega);simp -dsimp only[go_sem,seval,h7];refine zw1 (fun h=> ?_) (fun h=> ?_)<;>(try rw[h])<;>(try simp only[zab]at h)<;>(try simp -dsimp only[go_sem,seval,h7])
 ·obtain⟨c,hc,Bh⟩:=zad ‹i<l.length›;have C9:=hR.2 c Bh;obtain⟨y,hy,DE⟩:=zad (show c.toNat<p.cells.length by omega);have PZ:=zy5 hf DE
  have Ke:(wsM p l)[i]? =some y.w:=by
   simp only[wsM,zJ,hc,Option.map_some,wOf,hy];rw[show((y.w.toNat:Nat):Int)=y.w by omega]
  have v1:=Ab.valOf;have v2:=Ab.r2;have v3:=Ab.r3;simp -dsimp only[go_sem,seval,h7,hc,C9.1,hy,v1,v2,v3];refine zaM (Ab.upd (by omega) _) (by omega) (by rw[zw2];simp;omega) (by decide) rfl (zxw _) ?_;intro v hp hO Bc As;have w1:=hO.valOf;rw[show zw5 ((wsM p l).take i)++[[V.t (ti y.w)]]=zw5 ((wsM p l).take (i+1))from by rw[zac Ke,zaV]]at hO;simp -dsimp only[go_sem,seval,w1,h7];exact⟨by omega,by simp -dsimp only[go_sem,seval,hw],by simp -dsimp only[go_sem,seval];exact hO.le (by omega)⟩
 ·have:i=l.length:=by omega
  subst this;rw[show(wsM p l).take l.length=wsM p l from List.take_of_length_le (by simp[wsM])]at Ab;have v1:=Ab.valOf;have hT:=zmJ Ab;have v5:=Ab.resVal;simp only[Rg.resVal]at v5;have BV:(zxf p l:Int)>=0:=by omega
  simp -dsimp only[go_sem,seval,v1,↓hT,BI,BV,v5]
theorem zBm (p:Prog) (hf:zw6 p=true) (l:List Int) (hR:zwi l p.cells.length) (Ej:zxf p l<=12) (n:Nat) (hn:n<2^zxf p l) (base:List Int) (hb:base.length=32) (z:V)
 (H:Nat->Option O) (nx:Nat) (vb:V) (CC:valOf vb=some vb) (Du: ∀j,nx<=j-> ∀o,rowsS (updC H j o) vb=some (zw5 base)):
 ∃r h' n',DenR Γ G 353 [.agg [.t (ints l),.t (ints (wsM p l)),z],vi n,vb] H nx=some (r,h',n')/\za0 h' n' r 1 (zw5 (stM p l n base)):=by
 obtain⟨s1,s2,_⟩:=zxV hf
 have IO:l.length<=32:=by
  have:=zdI 32 l (hR.1.imp fun h=>by omega) fun k hk=>by have:=hR.2 k hk;omega
  omega
 have EM: ∀c∈l,1<=wOf p c/\wOf p c<=8:=fun c hc=>by
  have:=hR.2 c hc;obtain⟨y,hy,DE⟩:=zad (show c.toNat<p.cells.length by omega);have:=zy5 hf DE;rw[wOf,hy];simp only;omega
 have BI:=zwa p l 12 ⟨hR.1,fun n hn=>by have:=hR.2 n hn;omega⟩ EM IO (by omega)
 have Ks:=zwt (wsM p l) (fun n hn=>by
  obtain⟨c,hc,rfl⟩:=List.mem_map.1 hn
  have:=EM c hc;omega) (by simp[wsM];omega)
 rw[zws]at Ks;have Ol:=zbR (zxf p l) (by omega);rw[Int.toNat_natCast]at Ol;have e1: ¬((zxf p l:Int)<0):=by omega
 have JX:(2:Nat)^zxf p l<=4096:=Nat.pow_le_pow_right (n:=2) (j:=12) (by omega) (by omega);have Gy:(2:Int)^zxf p l=((2^zxf p l:Nat):Int):=by simp
 have e2:IntKind.i64.wrap ((2:Int)^zxf p l-1)=2^zxf p l-1:=by
  rw[Gy];have:0<(2:Nat)^zxf p l:=Nat.pow_pos (by omega)
  generalize(2:Nat)^zxf p l=q at *
  exact zaj (by omega)
 have e3:IntKind.i64.wrap ((BitVec.ofInt IntKind.i64.bits n&&& BitVec.ofInt IntKind.i64.bits (2^zxf p l-1)).toNat)=(n:Int):=by
  have:=zgI n (zxf p l) (by omega);rw[Int.toNat_natCast]at this;rw[this,Int.emod_eq_of_lt (by omega) (by rw[Gy];omega)]
 have MG:=Du (nx+2+0) (by omega) (some (.rows 1 [] false))
 (refine zxC Γ353 rfl ?_;dsimp only[zwL])
 simp -dsimp only[go_sem,seval,CC,MG];refine zwB (a:=[]) (x:=nx+3) (.inr ⟨nx+2+0,rfl,by omega,by simp[zav,zar,zae]⟩) (by omega) (by rw[zw2,hb];decide) (by decide) (zxw _) rfl ?_;rw[show([]:List (List V))++zw5 base=zw5 base from rfl];intro v hp hO _ _;rcases hO with⟨_,he⟩ | ⟨k,rfl,hk,hh⟩
 ·have:=congrArg List.length he;rw[zw2,hb]at this;cases this
 rw[zw2,hb];simp -dsimp only[go_sem,seval,BI,e1,Ks,Ol,e2,e3];refine zap 2305843009079476994 l.length (fun i f h x=>(f 8).v=vi i/\(f 1).v=vi ((n:Int)/ 2^zxf p (l.take i))/\h k=some (.rows 1 (zw5 (stM p (l.take i) n base)) false)/\k<x) rfl ⟨by simp -dsimp only[go_sem,seval],by simp -dsimp only[go_sem,seval];simp[zxf],by simp -dsimp only[go_sem,seval];exact hh,by simp -dsimp only[go_sem,seval];omega⟩ ?_;rintro i f u H x bs hi ⟨h8,h1,Ca,LJ⟩;have hw:=zag i (by omega);simp -dsimp only[go_sem,seval,h8];refine zw1 (fun h=> ?_) (fun h=> ?_)<;>(try rw[h])<;>(try simp only[zab]at h)<;>(try simp -dsimp only[go_sem,seval,h8])
 ·obtain⟨c,hc,Bh⟩:=zad ‹i<l.length›;obtain⟨c0,c1⟩:=hR.2 c Bh;obtain⟨w1,w2⟩:=EM c Bh;have Ke:(wsM p l)[i]? =some (wOf p c:Int):=by simp[wsM,hc]
  have HJ:=zbR (wOf p c) (by omega);rw[Int.toNat_natCast]at HJ;have N5:c<32:=by omega
  have LG:=zxD (wOf p c);have GJ:0<=(n:Int)/ 2^zxf p (l.take i):=Int.ediv_nonneg (by omega) (Int.le_of_lt (zxD _));have Qf:(n:Int)/ 2^zxf p (l.take i)<=n:=Int.ediv_le_self _ (by omega);have e4:((2:Int)^wOf p c=0)=False:=eq_false (by omega);have e5:((n:Int)/ 2^zxf p (l.take i)).tmod (2^wOf p c)=(n:Int)/ 2^zxf p (l.take i) % 2^wOf p c:=Int.tmod_eq_emod_of_nonneg GJ
  have e6:IntKind.i64.wrap (((n:Int)/ 2^zxf p (l.take i)).tdiv (2^wOf p c))=(n:Int)/ 2^zxf p (l.take i)/ 2^wOf p c:=by
   rw[Int.tdiv_eq_ediv_of_nonneg GJ];have h1:0<=(n:Int)/ 2^zxf p (l.take i)/ 2^wOf p c:=Int.ediv_nonneg GJ (by omega);have h2:(n:Int)/ 2^zxf p (l.take i)/ 2^wOf p c<=(n:Int)/ 2^zxf p (l.take i):=Int.ediv_le_self _ GJ;exact zaj (by omega)
  have BR:c.toNat<(stM p (l.take i) n base).length:=by rw[zgc];omega
  have Bn:=zmB BR;simp -dsimp only[go_sem,seval,h8,h1,hc,Ke,HJ,c0,N5,Ca,e4,e5,e6,Bn,zmA];refine⟨by omega,by simp -dsimp only[go_sem,seval,hw],?_,?_,by simp -dsimp only[go_sem,seval];omega⟩
  ·simp -dsimp only[go_sem,seval,zac hc,zd6,Int.pow_add];rw[Int.ediv_ediv_of_nonneg (Int.le_of_lt (zxD _))]
  ·simp -dsimp only[go_sem,seval,zac hc,ziN]
 ·have:i=l.length:=by omega
  subst this;rw[List.take_length]at Ca;exact .inr ⟨k,by rw[zw2,zgc,hb];rfl,by simp -dsimp only[go_sem];omega,Ca⟩
end Rg
end
