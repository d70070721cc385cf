/- Part of the proof of laws of relyguardlaw36. No condition. -/
import Derived.Test.YtaiokglcgiemnaaGreatDoorGartAK
import Derived.Test.YtaiokglcgiemnaaGreatDoorGartAJ
set_option linter.unusedSimpArgs false
set_option linter.unusedVariables false
set_option linter.defProp false
section
namespace Rg
open Go
theorem Kh (l:List Int) (n:Int) (d:0<=n):Den Γ G 72 [.t (ints l),vi n]=some (vi (atI l n)):=by
 refine aD (q:=?_)
 rcases a:l[n.toNat]? with _ | c
 ·have b: ¬n<(l.length:Int):=by rw[oJ]at a;omega
  refine aw b ?_;simp[atI,List.getD,a]
 ·have b:n<(l.length:Int):=by have:=(zH.1 a).1;omega
  refine a7 b d a ?_;simp[atI,List.getD,a]
theorem OS (b:Bool):Den Γ G 92 [vb b]=some (vi (if b then 1 else 0)):=by
 refine aD (q:=?_)
 cases b
 ·exact am
 ·exact am
theorem Zb {a:Int} (c:0<=a/\a<2^62):IntKind.i64.wrap ((BitVec.ofInt IntKind.i64.bits (-1)^^^ BitVec.ofInt IntKind.i64.bits a).toNat)= -1-a:=by
 show IntKind.i64.wrap ((BitVec.ofInt 64 (-1)^^^ BitVec.ofInt 64 a).toNat)=_;have b:BitVec.ofInt 64 (-1)=BitVec.allOnes 64:=aG
 rw[b,BitVec.allOnes_xor,BitVec.toNat_not,n_ c,IntKind.wrap_i64];omega
def m8 (op a b c:Int):Int:=
 if op=4 then -1-a
 else if op=5 then((a.toNat&&& b.toNat:Nat):Int)
 else if op=6 then((a.toNat ||| b.toNat:Nat):Int)
 else if op=7 then((a.toNat^^^ b.toNat:Nat):Int)
 else if op=8 then a+b
 else if op=9 then a-b
 else if op=10 then a*b
 else if op=11 then(if a=b then 1 else 0)
 else if op=12 then(if a<b then 1 else 0)
 else if op=13 then(if a<=b then 1 else 0)
 else if op=14 then(if a=1 then b else c)
 else 0
set_option maxHeartbeats 2000000 in
theorem wF (op a b c:Int) (g:4<=op/\op<=14) (t:0<=a/\a<256) (e:0<=b/\b<256) (v:0<=c/\c<256):Den Γ G 73 [vi op,.agg [vi a,vi b,vi c]]=some (vi (m8 op a b c)):=by
 refine aD (q:=?_)
 have q:=PO (a:=a) (b:=b) aa aa;have k:=R6 (a:=a) (b:=b) aa aa;have o:=NV (a:=a) (b:=b) aa aa;have l:=Zb (a:=a) aa
 have r:0<=a*b/\a*b<=65536:=⟨Int.mul_nonneg t.1 e.1,by
  have u:a*b<=256*b:=G' aa e.1
  omega⟩
 have j:IntKind.i64.wrap (a+b)=a+b:=bu aa;have i:IntKind.i64.wrap (a+ -b)=a-b:=by rw[bu aa];omega
 have m:IntKind.i64.wrap (0-b)= -b:=by rw[bu aa];omega
 have p:IntKind.i64.wrap (a*b)=a*b:=bu aa;have n:=OS (decide (a=b));have d:=OS (decide (a<b));have s:IntKind.i64.signed=true:=rfl;have f:op=4\/op=5\/op=6\/op=7\/op=8\/op=9\/op=10\/op=11\/op=12\/op=13\/op=14:=aa
 clear r g;rcases f with rfl | rfl | rfl | rfl | rfl | rfl | rfl | rfl | rfl | rfl | rfl
 ·refine aJ l s ?_;rfl
 ·refine aw q ?_;rfl
 ·refine aw k ?_;rfl
 ·refine aw o ?_;rfl
 ·refine aw j ?_;rfl
 ·refine aJ i m ?_;rfl
 ·refine aw p ?_;rfl
 ·refine aw n ?_;simp[m8]
 ·refine aw d ?_;simp[m8]
 ·refine aw d ?_;refine bv ?_ ?_<;>intro h
  ·simp[m8,h]
  ·have:a<=b<->a<b:=aa
   simp[m8,this]
 ·refine aA ?_;refine bv ?_ ?_<;>intro h
  ·simp[m8]
  ·simp[m8,h]
theorem ZE (x m w:Int) (b:0<=w/\w<=62) (a:m=2^w.toNat-1):IntKind.i64.wrap ((BitVec.ofInt IntKind.i64.bits x&&& BitVec.ofInt IntKind.i64.bits m).toNat)=x % 2^w.toNat:=by
 subst a;exact uw x w b
theorem kaC {op w a b c:Int} (g:4<=op/\op<=14) (j:1<=w) (d:0<=opv op w a b c/\opv op w a b c<2^w.toNat) (i:0<=a):m8 op a b c % 2^w.toNat=opv op w a b c:=by
 have h:=iL w.toNat;have e:op=4\/op=5\/op=6\/op=7\/op=8\/op=9\/op=10\/op=11\/op=12\/op=13\/op=14:=aa
 rcases e with rfl | rfl | rfl | rfl | rfl | rfl | rfl | rfl | rfl | rfl | rfl
 ·have f:(-1-a) % 2^w.toNat=(2^w.toNat-1-a) % 2^w.toNat:=by
   rw[show 2^w.toNat-1-a=(-1-a)+2^w.toNat from aa,Int.add_emod_right]
  show(-1-a) % 2^w.toNat=2^w.toNat-1-a;rw[f];exact mi d.1 d.2
 ·exact mi d.1 d.2
 ·exact mi d.1 d.2
 ·exact mi d.1 d.2
 ·rfl
 ·rfl
 ·rfl
 ·exact mi d.1 d.2
 ·exact mi d.1 d.2
 ·exact mi d.1 d.2
 ·exact mi d.1 d.2
theorem ZX {e:Expr} (h:cC e=true) (c: ¬e.op=1) (d: ¬e.op=2) (f: ¬e.op=3):4<=e.op/\e.op<=14:=by
 have:=mz h;rcases nz e.op with a | a | a | a | a | a | a | a | a | a | a | a | a | a | b
 all_goals(try omega)
 rw[pg b]at this;omega
set_option maxHeartbeats 4000000 in
theorem Yf (j i:List Int) (d:Nat): ∀e:Expr,e.deep d=true->Den Γ G 56 [.t (.ip [ti e.op,ti e.w,ti e.n,.sl (e.kids.map Expr.enc)]),.t (ints j),.t (ints i)]=some (vi (e.ev j i)):=by
 induction d with
 | zero=>intro e h;simp[Expr.deep]at h
 | succ d J=>
   intro e h;have C:=kK h;have z:=sB C;have F:=pR C;have K:=nW C
   refine aD (q:=?_)
   by_cases v:e.op=1
   ·refine aw v ?_;rw[Expr.ev_eq,ah v]
   ·have f: ∀m:Int,m=2^e.w.toNat-1->(∀x:Int,IntKind.i64.wrap ((BitVec.ofInt IntKind.i64.bits x&&& BitVec.ofInt IntKind.i64.bits m).toNat)=x % 2^e.w.toNat):=fun m N x=>ZE x m e.w aa N
    by_cases p:e.op=2
    ·have o:=Kh i e.n F;have u:e.ev j i=atI i e.n % 2^e.w.toNat:=by rw[Expr.ev_eq,ac v,ah p]
     rw[u]
     generalize e.w=w at *
     rcases qh z with rfl | rfl | rfl | rfl | rfl | rfl | rfl | rfl
     ·have g:=f 1 rfl;exact ds p o g
     ·have g:=f 3 rfl;exact ds p o g
     ·have g:=f 7 rfl;exact ds p o g
     ·have g:=f 15 rfl;exact ds p o g
     ·have g:=f 31 rfl;exact ds p o g
     ·have g:=f 63 rfl;exact ds p o g
     ·have g:=f 127 rfl;exact ds p o g
     ·have g:=f 255 rfl;exact ds p o g
    ·by_cases o:e.op=3
     ·have s:=Kh j e.n F;have u:e.ev j i=atI j e.n % 2^e.w.toNat:=by rw[Expr.ev_eq,ac v,ac p,ah o]
      rw[u]
      generalize e.w=w at *
      rcases qh z with rfl | rfl | rfl | rfl | rfl | rfl | rfl | rfl
      ·have g:=f 1 rfl;exact ds o s g
      ·have g:=f 3 rfl;exact ds o s g
      ·have g:=f 7 rfl;exact ds o s g
      ·have g:=f 15 rfl;exact ds o s g
      ·have g:=f 31 rfl;exact ds o s g
      ·have g:=f 63 rfl;exact ds o s g
      ·have g:=f 127 rfl;exact ds o s g
      ·have g:=f 255 rfl;exact ds o s g
     ·have A:=ZX C v p o;have E:=tV j i _ e h
      have u:e.ev j i=opv e.op e.w ((e.kids.map (Expr.ev j i)).getD 0 0) ((e.kids.map (Expr.ev j i)).getD 1 0) ((e.kids.map (Expr.ev j i)).getD 2 0):=by
       rw[Expr.ev_eq,ac v,ac p,ac o]
      have t: ∀k∈e.kids,Den Γ G 56 [.t (.ip [ti k.op,ti k.w,ti k.n,.sl (k.kids.map Expr.enc)]),.t (ints j),.t (ints i)]=some (vi (k.ev j i)):=fun k t=>J k (kJ h t)
      have y:=(R8 j i h).2.2.1;rw[u]at E;have q:=kaC (a:=((e.kids.map (Expr.ev j i)).getD 0 0)) (b:=((e.kids.map (Expr.ev j i)).getD 1 0)) (c:=((e.kids.map (Expr.ev j i)).getD 2 0)) A z.1 E;rw[u];clear u E J;refine a7 v p o ?_
      generalize l:e.kids=O at *
      rcases O with _ | ⟨a,_ | ⟨b,_ | ⟨c,_ | ⟨x,r⟩⟩⟩⟩
      ·exfalso;have I:=mz C;rw[l]at I;rcases A with⟨Q,R⟩
       have:1<=cW e.op:=by unfold cW;grind
       simp at I;omega
      ·have B:=t a af;have H:=y (a.ev j i) af;have n:=wF e.op (a.ev j i) 0 0 A aa aa aa;have q:=q (by simp only[aT,dh];omega);rw[<- q];clear q;refine bK ?_;refine aJ l B ?_;refine bK ?_
       generalize e.w=w at *
       rcases qh z with rfl | rfl | rfl | rfl | rfl | rfl | rfl | rfl
       ·have g:=f 1 rfl;simp -dsimp only[go_sem,seval,l,n,g,aT,bc,dh,dR,d9]
       ·have g:=f 3 rfl;simp -dsimp only[go_sem,seval,l,n,g,aT,bc,dh,dR,d9]
       ·have g:=f 7 rfl;simp -dsimp only[go_sem,seval,l,n,g,aT,bc,dh,dR,d9]
       ·have g:=f 15 rfl;simp -dsimp only[go_sem,seval,l,n,g,aT,bc,dh,dR,d9]
       ·have g:=f 31 rfl;simp -dsimp only[go_sem,seval,l,n,g,aT,bc,dh,dR,d9]
       ·have g:=f 63 rfl;simp -dsimp only[go_sem,seval,l,n,g,aT,bc,dh,dR,d9]
       ·have g:=f 127 rfl;simp -dsimp only[go_sem,seval,l,n,g,aT,bc,dh,dR,d9]
       ·have g:=f 255 rfl;simp -dsimp only[go_sem,seval,l,n,g,aT,bc,dh,dR,d9]
      ·have B:=t a af;have H:=y (a.ev j i) af;have D:=t b af;have M:=y (b.ev j i) af;have n:=wF e.op (a.ev j i) (b.ev j i) 0 A aa aa aa;have q:=q (by simp only[aT,dh];omega);rw[<- q];clear q;refine bK ?_;refine aJ l B ?_;refine bK ?_;refine aJ l D ?_;refine bK ?_
       generalize e.w=w at *
       rcases qh z with rfl | rfl | rfl | rfl | rfl | rfl | rfl | rfl
       ·have g:=f 1 rfl;simp -dsimp only[go_sem,seval,l,n,g,aT,bc,dh,dR,d9]
       ·have g:=f 3 rfl;simp -dsimp only[go_sem,seval,l,n,g,aT,bc,dh,dR,d9]
       ·have g:=f 7 rfl;simp -dsimp only[go_sem,seval,l,n,g,aT,bc,dh,dR,d9]
       ·have g:=f 15 rfl;simp -dsimp only[go_sem,seval,l,n,g,aT,bc,dh,dR,d9]
       ·have g:=f 31 rfl;simp -dsimp only[go_sem,seval,l,n,g,aT,bc,dh,dR,d9]
       ·have g:=f 63 rfl;simp -dsimp only[go_sem,seval,l,n,g,aT,bc,dh,dR,d9]
       ·have g:=f 127 rfl;simp -dsimp only[go_sem,seval,l,n,g,aT,bc,dh,dR,d9]
       ·have g:=f 255 rfl;simp -dsimp only[go_sem,seval,l,n,g,aT,bc,dh,dR,d9]
      ·have B:=t a af;have H:=y (a.ev j i) af;have D:=t b af;have M:=y (b.ev j i) af;have L:=t c af;have P:=y (c.ev j i) af;have n:=wF e.op (a.ev j i) (b.ev j i) (c.ev j i) A aa aa aa;have q:=q (by simp only[aT,dh];omega);rw[<- q];clear q;refine bK ?_;refine aJ l B ?_;refine bK ?_;refine aJ l D ?_;refine bK ?_;refine aJ l L ?_;refine bK ?_
       generalize e.w=w at *
       rcases qh z with rfl | rfl | rfl | rfl | rfl | rfl | rfl | rfl
       ·have g:=f 1 rfl;simp -dsimp only[go_sem,seval,l,n,g,aT,bc,dh,dR,d9]
       ·have g:=f 3 rfl;simp -dsimp only[go_sem,seval,l,n,g,aT,bc,dh,dR,d9]
       ·have g:=f 7 rfl;simp -dsimp only[go_sem,seval,l,n,g,aT,bc,dh,dR,d9]
       ·have g:=f 15 rfl;simp -dsimp only[go_sem,seval,l,n,g,aT,bc,dh,dR,d9]
       ·have g:=f 31 rfl;simp -dsimp only[go_sem,seval,l,n,g,aT,bc,dh,dR,d9]
       ·have g:=f 63 rfl;simp -dsimp only[go_sem,seval,l,n,g,aT,bc,dh,dR,d9]
       ·have g:=f 127 rfl;simp -dsimp only[go_sem,seval,l,n,g,aT,bc,dh,dR,d9]
       ·have g:=f 255 rfl;simp -dsimp only[go_sem,seval,l,n,g,aT,bc,dh,dR,d9]
      ·exfalso;simp at K
theorem pf (e:Expr) (c b:List Int):Den Γ G 27 [(.agg [.t (ti (e).op),.t (ti (e).w),.t (ti (e).n),.t (.sl ((e).kids.map (Expr.enc)))]),.t (ints c),.t (ints b)]=some (vi (e.eval c b)):=by
 refine aD (q:=?_)
 have d:=wY e
 by_cases a:e.formed=true
 ·have f:=Yf c b 40 e (lY a);refine a7 d f a ?_;simp[Expr.eval,a]
 ·have a:e.formed=false:=al a
  refine aJ d a ?_;simp[Expr.eval,a]
def inR (i n:Int):Bool:=decide (0<=i/\i<n)
theorem iH (i n:Int):Den Γ G 96 [vi i,vi n]=some (vb (inR i n)):=by
 refine aD (q:=aA ?_);refine bv ?_ ?_<;>intro h
 ·simp[inR];omega
 ·simp[inR];omega
theorem iP (i n:Int):Den Γ G 110 [vi i,vi n]=some (vb (inR i n)):=by
 refine aD (q:=aA ?_);refine bv ?_ ?_<;>intro h
 ·simp[inR];omega
 ·simp[inR];omega
def Expr.absent (e:Expr):Bool:=decide (e.op=0/\e.w=0/\e.n=0/\e.kids=[])
theorem Xa (e:Expr):Den Γ G 98 [(.agg [.t (ti (e).op),.t (ti (e).w),.t (ti (e).n),.t (.sl ((e).kids.map (Expr.enc)))])]=some (vb e.absent):=by
 refine aD (q:=aA ?_)
 repeat'(refine bv ?_ ?_<;>intro h)
 all_goals(simp[Expr.absent, *])
theorem W' (e:Expr):Den Γ G 111 [(.agg [.t (ti (e).op),.t (ti (e).w),.t (ti (e).n),.t (.sl ((e).kids.map (Expr.enc)))])]=some (vb e.absent):=by
 refine aD (q:=aA ?_)
 repeat'(refine bv ?_ ?_<;>intro h)
 all_goals(simp[Expr.absent, *])
def Expr.one (e:Expr):Bool:=decide (e.op=1/\e.w=1/\e.n=1/\e.kids=[])
theorem kcp (e:Expr):Den Γ G 166 [(.agg [.t (ti (e).op),.t (ti (e).w),.t (ti (e).n),.t (.sl ((e).kids.map (Expr.enc)))])]=some (vb e.one):=by
 refine aD (q:=aA ?_)
 repeat'(refine bv ?_ ?_<;>intro h)
 all_goals(simp[Expr.one, *])
def fW (l:List Int):Bool:=(List.range (l.length-1)).all fun i=>decide (l.getD i 0<l.getD (i+1) 0)
theorem OK {l:List Int} {i:Nat} (h:i+1<l.length) (a: ¬l.getD i 0<l.getD (i+1) 0):fW l=false:=
 pc (dS.2 aa) (ep a)
theorem LO {l:List Int} (h: ∀j,j+1<l.length->l.getD j 0<l.getD (j+1) 0):fW l=true:=by
 simp only[fW,zN,dS,aQ];exact fun j a=>h j aa
theorem LU (l:List Int) (q:l.length<2^50):Den Γ G 113 [.t (ints l)]=some (vb (fW l)):=by
 refine aD (q:=aA ?_);refine a8 1048572 (l.length-1) (fun i f=>(f 3).v=vi ((i+1:Nat):Int)/\ ∀j<i,l.getD j 0<l.getD (j+1) 0) rfl rfl ⟨am,af⟩ ?_;rintro i f u r bb hi ⟨e,a⟩;have p:=aB (i+1) aa;have m:IntKind.i64.wrap (((i+1:Nat):Int)-1)=(i:Int):=by rw[bu aa];omega
 refine aw e ?_;refine bv ?_ ?_<;>intro h
 ·have b:i+1<l.length:=aa
  have g:l[i+1]? =some l[i+1]:=zI b;have k:l[i]? =some l[i]:=zI aa;have c:l.getD (i+1) 0=l[i+1]:=by simp[List.getD,g]
  have d:l.getD i 0=l[i]:=by simp[List.getD,k]
  refine bN e g k m ?_;refine bv ?_ ?_<;>intro h
  ·have:fW l=false:=OK b (by rw[c,d];omega);rw[this]
  ·refine⟨aa,ak p,fun j o=> ?_⟩
   by_cases n:j=i
   ·subst n;rw[c,d];omega
   ·exact a j aa
 ·have:fW l=true:=LO fun j o=>a j aa
  rw[this]
theorem I2 (l:List Int) (q:l.length<2^50):Den Γ G 101 [.t (ints l)]=some (vb (fW l)):=by
 refine aD (q:=aA ?_);refine a8 1048572 (l.length-1) (fun i f=>(f 3).v=vi ((i+1:Nat):Int)/\ ∀j<i,l.getD j 0<l.getD (j+1) 0) rfl rfl ⟨am,af⟩ ?_;rintro i f u r bb hi ⟨e,a⟩;have p:=aB (i+1) aa;have m:IntKind.i64.wrap (((i+1:Nat):Int)-1)=(i:Int):=by rw[bu aa];omega
 refine aw e ?_;refine bv ?_ ?_<;>intro h
 ·have b:i+1<l.length:=aa
  have g:l[i+1]? =some l[i+1]:=zI b;have k:l[i]? =some l[i]:=zI aa;have c:l.getD (i+1) 0=l[i+1]:=by simp[List.getD,g]
  have d:l.getD i 0=l[i]:=by simp[List.getD,k]
  refine bN e g k m ?_;refine bv ?_ ?_<;>intro h
  ·have:fW l=false:=OK b (by rw[c,d];omega);rw[this]
  ·refine⟨aa,ak p,fun j o=> ?_⟩
   by_cases n:j=i
   ·subst n;rw[c,d];omega
   ·exact a j aa
 ·have:fW l=true:=LO fun j o=>a j aa
  rw[this]
def kR (b:ByteArray) (i:Nat):Bool:=match b[i]? with
 | some c=>decide (33<=c.toNat/\c.toNat<=126)
 | none=>false
def eg (b:ByteArray):Bool:=decide (1<=b.size/\b.size<=64)&&(List.range b.size).all (kR b)
theorem tR {b:ByteArray} {i:Nat} (h:i<b.size) (a:kR b i=false):eg b=false:=by
 rw[eg,pc (dS.2 h) a,rg]
theorem Rw {b:ByteArray} {i:Nat} (h:i<b.size): ∃c,b[i]? =some c:=⟨b[i],by simp[h]⟩
theorem ub (b:ByteArray):Den Γ G 95 [.t (.str b)]=some (vb (eg b)):=by
 refine aD (q:=aA ?_);refine bv ?_ ?_<;>intro h
 ·have : ¬(1<=b.size/\b.size<=64):=aa
  simp[eg,this]
 ·refine bv ?_ ?_<;>intro h
  ·have : ¬(1<=b.size/\b.size<=64):=aa
   simp[eg,this]
  ·have g:1<=b.size/\b.size<=64:=aa
   refine a8 268419084 b.size (fun i f=>(f 14).v=vi i/\ ∀j<i,kR b j=true) rfl rfl ⟨am,af⟩ ?_;rintro i f u n bb hi ⟨e,d⟩;have m:=aB i aa;refine aw e ?_;refine bv ?_ ?_<;>intro h
   ·obtain⟨c,a⟩:=Rw ‹i<b.size›;refine aJ e a ?_
    repeat'(refine bv ?_ ?_<;>intro h)
    ·rw[tR ‹i<b.size› (by simp[kR,a];omega)]
    ·rw[tR ‹i<b.size› (by simp[kR,a];omega)]
    ·refine⟨aa,ak m,fun j l=> ?_⟩
     by_cases k:j=i
     ·subst k;simp[kR,a];omega
     ·exact d j aa
   ·have:eg b=true:=by
     simp only[eg,g,kx,lE,eA,zN,dS];exact fun j l=>d j aa
    rw[this]
theorem uy (b:ByteArray) (m:b.size<2^50):Den Γ G 109 [.t (.str b)]=some (vb (eg b)):=by
 refine aD (q:=aA ?_);refine a8 1048572 b.size (fun i f=>(f 3).v=vi i/\ ∀j<i,kR b j=true) rfl rfl ⟨am,af⟩ ?_;rintro i f u n bb hi ⟨e,d⟩;have l:=aB i aa;refine aw e ?_;refine bv ?_ ?_<;>intro h
 ·obtain⟨c,a⟩:=Rw ‹i<b.size›;refine aJ e a ?_
  repeat'(refine bv ?_ ?_<;>intro h)
  ·rw[tR ‹i<b.size› (by simp[kR,a];omega)]
  ·rw[tR ‹i<b.size› (by simp[kR,a];omega)]
  ·refine⟨aa,ak l,fun j k=> ?_⟩
   by_cases g:j=i
   ·subst g;simp[kR,a];omega
   ·exact d j aa
 ·have:(List.range b.size).all (kR b)=true:=by
   simp only[zN,dS];exact fun j k=>d j aa
  refine bv ?_ ?_<;>intro h
  ·simp only[eg,this,gv];apply sR.2;omega
  ·simp only[eg,this,gv];exact(ep aa).symm
namespace Expr
mutual
def lv:Expr->List Expr
 | .mk o w n []=>[.mk o w n []]
 | .mk o w n (k::ks)=>lv k++lvs ks
def lvs:List Expr->List Expr
 | []=>[]
 | e::r=>lv e++lvs r
end
theorem Te: ∀l:List Expr,lvs l=l.flatMap lv
 | []=>rfl
 | e::r=>by rw[lvs,Te r];rfl
theorem lv_eq (e:Expr):lv e=if e.kids=[]then [e]else e.kids.flatMap lv:=by
 obtain⟨o,w,n,a⟩:=e
 cases a with
 | nil=>simp[lv,Expr.kids]
 | cons k a=>simp[lv,Te,Expr.kids]
end Expr
def Sh (h:ae) (v:V) (e:Expr):Prop:=
 v= .t (.ip [ti e.op,ti e.w,ti e.n,.sl (e.kids.map Expr.enc)])\/
 ∃k a,v= .mp k 0 0/\h k=some (.rows 4 [[.t (ti e.op),.t (ti e.w),.t (ti e.n),.t (.sl (e.kids.map Expr.enc))]] a)
theorem Lp {σ:Type} (g:Nat) (F:List V) (I:σ->ae->Prop) (step:σ->Expr->σ) (Q:Expr->Bool)
 (R: ∀s h n v x,I s h->x.kids=[]->Q x=true->Sh h v x-> ∃r h' d,DenR Γ G g (v::F) h n=some (r,h',d)/\I (step s x) h'):
 ∀(e:Expr) (v:V) (s:σ) (h:ae) (n:Nat),e.allE (fun x=>Q x&&decide (x.kids.length<=3))=true->I s h->(∀s h,I s h->Sh h v e)->
  ∃r h' d,DenR Γ G 76 [v,.fn g [] F] h n=some (r,h',d)/\I (e.lv.foldl step s) h':=by
 intro e
 induction e using Expr.ind with
 | _ e P=>
 intro v s H n z o t;have M:=Expr.allE_self z;simp only[zF,aQ]at M
 refine bO (q:=?_)
 by_cases c:e.kids=[]
 ·have K:=t s H o;have B:e.lv=[e]:=by rw[Expr.lv_eq,ah c]
  rw[B];have J: ∀n,∃r h' d,DenR Γ G g (v::F) H n=some (r,h',d)/\I (step s e) h':=fun n=>R s H n v e o c M.1 K
  rcases K with rfl | ⟨k,S,rfl,w⟩
  ·simp only[c,bc]at J;refine aw c ?_;refine bf (J _) ?_;intro r h' d a;refine aw c ?_;refine bK ?_;refine aA ?_;exact a
  ·refine aJ c w ?_;refine bf (J _) ?_;intro r h' d a;have:=t _ _ a;rcases this with l | ⟨T,b,l,E⟩
   ·cases l
   ·cases l;refine aJ c E ?_;refine bK ?_;refine aA ?_;exact a
 ·have B:e.lv=e.kids.flatMap Expr.lv:=by rw[Expr.lv_eq,ac c]
  have U: ¬e.kids.length=0:=al c
  have N: ¬(e.kids.length:Int)=0:=aa
  rw[B];have L: ∀i,i=e.kids.length->(e.kids.take i).flatMap Expr.lv=e.kids.flatMap Expr.lv:=by rintro i rfl;rw[be]
  rcases t s H o with rfl | ⟨k,S,rfl,w⟩
  ·refine aw N ?_;refine aS 2146959376 e.kids.length (fun i f m x=>(f 19).v=vi i/\I (((e.kids.take i).flatMap Expr.lv).foldl step s) m) rfl ⟨am,al o⟩ ?_;rintro i f u m x bs hi ⟨j,a⟩;have A:=aB i aa;refine aw j ?_;refine bv ?_ ?_<;>intro h
   ·obtain⟨y,q,p⟩:=au ‹i<e.kids.length›;refine aJ j q ?_;refine bf (P y p _ _ _ _ (Expr.allE_kid z p) a (fun _ _ _=> .inl rfl)) ?_;intro r h' d C;refine aw j ?_;refine⟨aa,ak A,?_⟩;rw[a_ q,jc,iD];simpa using C
   ·rw[L i aa]at a;exact a
  ·refine aJ N w ?_;refine aS 2146959376 e.kids.length (fun i f m x=>(f 19).v=vi i/\I (((e.kids.take i).flatMap Expr.lv).foldl step s) m) rfl ⟨am,al o⟩ ?_;rintro i f u m x bs hi ⟨j,a⟩;have A:=aB i aa
   have D: ∃b,m k=some (.rows 4 [[.t (ti e.op),.t (ti e.w),.t (ti e.n),.t (.sl (e.kids.map Expr.enc))]] b):=by
    rcases t _ _ a with l | ⟨T,b,l,E⟩
    ·cases l
    ·cases l;exact⟨b,E⟩
   obtain⟨b,D⟩:=D;refine aw j ?_;refine bv ?_ ?_<;>intro h
   ·obtain⟨y,q,p⟩:=au ‹i<e.kids.length›;refine a7 j q D ?_;refine bf (P y p _ _ _ _ (Expr.allE_kid z p) a (fun _ _ _=> .inl rfl)) ?_;intro r h' d C;refine aw j ?_;refine⟨aa,ak A,?_⟩;rw[a_ q,jc,iD];simpa using C
   ·rw[L i aa]at a;exact a
end Rg
end
section
-- FULL
namespace Rg
open Go
def lcV (x:Expr):Bool:=decide (0<=x.n/\(x.kids=[]->x.op=1\/x.op=2\/x.op=3))
def IV (cells:List Cell) (pair:Bool) (a b c d:Nat) (e:Expr) (s:Bool) (h:ae):Prop:=
 h d=some (.rows 1 [[vb s]] false)/\h b=some (.rows 1 [[.t (.sl (cells.map Cell.enc))]] false)/\h c=some (.rows 1 [[vb pair]] false)/\
 h a=some (.rows 4 [[.t (ti e.op),.t (ti e.w),.t (ti e.n),.t (.sl (e.kids.map Expr.enc))]] false)
theorem Yh (cells:List Cell) (pair:Bool) (q l m b:Nat) (e:Expr) (F:l≠b) (I:m≠b) (E:q≠b) (s:Bool) (H:ae) (n:Nat) (v:V) (x:Expr)
 (J:IV cells pair q l m b e s H) (K:x.kids=[]) (A:lcV x=true) (B:Sh H v x):
 ∃r h' L,DenR Γ G 136 [v,.mp l 0 0,.mp m 0 0,.mp b 0 0] H n=some (r,h',L)/\IV cells pair q l m b e (s&&dJ cells pair x) h':=by
 obtain⟨p,i,j,C⟩:=J;simp only[lcV,aQ]at A;obtain⟨z,g⟩:=A;have g:=g K
 refine bO (q:=?_)
 have d: ∀h',h'=H->dJ cells pair x=true->IV cells pair q l m b e (s&&dJ cells pair x) h':=fun h' w y=>by
  rw[y,gv,w];exact⟨p,i,j,C⟩
 have t: ∀h',h'=updC H b (some (.rows 1 [[vb false]] false))->dJ cells pair x=false->IV cells pair q l m b e (s&&dJ cells pair x) h':=fun h' w y=>by
  rw[y,rg,w];refine⟨by simp[aq],by simp[aq,F,i],by simp[aq,I,j],by simp[aq,E,C]⟩
 rcases f:cells[x.n.toNat]? with _ | c
 ·have o:x.n>=(cells.length:Int):=by rw[oJ]at f;omega
  rcases B with rfl | ⟨k,D,rfl,u⟩
  ·rcases g with a | a | a
   all_goals(
    refine VI p i j a o ?_
    repeat'(refine q9 ?_ ?_<;>intro h<;>try exact⟨⟩<;>try exact h.elim)
    all_goals(first | exact t _ mO (by simp[dJ,a,f]) | exact d _ rfl (by simp[dJ,a,f])))
  ·rcases g with a | a | a
   all_goals(
    refine VH p i j a o u ?_
    repeat'(refine q9 ?_ ?_<;>intro h<;>try exact⟨⟩<;>try exact h.elim)
    all_goals(first | exact t _ mO (by simp[dJ,a,f]) | exact d _ rfl (by simp[dJ,a,f])))
 ·have o: ¬x.n>=(cells.length:Int):=by
   have:=(zH.1 f).1;omega
  rcases B with rfl | ⟨k,D,rfl,u⟩
  ·rcases g with a | a | a
   all_goals(
    simp -dsimp [go_sem,p,i,j,a,o,f,z]
    repeat'(refine q9 ?_ ?_<;>intro h)
    all_goals(first | exact t _ mO (by simp[dJ, *]) | exact d _ rfl (by simp[dJ, *])))
  ·rcases g with a | a | a
   all_goals(
    simp -dsimp [go_sem,p,i,j,a,o,f,z,u]
    repeat'(refine q9 ?_ ?_<;>intro h)
    all_goals(first | exact t _ mO (by simp[dJ, *]) | exact d _ rfl (by simp[dJ, *])))
theorem OP (p:Expr->Bool): ∀(l:List Expr) (s:Bool),l.foldl (fun s x=>s&&p x) s=(s&&l.all p)
 | [],s=>af
 | x::l,s=>by simp only[iy,OP p l,ey,AU]
theorem Tf {p:Expr->Bool} (hp: ∀x:Expr,x.kids≠[]->cC x=true->p x=true) (d:Nat): ∀e:Expr,e.deep d=true->e.allE p=e.lv.all p:=by
 induction d with
 | zero=>intro e h;simp[Expr.deep]at h
 | succ d g=>
   intro e h;rw[Expr.allE_eq,Expr.lv_eq];split
   ·rename_i a;rw[a];simp
   ·rename_i a;rw[hp e a (kK h),eA];have : ∀k∈e.kids,k.allE p=k.lv.all p:=fun k a=>g k (kJ h a)
    generalize e.kids=c at this
    induction c with
    | nil=>rfl
    | cons k c b=>
      simp only[ey,du,nq];rw[this k af,b (fun x f=>this x (by simp[f]))]
theorem kco {x:Expr} (b:x.kids≠[]) (h:cC x=true):4<=x.op:=by
 have a:=mz h;have:0<x.kids.length:=wi.2 b;unfold cW at a;grind
theorem K0 (cells:List Cell) (pair:Bool) {x:Expr} (a:x.kids≠[]) (h:cC x=true):dJ cells pair x=true:=by
 have:=kco a h;unfold dJ;rw[ac aa,ac aa]
theorem kbS (d:Nat): ∀e:Expr,e.deep d=true->e.allE (fun x=>lcV x&&decide (x.kids.length<=3))=true:=by
 induction d with
 | zero=>intro e h;simp[Expr.deep]at h
 | succ d i=>
   intro e h;rw[Expr.allE_eq];have f:=kK h;simp only[zF,zN,aQ,lcV];refine⟨⟨⟨pR f,fun c=> ?_⟩,nW f⟩,fun k c=> ?_⟩
   ·have b:=mz f;rw[c]at b;rcases nz e.op with a | a | a | a | a | a | a | a | a | a | a | a | a | a | g
    ·exact .inl a
    ·exact .inr (.inl a)
    ·exact .inr (.inr a)
    all_goals(try(rw[a]at b;simp[cW]at b;done))
    rw[pg g]at b;simp at b
   ·have:=i k (kJ h c);simpa only[lcV]using this
theorem ud (e:Expr) (cells:List Cell) (pair:Bool):Den Γ G 107 [(.agg [.t (ti (e).op),.t (ti (e).w),.t (ti (e).n),.t (.sl ((e).kids.map (Expr.enc)))]),.t (.sl (cells.map Cell.enc)),vb pair]=some (vb (e.valid cells pair)):=by
 refine aD (q:=?_)
 have b:=wY e
 by_cases a:e.formed=true
 ·refine sJ b a ?_;have c:=lY a;refine bf (Lp 136 _ (IV cells pair 0 1 2 7 e) (fun s x=>s&&dJ cells pair x) lcV (Yh cells pair 0 1 2 7 e aG aG aG) e _ true _ _ (kbS 40 e c) ⟨mO,mO,mO,mO⟩ (fun s h d=> .inr ⟨0,false,rfl,d.2.2.2⟩)) ?_;rintro r h' g ⟨f,_⟩;refine jV f ?_;rw[OP,Expr.valid,a,Tf (fun x=>K0 cells pair) 40 e c]
 ·have a:e.formed=false:=al a
  refine sJ b a ?_;simp[Expr.valid,a]
end Rg
end
section
-- APPS
namespace Rg
open Go
def Own (h:ae) (x:Nat) (v:V) (a:Nat) (rows:List (List V)):Prop:=
 (v= .t .nils/\rows=[])\/ ∃k,v= .ms k 0 rows.length/\k<x/\h k=some (.rows a rows false)
theorem tI {α β:Type} (f:α->Option β): ∀(l:List α) (r:List β),(∀i:Nat,∀a,l[i]? =some a-> ∃b,r[i]? =some b/\f a=some b)->l.length=r.length->l.mapM f=some r
 | [],[],_,_=>rfl
 | [],_::_,_,h=>by simp at h
 | _::_,[],_,h=>by simp at h
 | a::l,b::r,h,hl=>by
   rw[cQ];obtain⟨b',c,g⟩:=h 0 a rfl;simp at c;subst c;rw[g,tI f l r (fun i d e=>by simpa using h (i+1) d (al e)) (al hl)];rfl
theorem mA (h:ae) (d:Nat) (es:List (List T)) (l: ∀e∈es,∀t∈e,T.norm t=t):
 (es.map (·.map V.t)).mapM (fun row=>row.mapM (toT h d))=some es:=by
 refine tI _ _ _ (fun i a c=> ?_) af;rw[zJ]at c
 cases g:es[i]? with
 | none=>rw[g]at c;simp at c
 | some e=>
   rw[g]at c;simp only[cZ,zA]at c;subst c;refine⟨e,rfl,?_⟩;refine tI _ _ _ (fun j b f=> ?_) af;rw[zJ]at f
   cases k:e[j]? with
   | none=>rw[k]at f;simp at f
   | some t=>
     rw[k]at f;simp only[cZ,zA]at f;subst f;have:=l e (zL g) t (zL k);refine⟨t,rfl,?_⟩;cases d<;>simp[toT,this]
theorem jD {h:ae} {x:Nat} {v:V} {f:Nat} {es:List (List T)} (d:Own h x v f (es.map (·.map V.t))) (c: ∀e∈es,∀t∈e,T.norm t=t):
 toT h 1000 v=some (.sl es):=by
 rcases d with⟨rfl,a⟩ | ⟨k,rfl,g,b⟩
 ·have:es=[]:=al a
  subst this;rfl
 ·rw[toT,b];simp only[rd,gy,ay,aU,ij,be,zC,zD];rw[mA h 999 es c];rfl
theorem iG (l:List Int): ∀e∈(l.map fun n=>[ti n]),∀t∈e,T.norm t=t:=by
 intro e b t a;obtain⟨n,_,rfl⟩:=cy.1 b;simp at a;subst a;rfl
def di (l:List Bool) (i:Nat):List Int:=((List.range i).filter fun j=>l.getD j false).map fun j:Nat=>(j:Int)
theorem tw (l:List Bool) (i:Nat):di l (i+1)=di l i++if l.getD i false then [(i:Int)]else []:=by
 unfold di;rw[sW,iC,d6];cases h:l.getD i false<;>simp only[o_,rA,h,aU,aX,zG,bc,aT]
def ai (l:List Int):List (List V):=(l.map fun n=>[ti n]).map (·.map V.t)
theorem aC (l:List Int):(ai l).length=l.length:=by simp[ai]
theorem fB (l:List Int) (n:Int):ai (l++[n])=ai l++[[vi n]]:=by simp[ai]
theorem eC (l:List Int):((ai l).all fun r=>decide (r.length=1))=true:=by simp[ai]
theorem yz {k x:Nat} (h:k<x) (j:Nat): ¬k=x+j:=aa
theorem yQ {k x:Nat} (h:k<x) (j a:Nat): ¬k=x+j+a:=aa
theorem SA {k x:Nat} (h:k<x) (j b a:Nat): ¬k=x+j+b+a:=aa
theorem Lh (l:List Bool) (B:l.length<2^20):Den Γ G 159 [.t (.sl (l.map fun b=>[tb b]))]=some (.t (ints (di l l.length))):=by
 refine aD (q:=aw @aY.eq_1 ?_);refine aS 524280 l.length (fun i f h x=>(f 4).v=vi i/\Own h x (f 3).v 1 (ai (di l i))) rfl ⟨ak @aY.eq_1,.inl ⟨ak @aY.eq_1,rfl⟩⟩ ?_;rintro i f u H x bs hi ⟨m,g⟩;have o:=aB i aa;refine aJ @aY.eq_1 m ?_;refine vB @aY.eq_1 ?_ ?_<;>intro h
 ·have q:l[i]? =some l[i]:=zI aa;have p:l.getD i false=l[i]:=by simp[List.getD,q]
  refine a7 @aY.eq_1 m q ?_;refine vB @aY.eq_1 ?_ ?_<;>intro h
  ·have j:di l (i+1)=di l i++[(i:Int)]:=by rw[tw,p,h];rfl
   have A:(di l i).length<=i:=by
    unfold di;rw[cP];exact cU (ku _ _) af
   rcases g with⟨a,c⟩ | ⟨k,a,e,d⟩
   ·have s:di l i=[]:=by simpa[ai]using c
    refine a7 @aY.eq_1 m a ?_;refine⟨aa,bg @aY.eq_1 o,?_⟩;refine bN @aY.eq_1 j s @ai.eq_1 ?_;exact .inr ⟨_,rfl,aa,ak @aY.eq_1⟩
   ·have v:=yz e;have w:=yQ e;have y:=SA e;have t:=eC (di l i);have z:=aC (di l i);have r:(ai (di l i)).length<=4294967295:=aa
    simp -dsimp only[go_sem,seval,aY,m,a,d,v,w,y,t,ay,be,r];refine⟨aa,bg @aY.eq_1 o,?_⟩;refine a7 @aY.eq_1 j @fB ?_;exact .inr ⟨_,(by rw[zM];rfl),aa,ak @aY.eq_1⟩
  ·have j:di l (i+1)=di l i:=by rw[tw,p,h];simp
   refine⟨aa,bg @aY.eq_1 o,?_⟩;refine aJ @aY.eq_1 j ?_;rcases g with⟨a,c⟩ | ⟨k,a,e,d⟩
   ·exact .inl ⟨a,c⟩
   ·exact .inr ⟨k,a,aa,d⟩
 ·have:i=l.length:=aa
  subst this;have n:=jD g (iG _);rcases g with⟨a,c⟩ | ⟨k,a,e,d⟩
  ·refine aJ @aY.eq_1 a ?_;simpa[ai]using c
  ·refine aJ @aY.eq_1 a ?_;rw[a,toT]at n;simp only[d,rd,gy,ay,aU,ij,be,zC,zD]at n⊢;rw[n];rfl
end Rg
end
section
-- FULL
namespace Rg
open Go
theorem tO (p:Prog) (c t:Int) (x:Cell) (a:0<=c) (b:p.cells[c.toNat]? =some x):Den Γ G 154 [(zP p),vi c,vi t]=some (vb (decide (x.thread=t))):=by
 exact aD (q:=zX a b)
theorem ww (p:Prog) (c:Int) (x:Cell) (a:0<=c) (b:p.cells[c.toNat]? =some x):Den Γ G 155 [(zP p),vi c]=some (vb (decide (x.thread= -1))):=by
 exact aD (q:=zX a b)
theorem sF (p:Prog) (c:Int) (x:Cell) (a:0<=c) (b:p.cells[c.toNat]? =some x):Den Γ G 163 [(zP p),vi c]=some (vb x.ghost):=by
 exact aD (q:=zX a b)
def br (p:Prog) (t c:Int):Bool:=decide (0<=c)&&match p.cells[c.toNat]? with
 | some x=>decide (x.thread=t)
 | none=>false
theorem ga {p:Prog} {c:Int} (h:inR c p.cells.length=true):0<=c/\ ∃x,p.cells[c.toNat]? =some x:=by
 simp only[inR,aQ]at h;exact⟨h.1,_,zI aa⟩
theorem tH {p:Prog} {t c:Int} (h:inR c p.cells.length=false):br p t c=false:=by
 simp only[inR,d8]at h;unfold br
 by_cases a:0<=c
 ·have:p.cells[c.toNat]? =none:=oJ.2 aa;simp[this]
 ·simp[a]
theorem rq (p:Prog) (c:Int):Den Γ G 100 [(zP p),vi c]=some (vb (br p (-1) c)):=by
 refine aD (q:=?_)
 have d:=iH c p.cells.length;refine jV d ?_;refine q9 ?_ ?_<;>intro h
 ·obtain⟨a,x,b⟩:=ga h;refine zW a b h ?_;simp[br,a,b]
 ·rw[tH h]
theorem tP (p:Prog) (t c:Int):Den Γ G 146 [vi c,.t (.ip [.sl (p.cells.map Cell.enc),.sl (p.modules.map Contract.enc),.sl (p.locks.map Lock.enc),.sl (p.threads.map Thread.enc)]),.t (.ip [ti t])]=some (vb (br p t c)):=by
 refine aD (q:=?_)
 have d:=iH c p.cells.length;refine jV d ?_;refine q9 ?_ ?_<;>intro h
 ·obtain⟨a,x,b⟩:=ga h;refine zW a b h ?_;simp[br,a,b]
 ·rw[tH h]
theorem xL (h:ae): ∀c:List T,(∀t∈c,T.norm t=t)->(c.map V.t).mapM (toT1 h)=some (c.map V.t)
 | [],_=>rfl
 | t::c,hn=>by
   rw[aT,cQ,xL h c fun x a=>hn x (by simp[a])];have:toT1 h (.t t)=some (.t t):=by simp[toT1,toT,hn t af]
   rw[this];rfl
theorem OT (c:List T):(c.map V.t).all V.tree=true:=by
 rw[zN];intro v a;obtain⟨t,_,rfl⟩:=cy.1 a;rfl
def IsP (g:Nat) (c:List T) (P:Int->Bool):Prop:=(∀t∈c,T.norm t=t)/\ ∀n:Int,Den Γ G g (vi n::c.map V.t)=some (vb (P n))
def IsF (F:T) (P:Int->Bool):Prop:=T.norm F=F/\ ∃g a b,cG (.t F)=some (g,a,b)/\(∀(h:ae) (n:Int),(a++[vi n]++b).mapM (toT1 h)=some (a++[vi n]++b))/\
 (∀n:Int,(a++[vi n]++b).all V.tree=true)/\ ∀n:Int,Den Γ G g (a++[vi n]++b)=some (vb (P n))
theorem yv {v:V} {g:Nat} {a b:List V} (c:cG v=some (g,a,b)) (K:Nat->List V->List V->Prop) (w:WK K):fnK (some v) K w=K g a b:=by
 simp only[fnK,c]
theorem IsP.isF {g:Nat} {c:List T} {P:Int->Bool} (h:IsP g c P):IsF (.fn g [] c) P:=by
 refine⟨rfl,g,[],c.map V.t,rfl,fun a n=> ?_,fun n=> ?_,fun n=> ?_⟩
 ·have:=xL a (ti n::c) (fun t b=>(cj.1 b).elim (fun e=>by rw[e];rfl) (h.1 t));exact this
 ·exact OT (ti n::c)
 ·exact h.2 n
theorem kcJ {g:Nat} {c:List T} {P:Int->Bool} (d: ∀t∈c,T.norm t=t) (a: ∀n:Int,Den Γ G g [.agg (c.map V.t),vi n]=some (vb (P n))):IsF (.fa g c) P:=by
 refine⟨rfl,g,[.agg (c.map V.t)],[],rfl,fun b n=> ?_,fun n=> ?_,fun n=>a n⟩
 ·clear a
  have e:toT1 b (.agg (c.map V.t))=some (.agg (c.map V.t)):=by
   have:(c.map V.t).mapM (toT b 1000)=some c:=by
    induction c with
    | nil=>rfl
    | cons t c h=>rw[aT,cQ,h fun x f=>d x (by simp[f])];simp[toT,d t af]
   simp[toT1,this]
  rw[bW,jd,ff,cQ,cQ,e];rfl
 ·simp[V.tree]
theorem Z2 (F:T) (P:Int->Bool) (p:IsF F P) (l:List Int) (A:l.length<2^50):
 Den Γ G 145 [.t (ints l),.t F]=some (vi (match l.findIdx? P with | some i=>i | none=> -1)):=by
 refine aD (q:=?_)
 obtain⟨_,g,a,b,s,t,q,r⟩:=p;have o:=yv s;refine aA ?_;refine a8 524080 l.length (fun i f=>(f 8).v=vi i/\ ∀x∈l.take i,P x=false) rfl rfl ⟨am,af⟩ ?_;rintro i f u B bb hi ⟨m,d⟩;have v:=aB i aa;refine aw m ?_;refine bv ?_ ?_<;>intro h
 ·obtain⟨y,e,w⟩:=au ‹i<l.length›;refine de m e o t q r ?_;refine bv ?_ ?_<;>intro h
  ·have:l.findIdx? P=some i:=by
    rw[rz];have k:i<l.length:= ‹i<l.length›;have n:l[i]=y:=by rw[zI k]at e;exact pa e
    refine⟨k,by rw[n];exact h,fun j z=> ?_⟩;have:=d l[j] (by rw[GJ];exact⟨j,aa,rfl⟩);simp[this]
   rw[this]
  ·refine⟨aa,ak v,fun x c=> ?_⟩;rw[a_ e]at c;rcases cz.1 c with c | c
   ·exact d x c
   ·rw[bB.1 c];exact h
 ·have:i=l.length:=aa
  subst this;rw[be]at d;have:l.findIdx? P=none:=by rw[s_];exact d
  rw[this]
theorem W1 (F:T) (P:Int->Bool) (a:IsF F P) (l:List Int) (d:l.length<2^50):
 Den Γ G 131 [.t (ints l),.t F]=some (vb (l.any P)):=by
 refine aD (q:=?_)
 have c:=Z2 F P a l d;have b:=a.1;simp only[T.norm]at b;refine aJ c b ?_
 cases h:l.findIdx? P with
 | none=>
   rw[s_]at h;have:l.any P=false:=by rw[List.any_eq_false];intro x e;simp[h x e]
   simp[this]
 | some i=>
   have:l.any P=true:=by
    rw[rz]at h;obtain⟨hi,hp,_⟩:=h;rw[lu];exact⟨_,mg hi,hp⟩
   simp[this]
theorem W9 (F:T) (P:Int->Bool) (d:IsF F P):IsP 132 [.ip [F]] (fun n=> !P n):=by
 refine⟨by simp[T.norm],fun n=> ?_⟩
 refine aD (q:=?_)
 obtain⟨_,g,a,b,h,i,e,f⟩:=d;have c:=yv h;exact k_ c i e f
theorem ru (F:T) (P:Int->Bool) (a:IsF F P) (l:List Int) (d:l.length<2^50):
 Den Γ G 102 [.t (ints l),.t F]=some (vb (l.all P)):=by
 refine aD (q:=?_)
 have b:=a.1;simp only[T.norm]at b;have c:=W1 _ _ (W9 F P a).isF l d;refine aJ c b ?_;rw[List.all_eq_not_any_not]
end Rg
end
section
-- FULL
namespace Rg
open Go
def bA (p:Prog):T:=.ip [.sl (p.cells.map Cell.enc),.sl (p.modules.map Contract.enc),.sl (p.locks.map Lock.enc),.sl (p.threads.map Thread.enc)]
theorem U' (p:Prog) (t:Int):IsP 146 [bA p,.ip [ti t]] (br p t):=⟨by simp[bA,T.norm],fun n=>tP p t n⟩
theorem uI (p:Prog) (t:Int):Den Γ G 133 [(zP p),vi t]=some (.t (.fn 146 [] [bA p,.ip [ti t]])):=by
 refine aD (q:=F5 ?_);rfl
def e_ (p:Prog) (t c:Int):Bool:=br p (-1) c||br p t c
theorem wp (p:Prog) (t:Int):Den Γ G 104 [(zP p),vi t]=some (.t (.fn 134 [] [bA p,.ip [.fn 146 [] [bA p,.ip [ti t]]]])):=by
 refine aD (q:=?_)
 have a:=uI p t;refine jV a ?_;rfl
theorem OQ (p:Prog) (t:Int):IsP 134 [bA p,.ip [.fn 146 [] [bA p,.ip [ti t]]]] (e_ p t):=by
 refine⟨by simp[bA,T.norm],fun n=> ?_⟩
 refine aD (q:=?_)
 have a:=rq p n;have b:=tP p t n;refine sJ a @bA.eq_1 ?_;refine F' @bA.eq_1 ?_ ?_<;>intro h
 ·simp[e_,h]
 ·simp[e_,h]
end Rg
end
section
-- APPS
namespace Rg
open Go
theorem kcm {k x:Nat} (h:k<x) (a b c d:Nat): ¬k=x+a+b+c+d:=aa
theorem Jx (l:List Bool) (n:l.length=32): ∃r h' s,DenR Γ G 78 [.agg (l.map fun b=>vb b)] (fun _=>none) 0=some (r,h',s)/\Own h' s r 1 (ai (di l 32)):=by
 refine bO (q:=?_)
 have L:(l.map fun b=>vb b).length=32:=by simp[n]
 have y:List.take 32 (l.map fun b=>vb b)=l.map fun b=>vb b:=c6 aa
 refine a7 @aY.eq_1 n y ?_;refine aS 131000 32 (fun i f h x=>(f 7).v=vi i/\Own h x (f 3).v 1 (ai (di l i))) rfl ⟨ak @aY.eq_1,.inl ⟨ak @aY.eq_1,rfl⟩⟩ ?_;rintro i f u H x bs hi ⟨j,m⟩;have o:=aB i aa;have K:(0:Int)<=(i:Int):=aa
 refine aJ @aY.eq_1 j ?_;refine vB @aY.eq_1 ?_ ?_<;>intro h
 ·have I:i<32:=aa
  have q:l[i]? =some (l[i]' aa):=zI aa
  generalize B:l[i]' aa=b at q
  have p:l.getD i false=b:=by simp[List.getD,q]
  have A:List.take 1 (List.drop (i*1) (l.map fun b=>vb b))=[vb b]:=by
   rw[jF,<- List.map_drop,<- wa]
   have:(l.drop i).take 1=[b]:=by
    rw[vT aa,B];rfl
   rw[this];rfl
  have z:i*1<=31:=aa
  refine bT @aY.eq_1 j A n z ?_;refine vB @aY.eq_1 ?_ ?_<;>intro h
  ·have g:di l (i+1)=di l i++[(i:Int)]:=by rw[tw,p,h];rfl
   have M:(di l i).length<=i:=by
    unfold di;rw[cP];exact cU (ku _ _) af
   rcases m with⟨a,d⟩ | ⟨k,a,c,e⟩
   ·have v:di l i=[]:=by simpa[ai]using d
    refine a7 @aY.eq_1 j a ?_;refine⟨aa,bg @aY.eq_1 o,?_⟩;refine bN @aY.eq_1 g v @ai.eq_1 ?_;exact .inr ⟨_,rfl,aa,ak @aY.eq_1⟩
   ·have C:=yz c;have D:=yQ c;have E:=SA c;have F:=kcm c;have w:=eC (di l i);have J:=aC (di l i);have t:(ai (di l i)).length<=4294967295:=aa
    simp -dsimp only[go_sem,seval,aY,j,a,e,C,D,E,F,w,ay,be,t];refine⟨aa,bg @aY.eq_1 o,?_⟩;refine a7 @aY.eq_1 g @fB ?_;exact .inr ⟨_,(by rw[zM];rfl),aa,ak @aY.eq_1⟩
  ·have g:di l (i+1)=di l i:=by rw[tw,p,h];simp
   refine⟨aa,bg @aY.eq_1 o,?_⟩;refine aJ @aY.eq_1 g ?_;rcases m with⟨a,d⟩ | ⟨k,a,c,e⟩
   ·exact .inl ⟨a,d⟩
   ·exact .inr ⟨k,a,aa,e⟩
 ·have:i=32:=aa
  subst this;rcases m with⟨a,d⟩ | ⟨k,a,c,e⟩
  ·refine aJ @aY.eq_1 a ?_;exact .inl ⟨rfl,d⟩
  ·refine aJ @aY.eq_1 a ?_;exact .inr ⟨k,rfl,fw c (by first | omega | exact cU (qJ _ _) (qJ _ _) | exact qJ _ _),e⟩
def vbs (l:List Bool):List V:=l.map fun b=>vb b
theorem SU {l:List Bool} {i:Nat} (h:i<l.length):wr (vbs l) i [vb true]=some (vbs (l.set i true)):=by
 unfold wr vbs;rw[ah (by simp;omega)]
 congr 1
 rw[o8,List.set_eq_take_append_cons_drop,ah (al h)];simp
def bZ (op:Int) (s:List Bool) (x:Expr):List Bool:=if x.op=op then s.set x.n.toNat true else s
theorem kar (op:Int) (s:List Bool) (x:Expr):(bZ op s x).length=s.length:=by unfold bZ;split<;>simp
def lcS (x:Expr):Bool:=decide (0<=x.n/\(x.kids=[]->x.op=1\/((x.op=2\/x.op=3)/\x.n<32)))
def IS (a b c:Nat) (e:Expr) (s:List Bool×List Bool) (h:ae):Prop:=
 s.1.length=32/\s.2.length=32/\h b=some (.rows 32 [vbs s.1] false)/\h c=some (.rows 32 [vbs s.2] false)/\
 h a=some (.rows 4 [[.t (ti e.op),.t (ti e.w),.t (ti e.n),.t (.sl (e.kids.map Expr.enc))]] false)
theorem Xh (E m o:Nat) (e:Expr) (A:m≠o) (K:E≠m) (L:E≠o) (s:List Bool×List Bool) (H:ae) (n:Nat) (v:V) (x:Expr)
 (S:IS E m o e s H) (T:x.kids=[]) (M:lcS x=true) (U:Sh H v x):
 ∃r h' W,DenR Γ G 77 [v,.mp m 0 0,.mp o 0 0] H n=some (r,h',W)/\IS E m o e (bZ 3 s.1 x,bZ 2 s.2 x) h'/\ ∀k,k≠m->k≠o->h' k=H k:=by
 obtain⟨c,d,g,j,f⟩:=S;simp only[lcS,aQ]at M;obtain⟨P,F⟩:=M;have F:=F T
 refine bO (q:=?_)
 have w: ∃C,v= .t (.ip [ti x.op,ti x.w,ti x.n,.sl (x.kids.map Expr.enc)])\/ ∃k,v= .mp k 0 0/\H k=some (.rows 4 [[.t (ti x.op),.t (ti x.w),.t (ti x.n),.t (.sl (x.kids.map Expr.enc))]] C):=by
  rcases U with h | ⟨k,C,Q,R⟩
  ·exact⟨false,.inl h⟩
  ·exact⟨C,.inr ⟨k,Q,R⟩⟩
 obtain⟨C,w⟩:=w;rcases F with a | ⟨a,N⟩
 ·have p:bZ 3 s.1 x=s.1:=by simp[bZ,a]
  have t:bZ 2 s.2 x=s.2:=by simp[bZ,a]
  rcases w with rfl | ⟨k,rfl,u⟩
  ·refine aw a ?_;rw[p,t];exact⟨⟨c,d,g,j,f⟩,fun _ _ _=>rfl⟩
  ·refine aJ a u ?_;rw[p,t];exact⟨⟨c,d,g,j,f⟩,fun _ _ _=>rfl⟩
 ·have D:0<=x.n/\x.n<32:=⟨P,N⟩
  have X:x.n.toNat<32:=aa
  have I:(vbs s.1).length=32:=by simp[vbs,c]
  have J:(vbs s.2).length=32:=by simp[vbs,d]
  have B:x.n.toNat*1<=31:=aa
  have y:=SU (l:=s.1) (i:=x.n.toNat) aa;have z:=SU (l:=s.2) (i:=x.n.toNat) aa;unfold wr at y z;rw[ah (by rw[I];simp;omega)]at y;rw[ah (by rw[J];simp;omega)]at z;simp only[zA,d_,jQ,gy,zQ,jd,ff]at y z;rcases a with a | a
  ·have p:bZ 3 s.1 x=s.1:=by simp[bZ,a]
   have t:bZ 2 s.2 x=s.2.set x.n.toNat true:=by simp[bZ,a]
   rw[p,t];rcases w with rfl | ⟨k,rfl,u⟩
   ·refine bT a D j J B ?_;refine⟨⟨c,by simp[d],bg A g,?_,bg L f⟩,fun q _ b=>ak b⟩;simp -dsimp only[go_sem,seval,jF,zQ,z]
   ·refine de a D j J B u ?_;refine⟨⟨c,by simp[d],bg A g,?_,bg L f⟩,fun q _ b=>ak b⟩;simp -dsimp only[go_sem,seval,jF,zQ,z]
  ·have p:bZ 3 s.1 x=s.1.set x.n.toNat true:=by simp[bZ,a]
   have t:bZ 2 s.2 x=s.2:=by simp[bZ,a]
   rw[p,t];rcases w with rfl | ⟨k,rfl,u⟩
   ·refine bT a D g I B ?_;refine⟨⟨by simp[c],d,?_,bg (bX A) j,bg K f⟩,fun q b _=>ak b⟩;simp -dsimp only[go_sem,seval,jF,zQ,y]
   ·refine de a D g I B u ?_;refine⟨⟨by simp[c],d,?_,bg (bX A) j,bg K f⟩,fun q b _=>ak b⟩;simp -dsimp only[go_sem,seval,jF,zQ,y]
end Rg
end
section
-- FULL
namespace Rg
open Go
theorem xP {α β γ:Type} (f:α->γ->α) (g:β->γ->β): ∀(l:List γ) (a:α) (b:β),l.foldl (fun s x=>(f s.1 x,g s.2 x)) (a,b)=(l.foldl f a,l.foldl g b)
 | [],a,b=>rfl
 | x::l,a,b=>by simp only[iy];exact xP f g l _ _
def Expr.occ (op:Int) (e:Expr):List Bool:=e.lv.foldl (bZ op) (List.replicate 32 false)
def Expr.sup (op:Int) (e:Expr):List Int:=if e.formed then di (e.occ op) 32 else []
theorem uK (op:Int) (e:Expr):(e.occ op).length=32:=by
 unfold Expr.occ
 generalize e.lv=l
 have : ∀(l:List Expr) (s:List Bool),(l.foldl (bZ op) s).length=s.length:=by
  intro l
  induction l with
  | nil=>intro s;rfl
  | cons x l a=>intro s;rw[iy,a,kar]
 rw[this];simp
theorem RT (d:Nat): ∀e:Expr,e.deep d=true->e.allE (fun x=>lcS x&&decide (x.kids.length<=3))=true:=by
 induction d with
 | zero=>intro e h;simp[Expr.deep]at h
 | succ d j=>
   intro e h;rw[Expr.allE_eq];have b:=kK h;simp only[zF,zN,aQ,lcS];refine⟨⟨⟨pR b,fun f=> ?_⟩,nW b⟩,fun k f=> ?_⟩
   ·have c:=mz b;have g:=sB b;rw[f]at c;obtain⟨op,w,n,l⟩:=e;simp only[go_sem]at *;rcases nz op with a | a | a | a | a | a | a | a | a | a | a | a | a | a | i
    ·exact .inl a
    ·refine .inr ⟨.inl a,?_⟩;rw[tv aa g]at b;simp[a]at b;omega
    ·refine .inr ⟨.inr a,?_⟩;rw[tv aa g]at b;simp[a]at b;omega
    all_goals(try(rw[a]at c;simp[cW]at c;done))
    rw[pg i]at c;simp at c
   ·have:=j k (kJ h f);simpa only[lcS]using this
def eR (l:List Bool):List (List V):=l.map fun b=>[vb b]
theorem OG (l:List Bool) (i:Nat):(eR l).set i [vb true]=eR (l.set i true):=by simp[eR,o8]
def lcM (x:Expr):Bool:=lcS x&&decide (x.kids=[]\/(x.op≠2/\x.op≠3))&&decide (x.kids.length<=3)
def IM (a b:Nat) (s:List Bool×List Bool) (h:ae):Prop:=
 s.1.length=32/\s.2.length=32/\h a=some (.rows 1 (eR s.1) false)/\h b=some (.rows 1 (eR s.2) false)
def jK (s:List Bool×List Bool) (x:Expr):List Bool×List Bool:=(bZ 3 s.1 x,bZ 2 s.2 x)
theorem kaq (c d:Nat) (z:c≠d): ∀(e:Expr) (s:List Bool×List Bool) (H:ae) (n:Nat),e.allE lcM=true->IM c d s H->
 ∃r h' E,DenR Γ G 158 [(.agg [.t (ti (e).op),.t (ti (e).w),.t (ti (e).n),.t (.sl ((e).kids.map (Expr.enc)))]),.ms c 0 32,.ms d 0 32] H n=some (r,h',E)/\IM c d (e.lv.foldl jK s) h':=by
 intro e
 induction e using Expr.ind with
 | _ e R=>
 intro s H n v Q;have w:=Expr.allE_self v;simp only[lcM,lcS,zF,aQ]at w;obtain⟨⟨⟨K,L⟩,I⟩,U⟩:=w;obtain⟨m,o,k,l⟩:=Q
 refine bO (q:=?_)
 by_cases b:e.kids=[]
 ·have t:e.lv=[e]:=by rw[Expr.lv_eq,ah b]
  rw[t];rcases L b with a | ⟨a,F⟩
  ·refine aJ a b ?_;refine bK ?_;refine aA ?_;have g:bZ 3 s.1 e=s.1:=by simp[bZ,a]
   have j:bZ 2 s.2 e=s.2:=by simp[bZ,a]
   rw[show [e].foldl jK s=jK s e from rfl,jK,g,j];exact⟨m,o,k,l⟩
  ·have C:0<=e.n/\e.n<32:=⟨K,F⟩
   have N:(eR s.1)[e.n.toNat]? =some [vb (s.1[e.n.toNat]' aa)]:=by
    simp only[eR,zJ,zI (show e.n.toNat<s.1.length from aa)];rfl
   have P:(eR s.2)[e.n.toNat]? =some [vb (s.2[e.n.toNat]' aa)]:=by
    simp only[eR,zJ,zI (show e.n.toNat<s.2.length from aa)];rfl
   rcases a with a | a
   ·refine bT a b C l P ?_;refine bK ?_;refine aA ?_;have g:bZ 3 s.1 e=s.1:=by simp[bZ,a]
    have j:bZ 2 s.2 e=s.2.set e.n.toNat true:=by simp[bZ,a]
    rw[show [e].foldl jK s=jK s e from rfl,jK,g,j];refine⟨m,by simp[o],bg z k,?_⟩;exact ak @OG
   ·refine bT a b C k N ?_;refine bK ?_;refine aA ?_;have g:bZ 3 s.1 e=s.1.set e.n.toNat true:=by simp[bZ,a]
    have j:bZ 2 s.2 e=s.2:=by simp[bZ,a]
    rw[show [e].foldl jK s=jK s e from rfl,jK,g,j];refine⟨by simp[m],o,?_,bg (bX z) l⟩;exact ak @OG
 ·have t:e.lv=e.kids.flatMap Expr.lv:=by rw[Expr.lv_eq,ac b]
  obtain⟨S,T⟩:=I.resolve_left b;rw[t];refine aJ S T ?_;refine aS 68717379648 e.kids.length (fun i f A x=>(f 6).v=vi i/\IM c d (((e.kids.take i).flatMap Expr.lv).foldl jK s) A) rfl ⟨am,by simpa using⟨m,o,k,l⟩⟩ ?_;rintro i f u A x bs hi ⟨q,p⟩;have J:=aB i aa;refine aw q ?_;refine bv ?_ ?_<;>intro h
  ·obtain⟨y,D,B⟩:=au ‹i<e.kids.length›;refine aJ q D ?_;refine bf (R y B _ _ _ (Expr.allE_kid v B) p) ?_;intro r h' E M;refine aw q ?_;refine⟨aa,ak J,?_⟩;rw[a_ D,jc,iD];simpa using M
  ·have:i=e.kids.length:=aa
   subst this;rw[be]at p;exact p
theorem Yz (l:List Expr) (s:List Bool×List Bool):l.foldl jK s=(l.foldl (bZ 3) s.1,l.foldl (bZ 2) s.2):=by
 have:=xP (bZ 3) (bZ 2) l s.1 s.2;exact this
theorem kat (d:Nat): ∀e:Expr,e.deep d=true->e.allE lcM=true:=by
 induction d with
 | zero=>intro e h;simp[Expr.deep]at h
 | succ d i=>
   intro e h;have c:=Expr.allE_self (RT (d+1) e h);have g:=kK h;rw[Expr.allE_eq];simp only[zF,zN];refine⟨?_,fun k b=>i k (kJ h b)⟩;simp only[lcM,zF,aQ];simp only[zF,aQ]at c;refine⟨⟨c.1,?_⟩,c.2⟩
   by_cases b:e.kids=[]
   ·exact .inl b
   ·refine .inr ?_;have a:=mz g;have j: ¬e.kids.length=0:=al b
    constructor
    ·intro f;rw[f]at a;simp[cW]at a;omega
    ·intro f;rw[f]at a;simp[cW]at a;omega
theorem wz (h:ae) (d:Nat) (l:List Bool):(eR l).mapM (fun row=>row.mapM (toT h d))=some (l.map fun b=>[tb b]):=by
 have:=mA h d (l.map fun b=>[tb b]) (by
  intro e c t a;obtain⟨n,_,rfl⟩:=cy.1 c
  simp at a;subst a;rfl)
 simpa[eR,Function.comp_def]using this
theorem LY (h:ae) (d:Nat) {rs:List (List V)} (a: ∀r∈rs,∀v∈r,V.tree v=true):rs.flatMap (·.flatMap (cn h d))=[]:=by
 simp only[no];intro r b v c;have:=a r b v c;cases v<;>simp_all [V.tree]<;>cases d<;>rfl
theorem SL {r:V} {h:ae} {vs:List V} {K:V->ae->Prop} {w:WK K} {k f:Nat} {rs:List (List V)} {c:Bool}
 (b:h k=some (.rows f rs c)) (e:vs.flatMap (b_ h)=[k]) (d: ∀h',(∀j,j≠k->h' j=h j)->(∃a,h' k=some (.rows f rs a))->K r h'):fY (some r) false h vs K w:=by
 unfold fY;simp only;split
 ·exact d h (fun _ _=>rfl) ⟨c,b⟩
 ·refine⟨af,d _ (fun j g=> ?_) ⟨true,?_⟩⟩
  ·simp[e,freezes,b,cD,bE,aq,g]
  ·simp[e,freezes,b,cD,bE,aq]
theorem Pz {h:ae} {k d:Nat} {rs:List (List V)} {a:Bool} {i n:Nat} (c:h k=some (.rows d rs a)) (b: ∀r∈rs,∀v∈r,V.tree v=true): [V.ms k i n].flatMap (b_ h)=[k]:=by
 simp only[du,fR,bW,b_,cn,c,LY h 999 b]
theorem LM (l:List Bool): ∀r∈eR l,∀v∈r,V.tree v=true:=by
 intro r c v a;obtain⟨b,_,rfl⟩:=cy.1 c;simp at a;subst a;rfl
theorem Xg (e:Expr):Den Γ G 138 [(.agg [.t (ti (e).op),.t (ti (e).w),.t (ti (e).n),.t (.sl ((e).kids.map (Expr.enc)))])]=some (.tup [.t (ints (e.sup 3)),.t (ints (e.sup 2))]):=by
 refine aD (q:=?_)
 have f:=xO e
 by_cases a:e.formed=true
 ·refine aJ f a ?_;have o:=lY a;refine bf (kaq _ _ aG e (List.replicate 32 false,List.replicate 32 false) _ _ (kat 40 e o) ⟨rfl,rfl,by simp -dsimp only[go_sem,seval];rfl,by simp -dsimp only[go_sem,seval];rfl⟩) ?_;intro r h' x g;rw[Yz]at g;obtain⟨v,w,c,b⟩:=g;have k:=uK 3 e;have j:=uK 2 e;have i:=Lh (e.occ 3) aa;have h:=Lh (e.occ 2) aa;rw[k]at i;rw[j]at h;change h' _=some (.rows 1 (eR (e.occ 3)) false)at c;change h' _=some (.rows 1 (eR (e.occ 2)) false)at b;have t:(eR (e.occ 3)).length=32:=by simp[eR,k]
  have s:(eR (e.occ 2)).length=32:=by simp[eR,j]
  have q:List.take 32 (eR (e.occ 3))=eR (e.occ 3):=c6 aa;have p:List.take 32 (eR (e.occ 2))=eR (e.occ 2):=c6 aa;have m:=fun d=>wz h' d (e.occ 3)
  have b2:=fun d=>wz h' d (e.occ 2)
  refine bT c t q m i ?_;refine SL c (Pz c (LM _)) ?_;rintro n l -;have b:=(l 8 aG).trans b;have b2:=fun d=>wz n d (e.occ 2)
  refine bT b s p b2 h ?_;refine SL b (Pz b (LM _)) ?_;rintro u - -;refine aA ?_;simp[Expr.sup,a]
 ·have a:e.formed=false:=al a
  refine aJ f a ?_;simp[Expr.sup,a]
namespace Expr
mutual
def beq:Expr->Expr->Bool
 | .mk o w n k,.mk o' w' n' k'=>decide (o=o'/\w=w'/\n=n')&&HG k k'
def HG:List Expr->List Expr->Bool
 | [],[]=>true
 | e::r,e'::r'=>beq e e'&&HG r r'
 | _,_=>false
end
end Expr
theorem WN (e:Expr):Den Γ G 156 [(.agg [.t (ti (e).op),.t (ti (e).w),.t (ti (e).n),.t (.sl ((e).kids.map (Expr.enc)))]),.agg [vi 1,vi 1,vi 1,.t (.sl [])]]=some (vb (decide (e.op=1/\e.w=1/\e.n=1/\e.kids=[]))):=by
 refine aD (q:=aA ?_)
 repeat'(refine bv ?_ ?_<;>intro h)
 ·simp[*]
 ·simp[*]
 ·simp[*]
 ·have : ¬e.kids=[]:=by intro a;rw[a]at h;simp at h
  simp[*]
 ·have:e.kids=[]:=by simpa using‹(e.kids.length:Int)=0›
  refine bK ?_;refine aw this ?_;simp[*]
def ax (h:ae) (x:Nat) (v:V) (a:Nat) (rows:List (List V)):Prop:=
 (v= .t .nils/\rows=[])\/ ∃k,v= .ms k 0 rows.length/\k<x/\h k=some (.rows a rows false)
theorem ax.rowsS {h:ae} {x:Nat} {v:V} {b:Nat} {rows:List (List V)} (o:ax h x v b rows):rowsS h v=some rows:=by
 rcases o with⟨rfl,rfl⟩ | ⟨k,rfl,_,a⟩
 ·rfl
 ·simp[Rg.rowsS,a,rd]
theorem ax.lenS {h:ae} {x:Nat} {v:V} {b:Nat} {rows:List (List V)} (o:ax h x v b rows):lenS h v=some rows.length:=by
 rcases o with⟨rfl,rfl⟩ | ⟨k,rfl,_,a⟩
 ·rfl
 ·simp[Rg.lenS,a]
theorem ax.valOf {h:ae} {x:Nat} {v:V} {a:Nat} {rows:List (List V)} (o:ax h x v a rows):valOf v=some v:=by
 rcases o with⟨rfl,rfl⟩ | ⟨k,rfl,_,b⟩<;>rfl
theorem Q3 {h:ae} {x q d bytes:Nat} {u:V} {a b:List (List V)} {K:V->List (Nat×O)->Prop} {w:WK K}
 (l:ax h x u d a) (B:x<=q) (m:a.length+b.length<=2^32) (p:bytes<=2^12) (y:(b.all fun r=>decide (r.length=d))=true) (t:(a.all fun r=>decide (r.length=d))=true)
 (f: ∀v hp,ax (At h hp) (q+1) v d (a++b)->(∀j,j<q->(∀i n,u≠ .ms j i n)->At h hp j=h j)->(∀j,q<j->At h hp j=h j)->K v hp):
 eE false (aY h q d bytes u a b) K w:=by
 unfold aY;rw[ah ⟨⟨m,p⟩,y,t⟩]
 cases b with
 | nil=>
   simp only[sU,aU,jC];refine f _ _ ?_ (fun j _ _=>by rw[bE]) (fun j _=>by rw[bE]);rw[bE,bW];rcases l with c | ⟨k,c,e,s⟩
   ·exact .inl c
   ·exact .inr ⟨k,c,aa,s⟩
 | cons r b=>
   simp only[sP,zG,aX];rcases l with⟨rfl,rfl⟩ | ⟨k,rfl,A,z⟩
   ·simp only[jC];refine f _ _ (.inr ⟨q,rfl,aa,?_⟩) (fun j g _=> ?_) (fun j g=> ?_)
    ·simp[cD,bE,aq]
    ·have:j≠q:=aa
     simp[cD,bE,aq,this]
    ·have:j≠q:=aa
     simp[cD,bE,aq,this]
   ·simp only[z,kx,aU,jC,xd];refine f _ _ (.inr ⟨q,by rw[zM],aa,?_⟩) (fun j g o=> ?_) (fun j g=> ?_)
    ·simp[cD,bE,aq]
    ·have c:j≠q:=aa
     have e:j≠k:=by rintro rfl;exact o 0 _ rfl
     simp[cD,bE,aq,c,e]
    ·have c:j≠q:=aa
     have e:j≠k:=aa
     simp[cD,bE,aq,c,e]
theorem MW {h:ae} {x q d bytes c i:Nat} {a b:List (List V)} {K:V->List (Nat×O)->Prop} {w:WK K}
 (g:h c=some (.rows d a false)) (u:i=a.length) (y:c<x) (v:x<=q) (l:a.length+b.length<=2^32) (n:bytes<=2^12) (s:(b.all fun r=>decide (r.length=d))=true) (p:(a.all fun r=>decide (r.length=d))=true)
 (f: ∀k hp,k<q+1->At h hp k=some (.rows d (a++b) false)->(∀j,j<q->j≠c->At h hp j=h j)->(∀j,q<j->At h hp j=h j)->K (.ms k 0 (a++b).length) hp):
 eE false (aY h q d bytes (.ms c 0 i) a b) K w:=by
 subst u;unfold aY;rw[ah ⟨⟨l,n⟩,s,p⟩]
 cases b with
 | nil=>
   simp only[sU,aU,jC];have:=f c [] aa (by rw[bE,bW];exact g) (fun j _ _=>by rw[bE]) (fun j _=>by rw[bE])
   rwa[bW]at this
 | cons r b=>
   simp only[sP,zG,aX,g,kx,aU,jC,xd]
   have:=f q [(c,.dead),(q,.rows d (a++r::b) false)] aa (by simp[cD,bE,aq]) (fun j t m=>by
    have e:j≠q:=aa
    simp[cD,bE,aq,e,m]) (fun j t=>by
    have e:j≠q:=aa
    have o:j≠c:=aa
    simp[cD,bE,aq,e,o])
   rwa[zM]at this
def yX (p:Prog) (e:Expr):Prop:= ∀op,op=2\/op=3-> ∀c∈e.sup op,0<=c/\c<p.cells.length
def qT (p:Prog) (shared:Bool) (t c:Int):Bool:=match p.cells[c.toNat]? with
 | some x=> !((decide (x.thread= -1)&& !shared)||(decide (0<=x.thread)&&decide (x.thread≠t)))
 | none=>false
theorem nC (op:Int) (e:Expr):(e.sup op).length<=32:=by
 unfold Expr.sup;split
 ·unfold di;rw[cP];exact cU (ku _ _) af
 ·simp
theorem xJ (l:List Int):(l.map fun n=>[ti n]).map (fun x=>x.map V.t)=ai l:=rfl
theorem Za (p:Prog) (e:Expr) (sh:Bool) (t:Int) (n:yX p e):
 Den Γ G 115 [(zP p),(.agg [.t (ti (e).op),.t (ti (e).w),.t (ti (e).n),.t (.sl ((e).kids.map (Expr.enc)))]),vb sh,vi t]=some (vb ((e.sup 3++e.sup 2).all (qT p sh t))):=by
 refine aD (q:=?_)
 have E:=Xg e;have P:=nC 3 e;have O:=nC 2 e
 have s: ∀c∈e.sup 3++e.sup 2,0<=c/\c<p.cells.length:=by
  intro c a;rcases cz.1 a with a | a
  ·exact n 3 (.inr rfl) c a
  ·exact n 2 (.inl rfl) c a
 have B:ai (e.sup 3)++ai (e.sup 2)=ai (e.sup 3++e.sup 2):=by simp[ai]
 have J:(e.sup 3++e.sup 2).length<=64:=by rw[zM];omega
 refine aJ E @xJ ?_;refine MW (x:=11) am rfl aG aG (by rw[aC];simp;omega) aG (eC _) aG ?_;intro k hp F d _ _;rw[ff]at d⊢;simp -dsimp only[go_sem,seval,d,xJ,ay,be];refine MW d rfl F aG (by rw[aC,aC];omega) aG (eC _) (eC _) ?_;intro H K I b _ _;rw[B]at b⊢
 generalize e.sup 3++e.sup 2=l at *
 obtain⟨M,g⟩: ∃M,M=qT p sh t:=⟨_,rfl⟩
 rw[<- g];replace g: ∀c,qT p sh t c=M c:=fun c=>by rw[g]
 cases sh
 all_goals(
  refine aA ?_;refine aS 18014398492717312 l.length (fun i f d x=>(f 12).v=vi i/\d H=some (.rows 1 (ai l) false)/\(l.take i).all M=true) rfl ⟨am,ak b,af⟩ ?_;clear b;rintro i f u d x bs hi ⟨o,b,j⟩;have z:=aB i aa;refine a7 o b @aC ?_;refine bv ?_ ?_<;>intro h
  ·obtain⟨c,a,q⟩:=au (show i<l.length from aa);obtain⟨C,N⟩:=s c q;obtain⟨y,r⟩: ∃y,p.cells[c.toNat]? =some y:=⟨_,zI aa⟩
   have v:(ai l)[i]? =some [vi c]:=by simp[ai,a]
   have L:(0:Int)<=(i:Int):=aa
   have w:i<l.length:=aa
   have m:=(g c).symm;simp only[qT,r]at m;have A:M c=false->l.all M=false:=fun D=>pc q D
   refine dG o b v w C r @aC ?_
   repeat'(refine bv ?_ ?_<;>intro h)
   all_goals first
    | (rw[A (by rw[m];simp[*])];done)
    | (refine⟨aa,ak z,ak b,?_⟩
       rw[a_ a,nq,j];simp only[ey,qq,m]
       simp[*];(try omega);done)
  ·have:i=l.length:=aa
   subst this;rw[be]at j
   rw[j])
theorem ax.upd {h:ae} {x:Nat} {v:V} {a:Nat} {rows:List (List V)} (o:ax h x v a rows) {q:Nat} (f:x<=q) (b:Option O):ax (updC h q b) (q+1) v a rows:=by
 rcases o with o | ⟨k,c,e,d⟩
 ·exact .inl o
 ·exact .inr ⟨k,c,aa,by rw[aq,ac aa];exact d⟩
theorem ax.le {h:ae} {x y:Nat} {v:V} {a:Nat} {rows:List (List V)} (o:ax h x v a rows) (e:x<=y):ax h y v a rows:=by
 rcases o with o | ⟨k,b,d,c⟩
 ·exact .inl o
 ·exact .inr ⟨k,b,aa,c⟩
theorem ax.r1 {h:ae} {x:Nat} {v:V} {c:Nat} {rows:List (List V)} (o:ax h x v c rows) (a:Nat) (b:Option O):Rg.rowsS (updC h (x+a) b) v=some rows:=(o.upd aa b).rowsS
theorem ax.r2 {h:ae} {x:Nat} {v:V} {d:Nat} {rows:List (List V)} (o:ax h x v d rows) (a c:Nat) (b:Option O):Rg.rowsS (updC h (x+a+c) b) v=some rows:=(o.upd aa b).rowsS
theorem ax.r3 {h:ae} {x:Nat} {v:V} {e:Nat} {rows:List (List V)} (o:ax h x v e rows) (a c d:Nat) (b:Option O):Rg.rowsS (updC h (x+a+c+d) b) v=some rows:=(o.upd aa b).rowsS
theorem ax.r4 {h:ae} {x:Nat} {v:V} {f:Nat} {rows:List (List V)} (o:ax h x v f rows) (a c d e:Nat) (b:Option O):Rg.rowsS (updC h (x+a+c+d+e) b) v=some rows:=(o.upd aa b).rowsS
theorem ax.r5 {h:ae} {x:Nat} {v:V} {g:Nat} {rows:List (List V)} (o:ax h x v g rows) (a c d e f:Nat) (b:Option O):Rg.rowsS (updC h (x+a+c+d+e+f) b) v=some rows:=(o.upd aa b).rowsS
theorem ax.reify {h:ae} {x:Nat} {v:V} {c:Nat} {es:List (List T)} (o:ax h x v c (es.map (·.map V.t))) (b: ∀e∈es,∀t∈e,T.norm t=t):Rg.reify h v=some (.t (.sl es)):=by
 have:=jD o b;rcases o with⟨rfl,a⟩ | ⟨k,rfl,_,_⟩
 ·have:es=[]:=al a
  subst this;rfl
 ·simp only[Rg.reify,toT1,this,cZ]
theorem ax.one {h:ae} {x:Nat} {v:V} {a:Nat} {rows:List (List V)} (o:ax h x v a rows):v.one=true:=by
 rcases o with⟨rfl,_⟩ | ⟨k,rfl,_,_⟩<;>rfl
theorem ax.resVal {h:ae} {x:Nat} {v:V} {a:Nat} {rows:List (List V)} (o:ax h x v a rows):Rg.resVal v=some v:=by
 rcases o with⟨rfl,_⟩ | ⟨k,rfl,_,_⟩<;>rfl
def aK (v:V) (k:Nat):Prop:= ∀i n,v≠ .ms k i n
theorem c8 {q k:Nat} (h:k≠q) (i n:Nat):aK (.ms q i n) k:=by
 intro b c a;cases a;exact h rfl
theorem ax.off {h:ae} {x:Nat} {v:V} {b:Nat} {rows:List (List V)} (o:ax h x v b rows) {k:Nat} (d:x<=k):aK v k:=by
 rcases o with⟨rfl,_⟩ | ⟨e,rfl,c,_⟩
 ·intro i n a;cases a
 ·exact c8 aa _ _
theorem ce {h:ae} {x q b bytes:Nat} {u:V} {a:List (List V)} {r:List V} {K:V->List (Nat×O)->Prop} {w:WK K}
 (o:ax h x u b a) (t:x<=q) (p:a.length<2^32) (f:bytes<=2^12) (m:r.length=b) (l:(a.all fun r=>decide (r.length=b))=true)
 (d: ∀v hp,ax (At h hp) (q+1) v b (a++[r])->(∀j,j<x->aK v j)->(∀j,j<x->aK u j->At h hp j=h j)->K v hp):
 eE false (aY h q b bytes u a [r]) K w:=by
 unfold aY;rw[ah ⟨⟨by simp;omega,f⟩,by simp[m],l⟩];simp only[sP,zG,aX];rcases o with⟨rfl,rfl⟩ | ⟨k,rfl,s,n⟩
 ·simp only[jC];refine d _ _ (.inr ⟨q,rfl,aa,?_⟩) (fun j c=>c8 aa _ _) (fun j c _=> ?_)
  ·simp[cD,bE,aq]
  ·have:j≠q:=aa
   simp[cD,bE,aq,this]
 ·simp only[n,kx,aU,jC,xd];refine d _ [(k,.dead),(q,.rows b (a++[r]) false)] (.inr ⟨q,by rw[zM],aa,by simp[cD,bE,aq]⟩) (fun j c=>c8 aa _ _) (fun j c e=> ?_);have g:j≠q:=aa
  have i:j≠k:=by rintro rfl;exact e 0 _ rfl
  simp[cD,bE,aq,g,i]
theorem ax.keep {h h':ae} {x y:Nat} {v:V} {a:Nat} {rows:List (List V)} (o:ax h x v a rows) (f:x<=y) (e: ∀k,k<x-> ¬aK v k->h' k=h k):ax h' y v a rows:=by
 rcases o with o | ⟨k,rfl,c,d⟩
 ·exact .inl o
 ·exact .inr ⟨k,rfl,aa,by rw[e k c (fun b=>b _ _ rfl)];exact d⟩
theorem qK {h:ae} {a g c:Nat} {vs rs:List V} {es:List (List T)} {K:V->List (Nat×O)->Prop} {w:WK K} (u:vs.all V.tree=true) (f:vs.mapM (toT1 h)=some rs)
 (q: ∃r h' b,DenR Γ G g rs (fun _=>none) 0=some (r,h',b)/\ax h' b r c (es.map (·.map V.t)))
 (d: ∀v hp,ax (At h hp) (a+1) v c (es.map (·.map V.t))->(∀j,j≠a->At h hp j=h j)->(∀j,j≠a->aK v j)->K v hp):rY (Γ:=Γ) (G:=G) false h a g vs K w:=by
 obtain⟨r,h',b,o,m⟩:=q
 have p:vs.flatMap (b_ h)=[]:=by
  simp only[no];intro v x;exact LW (zN.1 u v x)
 refine⟨rfl,p,rs,f,r,h',b,o,?_⟩;rcases m with⟨rfl,s⟩ | ⟨k,rfl,y,t⟩
 ·refine⟨{ val:=.t .nils },rfl,d _ _ (.inl ⟨rfl,s⟩) (fun j _=>by rw[bE]) (fun j _ i n h=>by cases h)⟩
 ·have l:(es.map (·.map V.t)).all (fun row=>row.all V.isTr)=true:=by
   simp[V.isTr]
  refine⟨{ val:=.ms a 0 (es.map (·.map V.t)).length,hp:=[(a,.rows c (es.map (·.map V.t)) false)] },?_,d _ _ (.inr ⟨a,rfl,aa,by simp[cD,bE,aq]⟩) (fun j e=>by simp[cD,bE,aq,e]) (fun j e=>c8 aa _ _)⟩;simp only[ja,t];rw[ah ⟨trivial,trivial,l⟩]
def zo:Task->Out->Prop
 | .code _ s,.code _ s'=>s.nxt<=s'.nxt
 | .loop _ s,.code _ s'=>s.nxt<=s'.nxt
 | .ops _ _ _ s,.ops s'=>s.nxt<=s'.nxt
 | .rcall _ _ _ n,.vals _ _ n'=>n<=n'
 | _,_=>True
theorem kc2 {Γ:Nat->Option F} {G:Nat->List T} {t:Task} {o:Out} (h:Big Γ G t o):zo t o:=by
 induction h with
 | rext n q l h=>exact(NF h).1
 | opsYield r m p g c i f j e k d h a b s=>
   simp only[zo,St.apply,qS]at *
   omega
 | _=>simp_all [zo,St.begin,St.apply,St.init]<;>omega
theorem ZR {Γ:Nat->Option F} {G:Nat->List T} {g:Nat} {args:List V} {h h':ae} {n a:Nat} {r:V} (b:DenR Γ G g args h n=some (r,h',a)):n<=a:=kc2 (jy.1 b)
theorem kcY {Γ:Nat->Option F} {G:Nat->List T} {g:Nat} {args:List V} {h:ae} {n:Nat} {P:V->ae->Nat->Prop} (b: ∃r h' a,DenR Γ G g args h n=some (r,h',a)/\P r h' a):
 ∃r h' a,DenR Γ G g args h n=some (r,h',a)/\(P r h' a/\n<=a):=
 let⟨r,h',a,h1,h2⟩:=b
 ⟨r,h',a,h1,h2,ZR h1⟩
theorem xh (e:Expr) (z:ae) (d:Nat):
 ∃r h' c,DenR Γ G 60 [(.agg [.t (ti (e).op),.t (ti (e).w),.t (ti (e).n),.t (.sl ((e).kids.map (Expr.enc)))])] z d=some (r,h',c)/\ ∃t q,r= .tup [t,q]/\ax h' c t 1 (ai (e.sup 3))/\ax h' c q 1 (ai (e.sup 2))/\d<=c/\ ∀k,k<d->h' k=z k/\aK t k/\aK q k:=by
 refine bO (q:=?_)
 have H:=wY e
 by_cases m:e.formed=true
 ·refine aJ H m ?_;have B:=lY m;refine bf (kcY (Lp 77 _ (fun s h=>IS (d+0) (d+3+3+0) (d+3+3+1) e s h/\ ∀k,k<d->h k=z k) (fun s x=>(bZ 3 s.1 x,bZ 2 s.2 x)) lcS ?_ e _ (List.replicate 32 false,List.replicate 32 false) _ _ (RT 40 e B) ⟨⟨rfl,rfl,?_,?_,?_⟩,?_⟩ (fun s h p=> .inr ⟨d+0,false,rfl,p.1.2.2.2.2⟩))) ?_
  ·rintro s h n v x ⟨p,u⟩ j C o;obtain⟨r,h',c,B,Y,Z⟩:=Xh (d+0) (d+3+3+0) (d+3+3+1) e aa aa aa s h n v x p j C o;exact⟨r,h',c,B,Y,fun k j=>(Z k aa aa).trans (u k j)⟩
  ·rw[aq,ac aa,aq,ah rfl];rfl
  ·rw[aq,ah rfl];rfl
  ·rw[aq,ac aa,aq,ac aa,aq,ah rfl]
  ·intro k j;rw[aq,ac aa,aq,ac aa,aq,ac aa]
  rintro r h' c ⟨⟨p,u⟩,RG⟩;rw[xP]at p;obtain⟨l1,l2,J,K,i1⟩:=p;change h' (d+3+3+0)=some (.rows 32 [vbs (e.occ 3)] false)at J;change h' (d+3+3+1)=some (.rows 32 [vbs (e.occ 2)] false)at K;have Q:=uK 3 e;have P:=uK 2 e;have t:(vbs (e.occ 3)).length=32:=by simp[vbs,Q]
  have q:(vbs (e.occ 2)).length=32:=by simp[vbs,P]
  have t3:List.take 32 (vbs (e.occ 3))=vbs (e.occ 3):=c6 aa;have t2:List.take 32 (vbs (e.occ 2))=vbs (e.occ 2):=c6 aa;have M:=Jx (e.occ 3) Q;have L:=Jx (e.occ 2) P;change ∃r h' c,DenR Γ G 78 [V.agg (vbs (e.occ 3))] (fun _=>none) 0=some (r,h',c)/\_ at M;change ∃r h' c,DenR Γ G 78 [V.agg (vbs (e.occ 2))] (fun _=>none) 0=some (r,h',c)/\_ at L
  have R: ∀l:List Bool,[V.agg (vbs l)].all V.tree=true:=fun l=>by
   simp only[ey,qq,gv,V.tree,vbs,List.all_map,zN];intros;rfl
  have N: ∀(g:ae) (l:List Bool),[V.agg (vbs l)].mapM (toT1 g)=some [V.agg (vbs l)]:=fun g l=>by
   have:List.mapM (toT g 1000) (vbs l)=some (l.map fun b=>tb b):=by
    refine tI _ _ _ (fun i a f=> ?_) (by simp[vbs]);rw[vbs,zJ]at f;rw[zJ]
    cases I:l[i]? with
    | none=>rw[I]at f;simp at f
    | some x=>rw[I]at f;simp at f;subst f;exact⟨_,rfl,rfl⟩
   have h2:List.map V.t (l.map fun b=>tb b)=vbs l:=by simp[vbs]
   simp only[cQ,tm,toT1,this,cZ,h2];rfl
  refine a7 J t t3 ?_;refine qK (R _) (N _ _) M ?_;intro w3 Qi A F QD;have S:=A.valOf;have D:=(F (d+3+3+1) aa).trans K;refine bN D q t2 S ?_;refine qK (R _) (N _ _) L ?_;intro w2 X w E W;have x2:=w.valOf;have U:=A.resVal;have T:=w.resVal;simp only[Rg.resVal]at U T;refine bN S x2 U T ?_;have o: ∀op,di (e.occ op) 32=e.sup op:=fun op=>by simp[Expr.sup,m]
  have Oz:=A.keep (y:=c+6) (h':=At (At h' Qi) X) aa (fun k j _=>E k aa);have f: ∀l:List ROp,l.length=6->addC c l=c+6:=fun l C=>by rw[nB];simp[C]
  refine⟨w3,w2,rfl,?_,?_,?_,fun k j=>⟨?_,QD k aa,W k aa⟩⟩
  ·rw[<- o 3,f _ rfl];exact Oz
  ·rw[<- o 2,f _ rfl];exact w.le aa
  ·rw[f _ rfl];omega
  ·rw[E k aa,F k aa];exact u k j
 ·have m:e.formed=false:=al m
  refine aJ H m ?_;have o: ∀op,e.sup op=[]:=fun op=>by simp[Expr.sup,m]
  rw[o,o];exact⟨_,_,rfl,.inl ⟨rfl,rfl⟩,.inl ⟨rfl,rfl⟩,cU (qJ _ _) (cU (qJ _ _) (qJ _ _)),fun k j=>⟨by rw[aq,ac aa],(fun i n h=>by cases h),(fun i n h=>by cases h)⟩⟩
end Rg
end
