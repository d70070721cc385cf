/- Part of the proof of laws of relyguardlaw36. No condition. -/
import Derived.Test.YtaiokglcgiemnaaGreatDoorEartAK
import Derived.Test.YtaiokglcgiemnaaGreatDoorEartAJ
set_option linter.unusedSimpArgs false
set_option linter.unusedVariables false
set_option linter.defProp false
section
namespace Rg
open Go
theorem Jg (l:List Int) (n:Int) (d:0<=n):Den Γ G 72 [.t (ints l),vi n]=some (vi (atI l n)):=by
 refine aD (q:=?_)
 rcases a:l[n.toNat]? with _ | c
 ·have b: ¬n<(l.length:Int):=by rw[ox]at a;omega
  refine ar b ?_;simp[atI,List.getD,a]
 ·have b:n<(l.length:Int):=by have:=(zH.1 a).1;omega
  refine aY b d a ?_;simp[atI,List.getD,a]
theorem NF (b:Bool):Den Γ G 92 [vb b]=some (vi (if b then 1 else 0)):=by
 refine aD (q:=?_)
 cases b
 ·exact am
 ·exact am
theorem YL {a:Int} (c:0<=a/\a<2^62):IntKind.i64.wrap ((BitVec.ofInt IntKind.i64.bits (-1)^^^ BitVec.ofInt IntKind.i64.bits a).toNat)= -1-a:=by
 show IntKind.i64.wrap ((BitVec.ofInt 64 (-1)^^^ BitVec.ofInt 64 a).toNat)=_;have b:BitVec.ofInt 64 (-1)=BitVec.allOnes 64:=aI
 rw[b,BitVec.allOnes_xor,BitVec.toNat_not,nT c,IntKind.wrap_i64];omega
def mW (op a b c:Int):Int:=
 if op=4 then -1-a
 else if op=5 then((a.toNat&&& b.toNat:Nat):Int)
 else if op=6 then((a.toNat ||| b.toNat:Nat):Int)
 else if op=7 then((a.toNat^^^ b.toNat:Nat):Int)
 else if op=8 then a+b
 else if op=9 then a-b
 else if op=10 then a*b
 else if op=11 then(if a=b then 1 else 0)
 else if op=12 then(if a<b then 1 else 0)
 else if op=13 then(if a<=b then 1 else 0)
 else if op=14 then(if a=1 then b else c)
 else 0
set_option maxHeartbeats 2000000 in
theorem wD (op a b c:Int) (g:4<=op/\op<=14) (t:0<=a/\a<256) (e:0<=b/\b<256) (v:0<=c/\c<256):Den Γ G 73 [vi op,.agg [vi a,vi b,vi c]]=some (vi (mW op a b c)):=by
 refine aD (q:=?_)
 have q:=OQ (a:=a) (b:=b) aa aa;have k:=QQ (a:=a) (b:=b) aa aa;have o:=MG (a:=a) (b:=b) aa aa;have l:=YL (a:=a) aa
 have r:0<=a*b/\a*b<=65536:=⟨Int.mul_nonneg t.1 e.1,by
  have u:a*b<=256*b:=Fp aa e.1
  omega⟩
 have j:IntKind.i64.wrap (a+b)=a+b:=bq aa;have i:IntKind.i64.wrap (a+ -b)=a-b:=by rw[bq aa];omega
 have m:IntKind.i64.wrap (0-b)= -b:=by rw[bq aa];omega
 have p:IntKind.i64.wrap (a*b)=a*b:=bq aa;have n:=NF (decide (a=b));have d:=NF (decide (a<b));have s:IntKind.i64.signed=true:=rfl;have f:op=4\/op=5\/op=6\/op=7\/op=8\/op=9\/op=10\/op=11\/op=12\/op=13\/op=14:=aa
 clear r g;rcases f with rfl | rfl | rfl | rfl | rfl | rfl | rfl | rfl | rfl | rfl | rfl
 ·refine aG l s ?_;rfl
 ·refine ar q ?_;rfl
 ·refine ar k ?_;rfl
 ·refine ar o ?_;rfl
 ·refine ar j ?_;rfl
 ·refine aG i m ?_;rfl
 ·refine ar p ?_;rfl
 ·refine ar n ?_;simp[mW]
 ·refine ar d ?_;simp[mW]
 ·refine ar d ?_;refine bu ?_ ?_<;>intro h
  ·simp[mW,h]
  ·have:a<=b<->a<b:=aa
   simp[mW,this]
 ·refine ax ?_;refine bu ?_ ?_<;>intro h
  ·simp[mW]
  ·simp[mW,h]
theorem Ze (x m w:Int) (b:0<=w/\w<=62) (a:m=2^w.toNat-1):IntKind.i64.wrap ((BitVec.ofInt IntKind.i64.bits x&&& BitVec.ofInt IntKind.i64.bits m).toNat)=x % 2^w.toNat:=by
 subst a;exact us x w b
theorem kae {op w a b c:Int} (g:4<=op/\op<=14) (j:1<=w) (d:0<=opv op w a b c/\opv op w a b c<2^w.toNat) (i:0<=a):mW op a b c % 2^w.toNat=opv op w a b c:=by
 have h:=iG w.toNat;have e:op=4\/op=5\/op=6\/op=7\/op=8\/op=9\/op=10\/op=11\/op=12\/op=13\/op=14:=aa
 rcases e with rfl | rfl | rfl | rfl | rfl | rfl | rfl | rfl | rfl | rfl | rfl
 ·have f:(-1-a) % 2^w.toNat=(2^w.toNat-1-a) % 2^w.toNat:=by
   rw[show 2^w.toNat-1-a=(-1-a)+2^w.toNat from aa,Int.add_emod_right]
  show(-1-a) % 2^w.toNat=2^w.toNat-1-a;rw[f];exact md d.1 d.2
 ·exact md d.1 d.2
 ·exact md d.1 d.2
 ·exact md d.1 d.2
 ·rfl
 ·rfl
 ·rfl
 ·exact md d.1 d.2
 ·exact md d.1 d.2
 ·exact md d.1 d.2
 ·exact md d.1 d.2
theorem Zy {e:Expr} (h:cv e=true) (c: ¬e.op=1) (d: ¬e.op=2) (f: ¬e.op=3):4<=e.op/\e.op<=14:=by
 have:=mt h;rcases nA e.op with a | a | a | a | a | a | a | a | a | a | a | a | a | a | b
 all_goals(try omega)
 rw[pb b]at this;omega
set_option maxHeartbeats 4000000 in
theorem XO (j i:List Int) (d:Nat): ∀e:Expr,e.deep d=true->Den Γ G 56 [.t (.ip [ti e.op,ti e.w,ti e.n,.sl (e.kids.map Expr.enc)]),.t (ints j),.t (ints i)]=some (vi (e.ev j i)):=by
 induction d with
 | zero=>intro e h;simp[Expr.deep]at h
 | succ d J=>
   intro e h;have C:=kF h;have z:=sx C;have F:=pJ C;have K:=nP C
   refine aD (q:=?_)
   by_cases v:e.op=1
   ·refine ar v ?_;rw[Expr.ev_eq,ah v]
   ·have f: ∀m:Int,m=2^e.w.toNat-1->(∀x:Int,IntKind.i64.wrap ((BitVec.ofInt IntKind.i64.bits x&&& BitVec.ofInt IntKind.i64.bits m).toNat)=x % 2^e.w.toNat):=fun m N x=>Ze x m e.w aa N
    by_cases p:e.op=2
    ·have o:=Jg i e.n F;have u:e.ev j i=atI i e.n % 2^e.w.toNat:=by rw[Expr.ev_eq,ac v,ah p]
     rw[u]
     generalize e.w=w at *
     rcases p' z with rfl | rfl | rfl | rfl | rfl | rfl | rfl | rfl
     ·have g:=f 1 rfl;exact dp p o g
     ·have g:=f 3 rfl;exact dp p o g
     ·have g:=f 7 rfl;exact dp p o g
     ·have g:=f 15 rfl;exact dp p o g
     ·have g:=f 31 rfl;exact dp p o g
     ·have g:=f 63 rfl;exact dp p o g
     ·have g:=f 127 rfl;exact dp p o g
     ·have g:=f 255 rfl;exact dp p o g
    ·by_cases o:e.op=3
     ·have s:=Jg j e.n F;have u:e.ev j i=atI j e.n % 2^e.w.toNat:=by rw[Expr.ev_eq,ac v,ac p,ah o]
      rw[u]
      generalize e.w=w at *
      rcases p' z with rfl | rfl | rfl | rfl | rfl | rfl | rfl | rfl
      ·have g:=f 1 rfl;exact dp o s g
      ·have g:=f 3 rfl;exact dp o s g
      ·have g:=f 7 rfl;exact dp o s g
      ·have g:=f 15 rfl;exact dp o s g
      ·have g:=f 31 rfl;exact dp o s g
      ·have g:=f 63 rfl;exact dp o s g
      ·have g:=f 127 rfl;exact dp o s g
      ·have g:=f 255 rfl;exact dp o s g
     ·have A:=Zy C v p o;have E:=tP j i _ e h
      have u:e.ev j i=opv e.op e.w ((e.kids.map (Expr.ev j i)).getD 0 0) ((e.kids.map (Expr.ev j i)).getD 1 0) ((e.kids.map (Expr.ev j i)).getD 2 0):=by
       rw[Expr.ev_eq,ac v,ac p,ac o]
      have t: ∀k∈e.kids,Den Γ G 56 [.t (.ip [ti k.op,ti k.w,ti k.n,.sl (k.kids.map Expr.enc)]),.t (ints j),.t (ints i)]=some (vi (k.ev j i)):=fun k t=>J k (kD h t)
      have y:=(Q0 j i h).2.2.1;rw[u]at E;have q:=kae (a:=((e.kids.map (Expr.ev j i)).getD 0 0)) (b:=((e.kids.map (Expr.ev j i)).getD 1 0)) (c:=((e.kids.map (Expr.ev j i)).getD 2 0)) A z.1 E;rw[u];clear u E J;refine aY v p o ?_
      generalize l:e.kids=O at *
      rcases O with _ | ⟨a,_ | ⟨b,_ | ⟨c,_ | ⟨x,r⟩⟩⟩⟩
      ·exfalso;have I:=mt C;rw[l]at I;rcases A with⟨Q,R⟩
       have:1<=cS e.op:=by unfold cS;grind
       simp at I;omega
      ·have B:=t a af;have H:=y (a.ev j i) af;have n:=wD e.op (a.ev j i) 0 0 A aa aa aa;have q:=q (by simp only[aT,c8];omega);rw[<- q];clear q;refine bK ?_;refine aG l B ?_;refine bK ?_
       generalize e.w=w at *
       rcases p' z with rfl | rfl | rfl | rfl | rfl | rfl | rfl | rfl
       ·have g:=f 1 rfl;simp -dsimp only[go_sem,seval,l,n,g,aT,be,c8,dM,d5]
       ·have g:=f 3 rfl;simp -dsimp only[go_sem,seval,l,n,g,aT,be,c8,dM,d5]
       ·have g:=f 7 rfl;simp -dsimp only[go_sem,seval,l,n,g,aT,be,c8,dM,d5]
       ·have g:=f 15 rfl;simp -dsimp only[go_sem,seval,l,n,g,aT,be,c8,dM,d5]
       ·have g:=f 31 rfl;simp -dsimp only[go_sem,seval,l,n,g,aT,be,c8,dM,d5]
       ·have g:=f 63 rfl;simp -dsimp only[go_sem,seval,l,n,g,aT,be,c8,dM,d5]
       ·have g:=f 127 rfl;simp -dsimp only[go_sem,seval,l,n,g,aT,be,c8,dM,d5]
       ·have g:=f 255 rfl;simp -dsimp only[go_sem,seval,l,n,g,aT,be,c8,dM,d5]
      ·have B:=t a af;have H:=y (a.ev j i) af;have D:=t b af;have M:=y (b.ev j i) af;have n:=wD e.op (a.ev j i) (b.ev j i) 0 A aa aa aa;have q:=q (by simp only[aT,c8];omega);rw[<- q];clear q;refine bK ?_;refine aG l B ?_;refine bK ?_;refine aG l D ?_;refine bK ?_
       generalize e.w=w at *
       rcases p' z with rfl | rfl | rfl | rfl | rfl | rfl | rfl | rfl
       ·have g:=f 1 rfl;simp -dsimp only[go_sem,seval,l,n,g,aT,be,c8,dM,d5]
       ·have g:=f 3 rfl;simp -dsimp only[go_sem,seval,l,n,g,aT,be,c8,dM,d5]
       ·have g:=f 7 rfl;simp -dsimp only[go_sem,seval,l,n,g,aT,be,c8,dM,d5]
       ·have g:=f 15 rfl;simp -dsimp only[go_sem,seval,l,n,g,aT,be,c8,dM,d5]
       ·have g:=f 31 rfl;simp -dsimp only[go_sem,seval,l,n,g,aT,be,c8,dM,d5]
       ·have g:=f 63 rfl;simp -dsimp only[go_sem,seval,l,n,g,aT,be,c8,dM,d5]
       ·have g:=f 127 rfl;simp -dsimp only[go_sem,seval,l,n,g,aT,be,c8,dM,d5]
       ·have g:=f 255 rfl;simp -dsimp only[go_sem,seval,l,n,g,aT,be,c8,dM,d5]
      ·have B:=t a af;have H:=y (a.ev j i) af;have D:=t b af;have M:=y (b.ev j i) af;have L:=t c af;have P:=y (c.ev j i) af;have n:=wD e.op (a.ev j i) (b.ev j i) (c.ev j i) A aa aa aa;have q:=q (by simp only[aT,c8];omega);rw[<- q];clear q;refine bK ?_;refine aG l B ?_;refine bK ?_;refine aG l D ?_;refine bK ?_;refine aG l L ?_;refine bK ?_
       generalize e.w=w at *
       rcases p' z with rfl | rfl | rfl | rfl | rfl | rfl | rfl | rfl
       ·have g:=f 1 rfl;simp -dsimp only[go_sem,seval,l,n,g,aT,be,c8,dM,d5]
       ·have g:=f 3 rfl;simp -dsimp only[go_sem,seval,l,n,g,aT,be,c8,dM,d5]
       ·have g:=f 7 rfl;simp -dsimp only[go_sem,seval,l,n,g,aT,be,c8,dM,d5]
       ·have g:=f 15 rfl;simp -dsimp only[go_sem,seval,l,n,g,aT,be,c8,dM,d5]
       ·have g:=f 31 rfl;simp -dsimp only[go_sem,seval,l,n,g,aT,be,c8,dM,d5]
       ·have g:=f 63 rfl;simp -dsimp only[go_sem,seval,l,n,g,aT,be,c8,dM,d5]
       ·have g:=f 127 rfl;simp -dsimp only[go_sem,seval,l,n,g,aT,be,c8,dM,d5]
       ·have g:=f 255 rfl;simp -dsimp only[go_sem,seval,l,n,g,aT,be,c8,dM,d5]
      ·exfalso;simp at K
theorem pa (e:Expr) (c b:List Int):Den Γ G 27 [(.agg [.t (ti (e).op),.t (ti (e).w),.t (ti (e).n),.t (.sl ((e).kids.map (Expr.enc)))]),.t (ints c),.t (ints b)]=some (vi (e.eval c b)):=by
 refine aD (q:=?_)
 have d:=wW e
 by_cases a:e.formed=true
 ·have f:=XO c b 40 e (nv a);refine aY d f a ?_;simp[Expr.eval,a]
 ·have a:e.formed=false:=ak a
  refine aG d a ?_;simp[Expr.eval,a]
def inR (i n:Int):Bool:=decide (0<=i/\i<n)
theorem iC (i n:Int):Den Γ G 96 [vi i,vi n]=some (vb (inR i n)):=by
 refine aD (q:=ax ?_);refine bu ?_ ?_<;>intro h
 ·simp[inR];omega
 ·simp[inR];omega
theorem iH (i n:Int):Den Γ G 110 [vi i,vi n]=some (vb (inR i n)):=by
 refine aD (q:=ax ?_);refine bu ?_ ?_<;>intro h
 ·simp[inR];omega
 ·simp[inR];omega
def Expr.absent (e:Expr):Bool:=decide (e.op=0/\e.w=0/\e.n=0/\e.kids=[])
theorem WB (e:Expr):Den Γ G 98 [(.agg [.t (ti (e).op),.t (ti (e).w),.t (ti (e).n),.t (.sl ((e).kids.map (Expr.enc)))])]=some (vb e.absent):=by
 refine aD (q:=ax ?_)
 repeat'(refine bu ?_ ?_<;>intro h)
 all_goals(simp[Expr.absent, *])
theorem WA (e:Expr):Den Γ G 111 [(.agg [.t (ti (e).op),.t (ti (e).w),.t (ti (e).n),.t (.sl ((e).kids.map (Expr.enc)))])]=some (vb e.absent):=by
 refine aD (q:=ax ?_)
 repeat'(refine bu ?_ ?_<;>intro h)
 all_goals(simp[Expr.absent, *])
def Expr.one (e:Expr):Bool:=decide (e.op=1/\e.w=1/\e.n=1/\e.kids=[])
theorem kb3 (e:Expr):Den Γ G 166 [(.agg [.t (ti (e).op),.t (ti (e).w),.t (ti (e).n),.t (.sl ((e).kids.map (Expr.enc)))])]=some (vb e.one):=by
 refine aD (q:=ax ?_)
 repeat'(refine bu ?_ ?_<;>intro h)
 all_goals(simp[Expr.one, *])
def fS (l:List Int):Bool:=(List.range (l.length-1)).all fun i=>decide (l.getD i 0<l.getD (i+1) 0)
theorem Nf {l:List Int} {i:Nat} (h:i+1<l.length) (a: ¬l.getD i 0<l.getD (i+1) 0):fS l=false:=
 o8 (dN.2 aa) (nk a)
theorem KV {l:List Int} (h: ∀j,j+1<l.length->l.getD j 0<l.getD (j+1) 0):fS l=true:=by
 simp only[fS,zN,dN,aR];exact fun j a=>h j aa
theorem K0 (l:List Int) (q:l.length<2^50):Den Γ G 113 [.t (ints l)]=some (vb (fS l)):=by
 refine aD (q:=ax ?_);refine ba 1048572 (l.length-1) (fun i f=>(f 3).v=vi ((i+1:Nat):Int)/\ ∀j<i,l.getD j 0<l.getD (j+1) 0) rfl rfl ⟨am,af⟩ ?_;rintro i f u r bb hi ⟨e,a⟩;have p:=aC (i+1) aa;have m:IntKind.i64.wrap (((i+1:Nat):Int)-1)=(i:Int):=by rw[bq aa];omega
 refine ar e ?_;refine bu ?_ ?_<;>intro h
 ·have b:i+1<l.length:=aa
  have g:l[i+1]? =some l[i+1]:=zI b;have k:l[i]? =some l[i]:=zI aa;have c:l.getD (i+1) 0=l[i+1]:=by simp[List.getD,g]
  have d:l.getD i 0=l[i]:=by simp[List.getD,k]
  refine bw e g k m ?_;refine bu ?_ ?_<;>intro h
  ·have:fS l=false:=Nf b (by rw[c,d];omega);rw[this]
  ·refine⟨aa,al p,fun j o=> ?_⟩
   by_cases n:j=i
   ·subst n;rw[c,d];omega
   ·exact a j aa
 ·have:fS l=true:=KV fun j o=>a j aa
  rw[this]
theorem Ht (l:List Int) (q:l.length<2^50):Den Γ G 101 [.t (ints l)]=some (vb (fS l)):=by
 refine aD (q:=ax ?_);refine ba 1048572 (l.length-1) (fun i f=>(f 3).v=vi ((i+1:Nat):Int)/\ ∀j<i,l.getD j 0<l.getD (j+1) 0) rfl rfl ⟨am,af⟩ ?_;rintro i f u r bb hi ⟨e,a⟩;have p:=aC (i+1) aa;have m:IntKind.i64.wrap (((i+1:Nat):Int)-1)=(i:Int):=by rw[bq aa];omega
 refine ar e ?_;refine bu ?_ ?_<;>intro h
 ·have b:i+1<l.length:=aa
  have g:l[i+1]? =some l[i+1]:=zI b;have k:l[i]? =some l[i]:=zI aa;have c:l.getD (i+1) 0=l[i+1]:=by simp[List.getD,g]
  have d:l.getD i 0=l[i]:=by simp[List.getD,k]
  refine bw e g k m ?_;refine bu ?_ ?_<;>intro h
  ·have:fS l=false:=Nf b (by rw[c,d];omega);rw[this]
  ·refine⟨aa,al p,fun j o=> ?_⟩
   by_cases n:j=i
   ·subst n;rw[c,d];omega
   ·exact a j aa
 ·have:fS l=true:=KV fun j o=>a j aa
  rw[this]
def kO (b:ByteArray) (i:Nat):Bool:=match b[i]? with
 | some c=>decide (33<=c.toNat/\c.toNat<=126)
 | none=>false
def ec (b:ByteArray):Bool:=decide (1<=b.size/\b.size<=64)&&(List.range b.size).all (kO b)
theorem tM {b:ByteArray} {i:Nat} (h:i<b.size) (a:kO b i=false):ec b=false:=by
 rw[ec,o8 (dN.2 h) a,qW]
theorem P' {b:ByteArray} {i:Nat} (h:i<b.size): ∃c,b[i]? =some c:=⟨b[i],by simp[h]⟩
theorem tZ (b:ByteArray):Den Γ G 95 [.t (.str b)]=some (vb (ec b)):=by
 refine aD (q:=ax ?_);refine bu ?_ ?_<;>intro h
 ·have : ¬(1<=b.size/\b.size<=64):=aa
  simp[ec,this]
 ·refine bu ?_ ?_<;>intro h
  ·have : ¬(1<=b.size/\b.size<=64):=aa
   simp[ec,this]
  ·have g:1<=b.size/\b.size<=64:=aa
   refine ba 268419084 b.size (fun i f=>(f 14).v=vi i/\ ∀j<i,kO b j=true) rfl rfl ⟨am,af⟩ ?_;rintro i f u n bb hi ⟨e,d⟩;have m:=aC i aa;refine ar e ?_;refine bu ?_ ?_<;>intro h
   ·obtain⟨c,a⟩:=P' ‹i<b.size›;refine aG e a ?_
    repeat'(refine bu ?_ ?_<;>intro h)
    ·rw[tM ‹i<b.size› (by simp[kO,a];omega)]
    ·rw[tM ‹i<b.size› (by simp[kO,a];omega)]
    ·refine⟨aa,al m,fun j l=> ?_⟩
     by_cases k:j=i
     ·subst k;simp[kO,a];omega
     ·exact d j aa
   ·have:ec b=true:=by
     simp only[ec,g,ki,lx,ep,zN,dN];exact fun j l=>d j aa
    rw[this]
theorem uv (b:ByteArray) (m:b.size<2^50):Den Γ G 109 [.t (.str b)]=some (vb (ec b)):=by
 refine aD (q:=ax ?_);refine ba 1048572 b.size (fun i f=>(f 3).v=vi i/\ ∀j<i,kO b j=true) rfl rfl ⟨am,af⟩ ?_;rintro i f u n bb hi ⟨e,d⟩;have l:=aC i aa;refine ar e ?_;refine bu ?_ ?_<;>intro h
 ·obtain⟨c,a⟩:=P' ‹i<b.size›;refine aG e a ?_
  repeat'(refine bu ?_ ?_<;>intro h)
  ·rw[tM ‹i<b.size› (by simp[kO,a];omega)]
  ·rw[tM ‹i<b.size› (by simp[kO,a];omega)]
  ·refine⟨aa,al l,fun j k=> ?_⟩
   by_cases g:j=i
   ·subst g;simp[kO,a];omega
   ·exact d j aa
 ·have:(List.range b.size).all (kO b)=true:=by
   simp only[zN,dN];exact fun j k=>d j aa
  refine bu ?_ ?_<;>intro h
  ·simp only[ec,this,gj];apply sK.2;omega
  ·simp only[ec,this,gj];exact(nk aa).symm
namespace Expr
mutual
def lv:Expr->List Expr
 | .mk o w n []=>[.mk o w n []]
 | .mk o w n (k::ks)=>lv k++lvs ks
def lvs:List Expr->List Expr
 | []=>[]
 | e::r=>lv e++lvs r
end
theorem SV: ∀l:List Expr,lvs l=l.flatMap lv
 | []=>rfl
 | e::r=>by rw[lvs,SV r];rfl
theorem lv_eq (e:Expr):lv e=if e.kids=[]then [e]else e.kids.flatMap lv:=by
 obtain⟨o,w,n,a⟩:=e
 cases a with
 | nil=>simp[lv,Expr.kids]
 | cons k a=>simp[lv,SV,Expr.kids]
end Expr
def Sh (h:ae) (v:V) (e:Expr):Prop:=
 v= .t (.ip [ti e.op,ti e.w,ti e.n,.sl (e.kids.map Expr.enc)])\/
 ∃k a,v= .mp k 0 0/\h k=some (.rows 4 [[.t (ti e.op),.t (ti e.w),.t (ti e.n),.t (.sl (e.kids.map Expr.enc))]] a)
theorem KC {σ:Type} (g:Nat) (F:List V) (I:σ->ae->Prop) (step:σ->Expr->σ) (Q:Expr->Bool)
 (R: ∀s h n v x,I s h->x.kids=[]->Q x=true->Sh h v x-> ∃r h' d,DenR Γ G g (v::F) h n=some (r,h',d)/\I (step s x) h'):
 ∀(e:Expr) (v:V) (s:σ) (h:ae) (n:Nat),e.allE (fun x=>Q x&&decide (x.kids.length<=3))=true->I s h->(∀s h,I s h->Sh h v e)->
  ∃r h' d,DenR Γ G 76 [v,.fn g [] F] h n=some (r,h',d)/\I (e.lv.foldl step s) h':=by
 intro e
 induction e using Expr.ind with
 | _ e P=>
 intro v s H n z o t;have M:=Expr.allE_self z;simp only[zF,aR]at M
 refine bM (q:=?_)
 by_cases c:e.kids=[]
 ·have K:=t s H o;have B:e.lv=[e]:=by rw[Expr.lv_eq,ah c]
  rw[B];have J: ∀n,∃r h' d,DenR Γ G g (v::F) H n=some (r,h',d)/\I (step s e) h':=fun n=>R s H n v e o c M.1 K
  rcases K with rfl | ⟨k,S,rfl,w⟩
  ·simp only[c,be]at J;refine ar c ?_;refine bf (J _) ?_;intro r h' d a;refine ar c ?_;refine bK ?_;refine ax ?_;exact a
  ·refine aG c w ?_;refine bf (J _) ?_;intro r h' d a;have:=t _ _ a;rcases this with l | ⟨T,b,l,E⟩
   ·cases l
   ·cases l;refine aG c E ?_;refine bK ?_;refine ax ?_;exact a
 ·have B:e.lv=e.kids.flatMap Expr.lv:=by rw[Expr.lv_eq,ac c]
  have U: ¬e.kids.length=0:=ak c
  have N: ¬(e.kids.length:Int)=0:=aa
  rw[B];have L: ∀i,i=e.kids.length->(e.kids.take i).flatMap Expr.lv=e.kids.flatMap Expr.lv:=by rintro i rfl;rw[bg]
  rcases t s H o with rfl | ⟨k,S,rfl,w⟩
  ·refine ar N ?_;refine aS 2146959376 e.kids.length (fun i f m x=>(f 19).v=vi i/\I (((e.kids.take i).flatMap Expr.lv).foldl step s) m) rfl ⟨am,ak o⟩ ?_;rintro i f u m x bs hi ⟨j,a⟩;have A:=aC i aa;refine ar j ?_;refine bu ?_ ?_<;>intro h
   ·obtain⟨y,q,p⟩:=aw ‹i<e.kids.length›;refine aG j q ?_;refine bf (P y p _ _ _ _ (Expr.allE_kid z p) a (fun _ _ _=> .inl rfl)) ?_;intro r h' d C;refine ar j ?_;refine⟨aa,al A,?_⟩;rw[bc q,i7,iy];simpa using C
   ·rw[L i aa]at a;exact a
  ·refine aG N w ?_;refine aS 2146959376 e.kids.length (fun i f m x=>(f 19).v=vi i/\I (((e.kids.take i).flatMap Expr.lv).foldl step s) m) rfl ⟨am,ak o⟩ ?_;rintro i f u m x bs hi ⟨j,a⟩;have A:=aC i aa
   have D: ∃b,m k=some (.rows 4 [[.t (ti e.op),.t (ti e.w),.t (ti e.n),.t (.sl (e.kids.map Expr.enc))]] b):=by
    rcases t _ _ a with l | ⟨T,b,l,E⟩
    ·cases l
    ·cases l;exact⟨b,E⟩
   obtain⟨b,D⟩:=D;refine ar j ?_;refine bu ?_ ?_<;>intro h
   ·obtain⟨y,q,p⟩:=aw ‹i<e.kids.length›;refine aY j q D ?_;refine bf (P y p _ _ _ _ (Expr.allE_kid z p) a (fun _ _ _=> .inl rfl)) ?_;intro r h' d C;refine ar j ?_;refine⟨aa,al A,?_⟩;rw[bc q,i7,iy];simpa using C
   ·rw[L i aa]at a;exact a
end Rg
end
section
-- FULL
namespace Rg
open Go
def lcV (x:Expr):Bool:=decide (0<=x.n/\(x.kids=[]->x.op=1\/x.op=2\/x.op=3))
def IV (cells:List Cell) (pair:Bool) (a b c d:Nat) (e:Expr) (s:Bool) (h:ae):Prop:=
 h d=some (.rows 1 [[vb s]] false)/\h b=some (.rows 1 [[.t (.sl (cells.map Cell.enc))]] false)/\h c=some (.rows 1 [[vb pair]] false)/\
 h a=some (.rows 4 [[.t (ti e.op),.t (ti e.w),.t (ti e.n),.t (.sl (e.kids.map Expr.enc))]] false)
theorem XQ (cells:List Cell) (pair:Bool) (q l m b:Nat) (e:Expr) (F:l≠b) (I:m≠b) (E:q≠b) (s:Bool) (H:ae) (n:Nat) (v:V) (x:Expr)
 (J:IV cells pair q l m b e s H) (K:x.kids=[]) (A:lcV x=true) (B:Sh H v x):
 ∃r h' L,DenR Γ G 136 [v,.mp l 0 0,.mp m 0 0,.mp b 0 0] H n=some (r,h',L)/\IV cells pair q l m b e (s&&dB cells pair x) h':=by
 obtain⟨p,i,j,C⟩:=J;simp only[lcV,aR]at A;obtain⟨z,g⟩:=A;have g:=g K
 refine bM (q:=?_)
 have d: ∀h',h'=H->dB cells pair x=true->IV cells pair q l m b e (s&&dB cells pair x) h':=fun h' w y=>by
  rw[y,gj,w];exact⟨p,i,j,C⟩
 have t: ∀h',h'=updC H b (some (.rows 1 [[vb false]] false))->dB cells pair x=false->IV cells pair q l m b e (s&&dB cells pair x) h':=fun h' w y=>by
  rw[y,qW,w];refine⟨by simp[aq],by simp[aq,F,i],by simp[aq,I,j],by simp[aq,E,C]⟩
 rcases f:cells[x.n.toNat]? with _ | c
 ·have o:x.n>=(cells.length:Int):=by rw[ox]at f;omega
  rcases B with rfl | ⟨k,D,rfl,u⟩
  ·rcases g with a | a | a
   all_goals(
    refine Vc p i j a o ?_
    repeat'(refine qT ?_ ?_<;>intro h<;>try exact⟨⟩<;>try exact h.elim)
    all_goals(first | exact t _ mL (by simp[dB,a,f]) | exact d _ rfl (by simp[dB,a,f])))
  ·rcases g with a | a | a
   all_goals(
    refine Vb p i j a o u ?_
    repeat'(refine qT ?_ ?_<;>intro h<;>try exact⟨⟩<;>try exact h.elim)
    all_goals(first | exact t _ mL (by simp[dB,a,f]) | exact d _ rfl (by simp[dB,a,f])))
 ·have o: ¬x.n>=(cells.length:Int):=by
   have:=(zH.1 f).1;omega
  rcases B with rfl | ⟨k,D,rfl,u⟩
  ·rcases g with a | a | a
   all_goals(
    simp -dsimp [go_sem,p,i,j,a,o,f,z]
    repeat'(refine qT ?_ ?_<;>intro h)
    all_goals(first | exact t _ mL (by simp[dB, *]) | exact d _ rfl (by simp[dB, *])))
  ·rcases g with a | a | a
   all_goals(
    simp -dsimp [go_sem,p,i,j,a,o,f,z,u]
    repeat'(refine qT ?_ ?_<;>intro h)
    all_goals(first | exact t _ mL (by simp[dB, *]) | exact d _ rfl (by simp[dB, *])))
theorem Nt (p:Expr->Bool): ∀(l:List Expr) (s:Bool),l.foldl (fun s x=>s&&p x) s=(s&&l.all p)
 | [],s=>af
 | x::l,s=>by simp only[jl,Nt p l,eo,zW]
theorem SW {p:Expr->Bool} (hp: ∀x:Expr,x.kids≠[]->cv x=true->p x=true) (d:Nat): ∀e:Expr,e.deep d=true->e.allE p=e.lv.all p:=by
 induction d with
 | zero=>intro e h;simp[Expr.deep]at h
 | succ d g=>
   intro e h;rw[Expr.allE_eq,Expr.lv_eq];split
   ·rename_i a;rw[a];simp
   ·rename_i a;rw[hp e a (kF h),ep];have : ∀k∈e.kids,k.allE p=k.lv.all p:=fun k a=>g k (kD h a)
    generalize e.kids=c at this
    induction c with
    | nil=>rfl
    | cons k c b=>
      simp only[eo,dq,np];rw[this k af,b (fun x f=>this x (by simp[f]))]
theorem kb2 {x:Expr} (b:x.kids≠[]) (h:cv x=true):4<=x.op:=by
 have a:=mt h;have:0<x.kids.length:=wg.2 b;unfold cS at a;grind
theorem JQ (cells:List Cell) (pair:Bool) {x:Expr} (a:x.kids≠[]) (h:cv x=true):dB cells pair x=true:=by
 have:=kb2 a h;unfold dB;rw[ac aa,ac aa]
theorem kbv (d:Nat): ∀e:Expr,e.deep d=true->e.allE (fun x=>lcV x&&decide (x.kids.length<=3))=true:=by
 induction d with
 | zero=>intro e h;simp[Expr.deep]at h
 | succ d i=>
   intro e h;rw[Expr.allE_eq];have f:=kF h;simp only[zF,zN,aR,lcV];refine⟨⟨⟨pJ f,fun c=> ?_⟩,nP f⟩,fun k c=> ?_⟩
   ·have b:=mt f;rw[c]at b;rcases nA e.op with a | a | a | a | a | a | a | a | a | a | a | a | a | a | g
    ·exact .inl a
    ·exact .inr (.inl a)
    ·exact .inr (.inr a)
    all_goals(try(rw[a]at b;simp[cS]at b;done))
    rw[pb g]at b;simp at b
   ·have:=i k (kD h c);simpa only[lcV]using this
theorem t_ (e:Expr) (cells:List Cell) (pair:Bool):Den Γ G 107 [(.agg [.t (ti (e).op),.t (ti (e).w),.t (ti (e).n),.t (.sl ((e).kids.map (Expr.enc)))]),.t (.sl (cells.map Cell.enc)),vb pair]=some (vb (e.valid cells pair)):=by
 refine aD (q:=?_)
 have b:=wW e
 by_cases a:e.formed=true
 ·refine sF b a ?_;have c:=nv a;refine bf (KC 136 _ (IV cells pair 0 1 2 7 e) (fun s x=>s&&dB cells pair x) lcV (XQ cells pair 0 1 2 7 e aI aI aI) e _ true _ _ (kbv 40 e c) ⟨mL,mL,mL,mL⟩ (fun s h d=> .inr ⟨0,false,rfl,d.2.2.2⟩)) ?_;rintro r h' g ⟨f,_⟩;refine jS f ?_;rw[Nt,Expr.valid,a,SW (fun x=>JQ cells pair) 40 e c]
 ·have a:e.formed=false:=ak a
  refine sF b a ?_;simp[Expr.valid,a]
end Rg
end
section
-- APPS
namespace Rg
open Go
def Own (h:ae) (x:Nat) (v:V) (a:Nat) (rows:List (List V)):Prop:=
 (v= .t .nils/\rows=[])\/ ∃k,v= .ms k 0 rows.length/\k<x/\h k=some (.rows a rows false)
theorem tD {α β:Type} (f:α->Option β): ∀(l:List α) (r:List β),(∀i:Nat,∀a,l[i]? =some a-> ∃b,r[i]? =some b/\f a=some b)->l.length=r.length->l.mapM f=some r
 | [],[],_,_=>rfl
 | [],_::_,_,h=>by simp at h
 | _::_,[],_,h=>by simp at h
 | a::l,b::r,h,hl=>by
   rw[cM];obtain⟨b',c,g⟩:=h 0 a rfl;simp at c;subst c;rw[g,tD f l r (fun i d e=>by simpa using h (i+1) d (ak e)) (ak hl)];rfl
theorem mu (h:ae) (d:Nat) (es:List (List T)) (l: ∀e∈es,∀t∈e,T.norm t=t):
 (es.map (·.map V.t)).mapM (fun row=>row.mapM (toT h d))=some es:=by
 refine tD _ _ _ (fun i a c=> ?_) af;rw[zJ]at c
 cases g:es[i]? with
 | none=>rw[g]at c;simp at c
 | some e=>
   rw[g]at c;simp only[cU,zA]at c;subst c;refine⟨e,rfl,?_⟩;refine tD _ _ _ (fun j b f=> ?_) af;rw[zJ]at f
   cases k:e[j]? with
   | none=>rw[k]at f;simp at f
   | some t=>
     rw[k]at f;simp only[cU,zA]at f;subst f;have:=l e (zL g) t (zL k);refine⟨t,rfl,?_⟩;cases d<;>simp[toT,this]
theorem jy {h:ae} {x:Nat} {v:V} {f:Nat} {es:List (List T)} (d:Own h x v f (es.map (·.map V.t))) (c: ∀e∈es,∀t∈e,T.norm t=t):
 toT h 1000 v=some (.sl es):=by
 rcases d with⟨rfl,a⟩ | ⟨k,rfl,g,b⟩
 ·have:es=[]:=ak a
  subst this;rfl
 ·rw[toT,b];simp only[rd,gq,aA,aU,ie,bg,zC,zD];rw[mu h 999 es c];rfl
theorem iB (l:List Int): ∀e∈(l.map fun n=>[ti n]),∀t∈e,T.norm t=t:=by
 intro e b t a;obtain⟨n,_,rfl⟩:=df.1 b;simp at a;subst a;rfl
def da (l:List Bool) (i:Nat):List Int:=((List.range i).filter fun j=>l.getD j false).map fun j:Nat=>(j:Int)
theorem tp (l:List Bool) (i:Nat):da l (i+1)=da l i++if l.getD i false then [(i:Int)]else []:=by
 unfold da;rw[sP,ix,dZ];cases h:l.getD i false<;>simp only[oZ,rt,h,aU,aX,zG,be,aT]
def ai (l:List Int):List (List V):=(l.map fun n=>[ti n]).map (·.map V.t)
theorem aB (l:List Int):(ai l).length=l.length:=by simp[ai]
theorem fw (l:List Int) (n:Int):ai (l++[n])=ai l++[[vi n]]:=by simp[ai]
theorem eu (l:List Int):((ai l).all fun r=>decide (r.length=1))=true:=by simp[ai]
theorem yz {k x:Nat} (h:k<x) (j:Nat): ¬k=x+j:=aa
theorem yQ {k x:Nat} (h:k<x) (j a:Nat): ¬k=x+j+a:=aa
theorem R_ {k x:Nat} (h:k<x) (j b a:Nat): ¬k=x+j+b+a:=aa
theorem Kh (l:List Bool) (B:l.length<2^20):Den Γ G 159 [.t (.sl (l.map fun b=>[tb b]))]=some (.t (ints (da l l.length))):=by
 refine aD (q:=ar @aZ.eq_1 ?_);refine aS 524280 l.length (fun i f h x=>(f 4).v=vi i/\Own h x (f 3).v 1 (ai (da l i))) rfl ⟨al @aZ.eq_1,.inl ⟨al @aZ.eq_1,rfl⟩⟩ ?_;rintro i f u H x bs hi ⟨m,g⟩;have o:=aC i aa;refine aG @aZ.eq_1 m ?_;refine vt @aZ.eq_1 ?_ ?_<;>intro h
 ·have q:l[i]? =some l[i]:=zI aa;have p:l.getD i false=l[i]:=by simp[List.getD,q]
  refine aY @aZ.eq_1 m q ?_;refine vt @aZ.eq_1 ?_ ?_<;>intro h
  ·have j:da l (i+1)=da l i++[(i:Int)]:=by rw[tp,p,h];rfl
   have A:(da l i).length<=i:=by
    unfold da;rw[cL];exact cQ (kf _ _) af
   rcases g with⟨a,c⟩ | ⟨k,a,e,d⟩
   ·have s:da l i=[]:=by simpa[ai]using c
    refine aY @aZ.eq_1 m a ?_;refine⟨aa,a_ @aZ.eq_1 o,?_⟩;refine bw @aZ.eq_1 j s @ai.eq_1 ?_;exact .inr ⟨_,rfl,aa,al @aZ.eq_1⟩
   ·have v:=yz e;have w:=yQ e;have y:=R_ e;have t:=eu (da l i);have z:=aB (da l i);have r:(ai (da l i)).length<=4294967295:=aa
    simp -dsimp only[go_sem,seval,aZ,m,a,d,v,w,y,t,aA,bg,r];refine⟨aa,a_ @aZ.eq_1 o,?_⟩;refine aY @aZ.eq_1 j @fw ?_;exact .inr ⟨_,(by rw[zM];rfl),aa,al @aZ.eq_1⟩
  ·have j:da l (i+1)=da l i:=by rw[tp,p,h];simp
   refine⟨aa,a_ @aZ.eq_1 o,?_⟩;refine aG @aZ.eq_1 j ?_;rcases g with⟨a,c⟩ | ⟨k,a,e,d⟩
   ·exact .inl ⟨a,c⟩
   ·exact .inr ⟨k,a,aa,d⟩
 ·have:i=l.length:=aa
  subst this;have n:=jy g (iB _);rcases g with⟨a,c⟩ | ⟨k,a,e,d⟩
  ·refine aG @aZ.eq_1 a ?_;simpa[ai]using c
  ·refine aG @aZ.eq_1 a ?_;rw[a,toT]at n;simp only[d,rd,gq,aA,aU,ie,bg,zC,zD]at n⊢;rw[n];rfl
end Rg
end
section
-- FULL
namespace Rg
open Go
theorem tJ (p:Prog) (c t:Int) (x:Cell) (a:0<=c) (b:p.cells[c.toNat]? =some x):Den Γ G 154 [(zP p),vi c,vi t]=some (vb (decide (x.thread=t))):=by
 exact aD (q:=zV a b)
theorem wu (p:Prog) (c:Int) (x:Cell) (a:0<=c) (b:p.cells[c.toNat]? =some x):Den Γ G 155 [(zP p),vi c]=some (vb (decide (x.thread= -1))):=by
 exact aD (q:=zV a b)
theorem sC (p:Prog) (c:Int) (x:Cell) (a:0<=c) (b:p.cells[c.toNat]? =some x):Den Γ G 163 [(zP p),vi c]=some (vb x.ghost):=by
 exact aD (q:=zV a b)
def br (p:Prog) (t c:Int):Bool:=decide (0<=c)&&match p.cells[c.toNat]? with
 | some x=>decide (x.thread=t)
 | none=>false
theorem fV {p:Prog} {c:Int} (h:inR c p.cells.length=true):0<=c/\ ∃x,p.cells[c.toNat]? =some x:=by
 simp only[inR,aR]at h;exact⟨h.1,_,zI aa⟩
theorem tC {p:Prog} {t c:Int} (h:inR c p.cells.length=false):br p t c=false:=by
 simp only[inR,ek]at h;unfold br
 by_cases a:0<=c
 ·have:p.cells[c.toNat]? =none:=ox.2 aa;simp[this]
 ·simp[a]
theorem ra (p:Prog) (c:Int):Den Γ G 100 [(zP p),vi c]=some (vb (br p (-1) c)):=by
 refine aD (q:=?_)
 have d:=iC c p.cells.length;refine jS d ?_;refine qT ?_ ?_<;>intro h
 ·obtain⟨a,x,b⟩:=fV h;refine zR a b h ?_;simp[br,a,b]
 ·rw[tC h]
theorem tK (p:Prog) (t c:Int):Den Γ G 146 [vi c,.t (.ip [.sl (p.cells.map Cell.enc),.sl (p.modules.map Contract.enc),.sl (p.locks.map Lock.enc),.sl (p.threads.map Thread.enc)]),.t (.ip [ti t])]=some (vb (br p t c)):=by
 refine aD (q:=?_)
 have d:=iC c p.cells.length;refine jS d ?_;refine qT ?_ ?_<;>intro h
 ·obtain⟨a,x,b⟩:=fV h;refine zR a b h ?_;simp[br,a,b]
 ·rw[tC h]
theorem xJ (h:ae): ∀c:List T,(∀t∈c,T.norm t=t)->(c.map V.t).mapM (toT1 h)=some (c.map V.t)
 | [],_=>rfl
 | t::c,hn=>by
   rw[aT,cM,xJ h c fun x a=>hn x (by simp[a])];have:toT1 h (.t t)=some (.t t):=by simp[toT1,toT,hn t af]
   rw[this];rfl
theorem NP (c:List T):(c.map V.t).all V.tree=true:=by
 rw[zN];intro v a;obtain⟨t,_,rfl⟩:=df.1 a;rfl
def IsP (g:Nat) (c:List T) (P:Int->Bool):Prop:=(∀t∈c,T.norm t=t)/\ ∀n:Int,Den Γ G g (vi n::c.map V.t)=some (vb (P n))
def IsF (F:T) (P:Int->Bool):Prop:=T.norm F=F/\ ∃g a b,cA (.t F)=some (g,a,b)/\(∀(h:ae) (n:Int),(a++[vi n]++b).mapM (toT1 h)=some (a++[vi n]++b))/\
 (∀n:Int,(a++[vi n]++b).all V.tree=true)/\ ∀n:Int,Den Γ G g (a++[vi n]++b)=some (vb (P n))
theorem yu {v:V} {g:Nat} {a b:List V} (c:cA v=some (g,a,b)) (K:Nat->List V->List V->Prop) (w:WK K):fnK (some v) K w=K g a b:=by
 simp only[fnK,c]
theorem IsP.isF {g:Nat} {c:List T} {P:Int->Bool} (h:IsP g c P):IsF (.fn g [] c) P:=by
 refine⟨rfl,g,[],c.map V.t,rfl,fun a n=> ?_,fun n=> ?_,fun n=> ?_⟩
 ·have:=xJ a (ti n::c) (fun t b=>(cq.1 b).elim (fun e=>by rw[e];rfl) (h.1 t));exact this
 ·exact NP (ti n::c)
 ·exact h.2 n
theorem kcn {g:Nat} {c:List T} {P:Int->Bool} (d: ∀t∈c,T.norm t=t) (a: ∀n:Int,Den Γ G g [.agg (c.map V.t),vi n]=some (vb (P n))):IsF (.fa g c) P:=by
 refine⟨rfl,g,[.agg (c.map V.t)],[],rfl,fun b n=> ?_,fun n=> ?_,fun n=>a n⟩
 ·clear a
  have e:toT1 b (.agg (c.map V.t))=some (.agg (c.map V.t)):=by
   have:(c.map V.t).mapM (toT b 1000)=some c:=by
    induction c with
    | nil=>rfl
    | cons t c h=>rw[aT,cM,h fun x f=>d x (by simp[f])];simp[toT,d t af]
   simp[toT1,this]
  rw[bQ,i8,eY,cM,cM,e];rfl
 ·simp[V.tree]
theorem ZD (F:T) (P:Int->Bool) (p:IsF F P) (l:List Int) (A:l.length<2^50):
 Den Γ G 145 [.t (ints l),.t F]=some (vi (match l.findIdx? P with | some i=>i | none=> -1)):=by
 refine aD (q:=?_)
 obtain⟨_,g,a,b,s,t,q,r⟩:=p;have o:=yu s;refine ax ?_;refine ba 524080 l.length (fun i f=>(f 8).v=vi i/\ ∀x∈l.take i,P x=false) rfl rfl ⟨am,af⟩ ?_;rintro i f u B bb hi ⟨m,d⟩;have v:=aC i aa;refine ar m ?_;refine bu ?_ ?_<;>intro h
 ·obtain⟨y,e,w⟩:=aw ‹i<l.length›;refine cw m e o t q r ?_;refine bu ?_ ?_<;>intro h
  ·have:l.findIdx? P=some i:=by
    rw[rr];have k:i<l.length:= ‹i<l.length›;have n:l[i]=y:=by rw[zI k]at e;exact o6 e
    refine⟨k,by rw[n];exact h,fun j z=> ?_⟩;have:=d l[j] (by rw[E'];exact⟨j,aa,rfl⟩);simp[this]
   rw[this]
  ·refine⟨aa,al v,fun x c=> ?_⟩;rw[bc e]at c;rcases cx.1 c with c | c
   ·exact d x c
   ·rw[bD.1 c];exact h
 ·have:i=l.length:=aa
  subst this;rw[bg]at d;have:l.findIdx? P=none:=by rw[sX];exact d
  rw[this]
theorem Wu (F:T) (P:Int->Bool) (a:IsF F P) (l:List Int) (d:l.length<2^50):
 Den Γ G 131 [.t (ints l),.t F]=some (vb (l.any P)):=by
 refine aD (q:=?_)
 have c:=ZD F P a l d;have b:=a.1;simp only[T.norm]at b;refine aG c b ?_
 cases h:l.findIdx? P with
 | none=>
   rw[sX]at h;have:l.any P=false:=by rw[List.any_eq_false];intro x e;simp[h x e]
   simp[this]
 | some i=>
   have:l.any P=true:=by
    rw[rr]at h;obtain⟨hi,hp,_⟩:=h;rw[lf];exact⟨_,ma hi,hp⟩
   simp[this]
theorem Wy (F:T) (P:Int->Bool) (d:IsF F P):IsP 132 [.ip [F]] (fun n=> !P n):=by
 refine⟨by simp[T.norm],fun n=> ?_⟩
 refine aD (q:=?_)
 obtain⟨_,g,a,b,h,i,e,f⟩:=d;have c:=yu h;exact jR c i e f
theorem rl (F:T) (P:Int->Bool) (a:IsF F P) (l:List Int) (d:l.length<2^50):
 Den Γ G 102 [.t (ints l),.t F]=some (vb (l.all P)):=by
 refine aD (q:=?_)
 have b:=a.1;simp only[T.norm]at b;have c:=Wu _ _ (Wy F P a).isF l d;refine aG c b ?_;rw[List.all_eq_not_any_not]
end Rg
end
section
-- FULL
namespace Rg
open Go
def bA (p:Prog):T:=.ip [.sl (p.cells.map Cell.enc),.sl (p.modules.map Contract.enc),.sl (p.locks.map Lock.enc),.sl (p.threads.map Thread.enc)]
theorem UG (p:Prog) (t:Int):IsP 146 [bA p,.ip [ti t]] (br p t):=⟨by simp[bA,T.norm],fun n=>tK p t n⟩
theorem uF (p:Prog) (t:Int):Den Γ G 133 [(zP p),vi t]=some (.t (.fn 146 [] [bA p,.ip [ti t]])):=by
 refine aD (q:=EP ?_);rfl
def eW (p:Prog) (t c:Int):Bool:=br p (-1) c||br p t c
theorem wn (p:Prog) (t:Int):Den Γ G 104 [(zP p),vi t]=some (.t (.fn 134 [] [bA p,.ip [.fn 146 [] [bA p,.ip [ti t]]]])):=by
 refine aD (q:=?_)
 have a:=uF p t;refine jS a ?_;rfl
theorem NB (p:Prog) (t:Int):IsP 134 [bA p,.ip [.fn 146 [] [bA p,.ip [ti t]]]] (eW p t):=by
 refine⟨by simp[bA,T.norm],fun n=> ?_⟩
 refine aD (q:=?_)
 have a:=ra p n;have b:=tK p t n;refine sF a @bA.eq_1 ?_;refine E4 @bA.eq_1 ?_ ?_<;>intro h
 ·simp[eW,h]
 ·simp[eW,h]
end Rg
end
section
-- APPS
namespace Rg
open Go
theorem kbZ {k x:Nat} (h:k<x) (a b c d:Nat): ¬k=x+a+b+c+d:=aa
theorem Ih (l:List Bool) (n:l.length=32): ∃r h' s,DenR Γ G 78 [.agg (l.map fun b=>vb b)] (fun _=>none) 0=some (r,h',s)/\Own h' s r 1 (ai (da l 32)):=by
 refine bM (q:=?_)
 have L:(l.map fun b=>vb b).length=32:=by simp[n]
 have y:List.take 32 (l.map fun b=>vb b)=l.map fun b=>vb b:=c7 aa
 refine aY @aZ.eq_1 n y ?_;refine aS 131000 32 (fun i f h x=>(f 7).v=vi i/\Own h x (f 3).v 1 (ai (da l i))) rfl ⟨al @aZ.eq_1,.inl ⟨al @aZ.eq_1,rfl⟩⟩ ?_;rintro i f u H x bs hi ⟨j,m⟩;have o:=aC i aa;have K:(0:Int)<=(i:Int):=aa
 refine aG @aZ.eq_1 j ?_;refine vt @aZ.eq_1 ?_ ?_<;>intro h
 ·have I:i<32:=aa
  have q:l[i]? =some (l[i]' aa):=zI aa
  generalize B:l[i]' aa=b at q
  have p:l.getD i false=b:=by simp[List.getD,q]
  have A:List.take 1 (List.drop (i*1) (l.map fun b=>vb b))=[vb b]:=by
   rw[jA,<- List.map_drop,<- v7]
   have:(l.drop i).take 1=[b]:=by
    rw[vP aa,B];rfl
   rw[this];rfl
  have z:i*1<=31:=aa
  refine bG @aZ.eq_1 j A n z ?_;refine vt @aZ.eq_1 ?_ ?_<;>intro h
  ·have g:da l (i+1)=da l i++[(i:Int)]:=by rw[tp,p,h];rfl
   have M:(da l i).length<=i:=by
    unfold da;rw[cL];exact cQ (kf _ _) af
   rcases m with⟨a,d⟩ | ⟨k,a,c,e⟩
   ·have v:da l i=[]:=by simpa[ai]using d
    refine aY @aZ.eq_1 j a ?_;refine⟨aa,a_ @aZ.eq_1 o,?_⟩;refine bw @aZ.eq_1 g v @ai.eq_1 ?_;exact .inr ⟨_,rfl,aa,al @aZ.eq_1⟩
   ·have C:=yz c;have D:=yQ c;have E:=R_ c;have F:=kbZ c;have w:=eu (da l i);have J:=aB (da l i);have t:(ai (da l i)).length<=4294967295:=aa
    simp -dsimp only[go_sem,seval,aZ,j,a,e,C,D,E,F,w,aA,bg,t];refine⟨aa,a_ @aZ.eq_1 o,?_⟩;refine aY @aZ.eq_1 g @fw ?_;exact .inr ⟨_,(by rw[zM];rfl),aa,al @aZ.eq_1⟩
  ·have g:da l (i+1)=da l i:=by rw[tp,p,h];simp
   refine⟨aa,a_ @aZ.eq_1 o,?_⟩;refine aG @aZ.eq_1 g ?_;rcases m with⟨a,d⟩ | ⟨k,a,c,e⟩
   ·exact .inl ⟨a,d⟩
   ·exact .inr ⟨k,a,aa,e⟩
 ·have:i=32:=aa
  subst this;rcases m with⟨a,d⟩ | ⟨k,a,c,e⟩
  ·refine aG @aZ.eq_1 a ?_;exact .inl ⟨rfl,d⟩
  ·refine aG @aZ.eq_1 a ?_;exact .inr ⟨k,rfl,fp c (by first | omega | exact cQ (qC _ _) (qC _ _) | exact qC _ _),e⟩
def vbs (l:List Bool):List V:=l.map fun b=>vb b
theorem Sy {l:List Bool} {i:Nat} (h:i<l.length):wr (vbs l) i [vb true]=some (vbs (l.set i true)):=by
 unfold wr vbs;rw[ah (by simp;omega)]
 congr 1
 rw[oJ,List.set_eq_take_append_cons_drop,ah (ak h)];simp
def bT (op:Int) (s:List Bool) (x:Expr):List Bool:=if x.op=op then s.set x.n.toNat true else s
theorem Z5 (op:Int) (s:List Bool) (x:Expr):(bT op s x).length=s.length:=by unfold bT;split<;>simp
def lcS (x:Expr):Bool:=decide (0<=x.n/\(x.kids=[]->x.op=1\/((x.op=2\/x.op=3)/\x.n<32)))
def IS (a b c:Nat) (e:Expr) (s:List Bool×List Bool) (h:ae):Prop:=
 s.1.length=32/\s.2.length=32/\h b=some (.rows 32 [vbs s.1] false)/\h c=some (.rows 32 [vbs s.2] false)/\
 h a=some (.rows 4 [[.t (ti e.op),.t (ti e.w),.t (ti e.n),.t (.sl (e.kids.map Expr.enc))]] false)
theorem WI (E m o:Nat) (e:Expr) (A:m≠o) (K:E≠m) (L:E≠o) (s:List Bool×List Bool) (H:ae) (n:Nat) (v:V) (x:Expr)
 (S:IS E m o e s H) (T:x.kids=[]) (M:lcS x=true) (U:Sh H v x):
 ∃r h' W,DenR Γ G 77 [v,.mp m 0 0,.mp o 0 0] H n=some (r,h',W)/\IS E m o e (bT 3 s.1 x,bT 2 s.2 x) h'/\ ∀k,k≠m->k≠o->h' k=H k:=by
 obtain⟨c,d,g,j,f⟩:=S;simp only[lcS,aR]at M;obtain⟨P,F⟩:=M;have F:=F T
 refine bM (q:=?_)
 have w: ∃C,v= .t (.ip [ti x.op,ti x.w,ti x.n,.sl (x.kids.map Expr.enc)])\/ ∃k,v= .mp k 0 0/\H k=some (.rows 4 [[.t (ti x.op),.t (ti x.w),.t (ti x.n),.t (.sl (x.kids.map Expr.enc))]] C):=by
  rcases U with h | ⟨k,C,Q,R⟩
  ·exact⟨false,.inl h⟩
  ·exact⟨C,.inr ⟨k,Q,R⟩⟩
 obtain⟨C,w⟩:=w;rcases F with a | ⟨a,N⟩
 ·have p:bT 3 s.1 x=s.1:=by simp[bT,a]
  have t:bT 2 s.2 x=s.2:=by simp[bT,a]
  rcases w with rfl | ⟨k,rfl,u⟩
  ·refine ar a ?_;rw[p,t];exact⟨⟨c,d,g,j,f⟩,fun _ _ _=>rfl⟩
  ·refine aG a u ?_;rw[p,t];exact⟨⟨c,d,g,j,f⟩,fun _ _ _=>rfl⟩
 ·have D:0<=x.n/\x.n<32:=⟨P,N⟩
  have X:x.n.toNat<32:=aa
  have I:(vbs s.1).length=32:=by simp[vbs,c]
  have J:(vbs s.2).length=32:=by simp[vbs,d]
  have B:x.n.toNat*1<=31:=aa
  have y:=Sy (l:=s.1) (i:=x.n.toNat) aa;have z:=Sy (l:=s.2) (i:=x.n.toNat) aa;unfold wr at y z;rw[ah (by rw[I];simp;omega)]at y;rw[ah (by rw[J];simp;omega)]at z;simp only[zA,d6,i6,gq,zQ,i8,eY]at y z;rcases a with a | a
  ·have p:bT 3 s.1 x=s.1:=by simp[bT,a]
   have t:bT 2 s.2 x=s.2.set x.n.toNat true:=by simp[bT,a]
   rw[p,t];rcases w with rfl | ⟨k,rfl,u⟩
   ·refine bG a D j J B ?_;refine⟨⟨c,by simp[d],a_ A g,?_,a_ L f⟩,fun q _ b=>al b⟩;simp -dsimp only[go_sem,seval,jA,zQ,z]
   ·refine cw a D j J B u ?_;refine⟨⟨c,by simp[d],a_ A g,?_,a_ L f⟩,fun q _ b=>al b⟩;simp -dsimp only[go_sem,seval,jA,zQ,z]
  ·have p:bT 3 s.1 x=s.1.set x.n.toNat true:=by simp[bT,a]
   have t:bT 2 s.2 x=s.2:=by simp[bT,a]
   rw[p,t];rcases w with rfl | ⟨k,rfl,u⟩
   ·refine bG a D g I B ?_;refine⟨⟨by simp[c],d,?_,a_ (bW A) j,a_ K f⟩,fun q b _=>al b⟩;simp -dsimp only[go_sem,seval,jA,zQ,y]
   ·refine cw a D g I B u ?_;refine⟨⟨by simp[c],d,?_,a_ (bW A) j,a_ K f⟩,fun q b _=>al b⟩;simp -dsimp only[go_sem,seval,jA,zQ,y]
end Rg
end
section
-- FULL
namespace Rg
open Go
theorem xO {α β γ:Type} (f:α->γ->α) (g:β->γ->β): ∀(l:List γ) (a:α) (b:β),l.foldl (fun s x=>(f s.1 x,g s.2 x)) (a,b)=(l.foldl f a,l.foldl g b)
 | [],a,b=>rfl
 | x::l,a,b=>by simp only[jl];exact xO f g l _ _
def Expr.occ (op:Int) (e:Expr):List Bool:=e.lv.foldl (bT op) (List.replicate 32 false)
def Expr.sup (op:Int) (e:Expr):List Int:=if e.formed then da (e.occ op) 32 else []
theorem uH (op:Int) (e:Expr):(e.occ op).length=32:=by
 unfold Expr.occ
 generalize e.lv=l
 have : ∀(l:List Expr) (s:List Bool),(l.foldl (bT op) s).length=s.length:=by
  intro l
  induction l with
  | nil=>intro s;rfl
  | cons x l a=>intro s;rw[jl,a,Z5]
 rw[this];simp
theorem QF (d:Nat): ∀e:Expr,e.deep d=true->e.allE (fun x=>lcS x&&decide (x.kids.length<=3))=true:=by
 induction d with
 | zero=>intro e h;simp[Expr.deep]at h
 | succ d j=>
   intro e h;rw[Expr.allE_eq];have b:=kF h;simp only[zF,zN,aR,lcS];refine⟨⟨⟨pJ b,fun f=> ?_⟩,nP b⟩,fun k f=> ?_⟩
   ·have c:=mt b;have g:=sx b;rw[f]at c;obtain⟨op,w,n,l⟩:=e;simp only[go_sem]at *;rcases nA op with a | a | a | a | a | a | a | a | a | a | a | a | a | a | i
    ·exact .inl a
    ·refine .inr ⟨.inl a,?_⟩;rw[tm aa g]at b;simp[a]at b;omega
    ·refine .inr ⟨.inr a,?_⟩;rw[tm aa g]at b;simp[a]at b;omega
    all_goals(try(rw[a]at c;simp[cS]at c;done))
    rw[pb i]at c;simp at c
   ·have:=j k (kD h f);simpa only[lcS]using this
def eM (l:List Bool):List (List V):=l.map fun b=>[vb b]
theorem M_ (l:List Bool) (i:Nat):(eM l).set i [vb true]=eM (l.set i true):=by simp[eM,oJ]
def lcM (x:Expr):Bool:=lcS x&&decide (x.kids=[]\/(x.op≠2/\x.op≠3))&&decide (x.kids.length<=3)
def IM (a b:Nat) (s:List Bool×List Bool) (h:ae):Prop:=
 s.1.length=32/\s.2.length=32/\h a=some (.rows 1 (eM s.1) false)/\h b=some (.rows 1 (eM s.2) false)
def jF (s:List Bool×List Bool) (x:Expr):List Bool×List Bool:=(bT 3 s.1 x,bT 2 s.2 x)
theorem Z4 (c d:Nat) (z:c≠d): ∀(e:Expr) (s:List Bool×List Bool) (H:ae) (n:Nat),e.allE lcM=true->IM c d s H->
 ∃r h' E,DenR Γ G 158 [(.agg [.t (ti (e).op),.t (ti (e).w),.t (ti (e).n),.t (.sl ((e).kids.map (Expr.enc)))]),.ms c 0 32,.ms d 0 32] H n=some (r,h',E)/\IM c d (e.lv.foldl jF s) h':=by
 intro e
 induction e using Expr.ind with
 | _ e R=>
 intro s H n v Q;have w:=Expr.allE_self v;simp only[lcM,lcS,zF,aR]at w;obtain⟨⟨⟨K,L⟩,I⟩,U⟩:=w;obtain⟨m,o,k,l⟩:=Q
 refine bM (q:=?_)
 by_cases b:e.kids=[]
 ·have t:e.lv=[e]:=by rw[Expr.lv_eq,ah b]
  rw[t];rcases L b with a | ⟨a,F⟩
  ·refine aG a b ?_;refine bK ?_;refine ax ?_;have g:bT 3 s.1 e=s.1:=by simp[bT,a]
   have j:bT 2 s.2 e=s.2:=by simp[bT,a]
   rw[show [e].foldl jF s=jF s e from rfl,jF,g,j];exact⟨m,o,k,l⟩
  ·have C:0<=e.n/\e.n<32:=⟨K,F⟩
   have N:(eM s.1)[e.n.toNat]? =some [vb (s.1[e.n.toNat]' aa)]:=by
    simp only[eM,zJ,zI (show e.n.toNat<s.1.length from aa)];rfl
   have P:(eM s.2)[e.n.toNat]? =some [vb (s.2[e.n.toNat]' aa)]:=by
    simp only[eM,zJ,zI (show e.n.toNat<s.2.length from aa)];rfl
   rcases a with a | a
   ·refine bG a b C l P ?_;refine bK ?_;refine ax ?_;have g:bT 3 s.1 e=s.1:=by simp[bT,a]
    have j:bT 2 s.2 e=s.2.set e.n.toNat true:=by simp[bT,a]
    rw[show [e].foldl jF s=jF s e from rfl,jF,g,j];refine⟨m,by simp[o],a_ z k,?_⟩;exact al @M_
   ·refine bG a b C k N ?_;refine bK ?_;refine ax ?_;have g:bT 3 s.1 e=s.1.set e.n.toNat true:=by simp[bT,a]
    have j:bT 2 s.2 e=s.2:=by simp[bT,a]
    rw[show [e].foldl jF s=jF s e from rfl,jF,g,j];refine⟨by simp[m],o,?_,a_ (bW z) l⟩;exact al @M_
 ·have t:e.lv=e.kids.flatMap Expr.lv:=by rw[Expr.lv_eq,ac b]
  obtain⟨S,T⟩:=I.resolve_left b;rw[t];refine aG S T ?_;refine aS 68717379648 e.kids.length (fun i f A x=>(f 6).v=vi i/\IM c d (((e.kids.take i).flatMap Expr.lv).foldl jF s) A) rfl ⟨am,by simpa using⟨m,o,k,l⟩⟩ ?_;rintro i f u A x bs hi ⟨q,p⟩;have J:=aC i aa;refine ar q ?_;refine bu ?_ ?_<;>intro h
  ·obtain⟨y,D,B⟩:=aw ‹i<e.kids.length›;refine aG q D ?_;refine bf (R y B _ _ _ (Expr.allE_kid v B) p) ?_;intro r h' E M;refine ar q ?_;refine⟨aa,al J,?_⟩;rw[bc D,i7,iy];simpa using M
  ·have:i=e.kids.length:=aa
   subst this;rw[bg]at p;exact p
theorem X8 (l:List Expr) (s:List Bool×List Bool):l.foldl jF s=(l.foldl (bT 3) s.1,l.foldl (bT 2) s.2):=by
 have:=xO (bT 3) (bT 2) l s.1 s.2;exact this
theorem Z7 (d:Nat): ∀e:Expr,e.deep d=true->e.allE lcM=true:=by
 induction d with
 | zero=>intro e h;simp[Expr.deep]at h
 | succ d i=>
   intro e h;have c:=Expr.allE_self (QF (d+1) e h);have g:=kF h;rw[Expr.allE_eq];simp only[zF,zN];refine⟨?_,fun k b=>i k (kD h b)⟩;simp only[lcM,zF,aR];simp only[zF,aR]at c;refine⟨⟨c.1,?_⟩,c.2⟩
   by_cases b:e.kids=[]
   ·exact .inl b
   ·refine .inr ?_;have a:=mt g;have j: ¬e.kids.length=0:=ak b
    constructor
    ·intro f;rw[f]at a;simp[cS]at a;omega
    ·intro f;rw[f]at a;simp[cS]at a;omega
theorem wx (h:ae) (d:Nat) (l:List Bool):(eM l).mapM (fun row=>row.mapM (toT h d))=some (l.map fun b=>[tb b]):=by
 have:=mu h d (l.map fun b=>[tb b]) (by
  intro e c t a;obtain⟨n,_,rfl⟩:=df.1 c
  simp at a;subst a;rfl)
 simpa[eM,Function.comp_def]using this
theorem K3 (h:ae) (d:Nat) {rs:List (List V)} (a: ∀r∈rs,∀v∈r,V.tree v=true):rs.flatMap (·.flatMap (bZ h d))=[]:=by
 simp only[nj];intro r b v c;have:=a r b v c;cases v<;>simp_all [V.tree]<;>cases d<;>rfl
theorem Sl {r:V} {h:ae} {vs:List V} {K:V->ae->Prop} {w:WK K} {k f:Nat} {rs:List (List V)} {c:Bool}
 (b:h k=some (.rows f rs c)) (e:vs.flatMap (bU h)=[k]) (d: ∀h',(∀j,j≠k->h' j=h j)->(∃a,h' k=some (.rows f rs a))->K r h'):fU (some r) false h vs K w:=by
 unfold fU;simp only;split
 ·exact d h (fun _ _=>rfl) ⟨c,b⟩
 ·refine⟨af,d _ (fun j g=> ?_) ⟨true,?_⟩⟩
  ·simp[e,freezes,b,cy,bE,aq,g]
  ·simp[e,freezes,b,cy,bE,aq]
theorem OJ {h:ae} {k d:Nat} {rs:List (List V)} {a:Bool} {i n:Nat} (c:h k=some (.rows d rs a)) (b: ∀r∈rs,∀v∈r,V.tree v=true): [V.ms k i n].flatMap (bU h)=[k]:=by
 simp only[dq,fK,bQ,bU,bZ,c,K3 h 999 b]
theorem KU (l:List Bool): ∀r∈eM l,∀v∈r,V.tree v=true:=by
 intro r c v a;obtain⟨b,_,rfl⟩:=df.1 c;simp at a;subst a;rfl
theorem WH (e:Expr):Den Γ G 138 [(.agg [.t (ti (e).op),.t (ti (e).w),.t (ti (e).n),.t (.sl ((e).kids.map (Expr.enc)))])]=some (.tup [.t (ints (e.sup 3)),.t (ints (e.sup 2))]):=by
 refine aD (q:=?_)
 have f:=xN e
 by_cases a:e.formed=true
 ·refine aG f a ?_;have o:=nv a;refine bf (Z4 _ _ aI e (List.replicate 32 false,List.replicate 32 false) _ _ (Z7 40 e o) ⟨rfl,rfl,by simp -dsimp only[go_sem,seval];rfl,by simp -dsimp only[go_sem,seval];rfl⟩) ?_;intro r h' x g;rw[X8]at g;obtain⟨v,w,c,b⟩:=g;have k:=uH 3 e;have j:=uH 2 e;have i:=Kh (e.occ 3) aa;have h:=Kh (e.occ 2) aa;rw[k]at i;rw[j]at h;change h' _=some (.rows 1 (eM (e.occ 3)) false)at c;change h' _=some (.rows 1 (eM (e.occ 2)) false)at b;have t:(eM (e.occ 3)).length=32:=by simp[eM,k]
  have s:(eM (e.occ 2)).length=32:=by simp[eM,j]
  have q:List.take 32 (eM (e.occ 3))=eM (e.occ 3):=c7 aa;have p:List.take 32 (eM (e.occ 2))=eM (e.occ 2):=c7 aa;have m:=fun d=>wx h' d (e.occ 3)
  have b2:=fun d=>wx h' d (e.occ 2)
  refine bG c t q m i ?_;refine Sl c (OJ c (KU _)) ?_;rintro n l -;have b:=(l 8 aI).trans b;have b2:=fun d=>wx n d (e.occ 2)
  refine bG b s p b2 h ?_;refine Sl b (OJ b (KU _)) ?_;rintro u - -;refine ax ?_;simp[Expr.sup,a]
 ·have a:e.formed=false:=ak a
  refine aG f a ?_;simp[Expr.sup,a]
namespace Expr
mutual
def beq:Expr->Expr->Bool
 | .mk o w n k,.mk o' w' n' k'=>decide (o=o'/\w=w'/\n=n')&&F' k k'
def F':List Expr->List Expr->Bool
 | [],[]=>true
 | e::r,e'::r'=>beq e e'&&F' r r'
 | _,_=>false
end
end Expr
theorem Wh (e:Expr):Den Γ G 156 [(.agg [.t (ti (e).op),.t (ti (e).w),.t (ti (e).n),.t (.sl ((e).kids.map (Expr.enc)))]),.agg [vi 1,vi 1,vi 1,.t (.sl [])]]=some (vb (decide (e.op=1/\e.w=1/\e.n=1/\e.kids=[]))):=by
 refine aD (q:=ax ?_)
 repeat'(refine bu ?_ ?_<;>intro h)
 ·simp[*]
 ·simp[*]
 ·simp[*]
 ·have : ¬e.kids=[]:=by intro a;rw[a]at h;simp at h
  simp[*]
 ·have:e.kids=[]:=by simpa using‹(e.kids.length:Int)=0›
  refine bK ?_;refine ar this ?_;simp[*]
def ay (h:ae) (x:Nat) (v:V) (a:Nat) (rows:List (List V)):Prop:=
 (v= .t .nils/\rows=[])\/ ∃k,v= .ms k 0 rows.length/\k<x/\h k=some (.rows a rows false)
theorem ay.rowsS {h:ae} {x:Nat} {v:V} {b:Nat} {rows:List (List V)} (o:ay h x v b rows):rowsS h v=some rows:=by
 rcases o with⟨rfl,rfl⟩ | ⟨k,rfl,_,a⟩
 ·rfl
 ·simp[Rg.rowsS,a,rd]
theorem ay.lenS {h:ae} {x:Nat} {v:V} {b:Nat} {rows:List (List V)} (o:ay h x v b rows):lenS h v=some rows.length:=by
 rcases o with⟨rfl,rfl⟩ | ⟨k,rfl,_,a⟩
 ·rfl
 ·simp[Rg.lenS,a]
theorem ay.valOf {h:ae} {x:Nat} {v:V} {a:Nat} {rows:List (List V)} (o:ay h x v a rows):valOf v=some v:=by
 rcases o with⟨rfl,rfl⟩ | ⟨k,rfl,_,b⟩<;>rfl
theorem PG {h:ae} {x q d bytes:Nat} {u:V} {a b:List (List V)} {K:V->List (Nat×O)->Prop} {w:WK K}
 (l:ay h x u d a) (B:x<=q) (m:a.length+b.length<=2^32) (p:bytes<=2^12) (y:(b.all fun r=>decide (r.length=d))=true) (t:(a.all fun r=>decide (r.length=d))=true)
 (f: ∀v hp,ay (At h hp) (q+1) v d (a++b)->(∀j,j<q->(∀i n,u≠ .ms j i n)->At h hp j=h j)->(∀j,q<j->At h hp j=h j)->K v hp):
 eA false (aZ h q d bytes u a b) K w:=by
 unfold aZ;rw[ah ⟨⟨m,p⟩,y,t⟩]
 cases b with
 | nil=>
   simp only[sN,aU,jx];refine f _ _ ?_ (fun j _ _=>by rw[bE]) (fun j _=>by rw[bE]);rw[bE,bQ];rcases l with c | ⟨k,c,e,s⟩
   ·exact .inl c
   ·exact .inr ⟨k,c,aa,s⟩
 | cons r b=>
   simp only[sI,zG,aX];rcases l with⟨rfl,rfl⟩ | ⟨k,rfl,A,z⟩
   ·simp only[jx];refine f _ _ (.inr ⟨q,rfl,aa,?_⟩) (fun j g _=> ?_) (fun j g=> ?_)
    ·simp[cy,bE,aq]
    ·have:j≠q:=aa
     simp[cy,bE,aq,this]
    ·have:j≠q:=aa
     simp[cy,bE,aq,this]
   ·simp only[z,ki,aU,jx,xb];refine f _ _ (.inr ⟨q,by rw[zM],aa,?_⟩) (fun j g o=> ?_) (fun j g=> ?_)
    ·simp[cy,bE,aq]
    ·have c:j≠q:=aa
     have e:j≠k:=by rintro rfl;exact o 0 _ rfl
     simp[cy,bE,aq,c,e]
    ·have c:j≠q:=aa
     have e:j≠k:=aa
     simp[cy,bE,aq,c,e]
theorem LW {h:ae} {x q d bytes c i:Nat} {a b:List (List V)} {K:V->List (Nat×O)->Prop} {w:WK K}
 (g:h c=some (.rows d a false)) (u:i=a.length) (y:c<x) (v:x<=q) (l:a.length+b.length<=2^32) (n:bytes<=2^12) (s:(b.all fun r=>decide (r.length=d))=true) (p:(a.all fun r=>decide (r.length=d))=true)
 (f: ∀k hp,k<q+1->At h hp k=some (.rows d (a++b) false)->(∀j,j<q->j≠c->At h hp j=h j)->(∀j,q<j->At h hp j=h j)->K (.ms k 0 (a++b).length) hp):
 eA false (aZ h q d bytes (.ms c 0 i) a b) K w:=by
 subst u;unfold aZ;rw[ah ⟨⟨l,n⟩,s,p⟩]
 cases b with
 | nil=>
   simp only[sN,aU,jx];have:=f c [] aa (by rw[bE,bQ];exact g) (fun j _ _=>by rw[bE]) (fun j _=>by rw[bE])
   rwa[bQ]at this
 | cons r b=>
   simp only[sI,zG,aX,g,ki,aU,jx,xb]
   have:=f q [(c,.dead),(q,.rows d (a++r::b) false)] aa (by simp[cy,bE,aq]) (fun j t m=>by
    have e:j≠q:=aa
    simp[cy,bE,aq,e,m]) (fun j t=>by
    have e:j≠q:=aa
    have o:j≠c:=aa
    simp[cy,bE,aq,e,o])
   rwa[zM]at this
def yX (p:Prog) (e:Expr):Prop:= ∀op,op=2\/op=3-> ∀c∈e.sup op,0<=c/\c<p.cells.length
def qN (p:Prog) (shared:Bool) (t c:Int):Bool:=match p.cells[c.toNat]? with
 | some x=> !((decide (x.thread= -1)&& !shared)||(decide (0<=x.thread)&&decide (x.thread≠t)))
 | none=>false
theorem nD (op:Int) (e:Expr):(e.sup op).length<=32:=by
 unfold Expr.sup;split
 ·unfold da;rw[cL];exact cQ (kf _ _) af
 ·simp
theorem xH (l:List Int):(l.map fun n=>[ti n]).map (fun x=>x.map V.t)=ai l:=rfl
theorem YK (p:Prog) (e:Expr) (sh:Bool) (t:Int) (n:yX p e):
 Den Γ G 115 [(zP p),(.agg [.t (ti (e).op),.t (ti (e).w),.t (ti (e).n),.t (.sl ((e).kids.map (Expr.enc)))]),vb sh,vi t]=some (vb ((e.sup 3++e.sup 2).all (qN p sh t))):=by
 refine aD (q:=?_)
 have E:=WH e;have P:=nD 3 e;have O:=nD 2 e
 have s: ∀c∈e.sup 3++e.sup 2,0<=c/\c<p.cells.length:=by
  intro c a;rcases cx.1 a with a | a
  ·exact n 3 (.inr rfl) c a
  ·exact n 2 (.inl rfl) c a
 have B:ai (e.sup 3)++ai (e.sup 2)=ai (e.sup 3++e.sup 2):=by simp[ai]
 have J:(e.sup 3++e.sup 2).length<=64:=by rw[zM];omega
 refine aG E @xH ?_;refine LW (x:=11) am rfl aI aI (by rw[aB];simp;omega) aI (eu _) aI ?_;intro k hp F d _ _;rw[eY]at d⊢;simp -dsimp only[go_sem,seval,d,xH,aA,bg];refine LW d rfl F aI (by rw[aB,aB];omega) aI (eu _) (eu _) ?_;intro H K I b _ _;rw[B]at b⊢
 generalize e.sup 3++e.sup 2=l at *
 obtain⟨M,g⟩: ∃M,M=qN p sh t:=⟨_,rfl⟩
 rw[<- g];replace g: ∀c,qN p sh t c=M c:=fun c=>by rw[g]
 cases sh
 all_goals(
  refine ax ?_;refine aS 18014398492717312 l.length (fun i f d x=>(f 12).v=vi i/\d H=some (.rows 1 (ai l) false)/\(l.take i).all M=true) rfl ⟨am,al b,af⟩ ?_;clear b;rintro i f u d x bs hi ⟨o,b,j⟩;have z:=aC i aa;refine aY o b @aB ?_;refine bu ?_ ?_<;>intro h
  ·obtain⟨c,a,q⟩:=aw (show i<l.length from aa);obtain⟨C,N⟩:=s c q;obtain⟨y,r⟩: ∃y,p.cells[c.toNat]? =some y:=⟨_,zI aa⟩
   have v:(ai l)[i]? =some [vi c]:=by simp[ai,a]
   have L:(0:Int)<=(i:Int):=aa
   have w:i<l.length:=aa
   have m:=(g c).symm;simp only[qN,r]at m;have A:M c=false->l.all M=false:=fun D=>o8 q D
   refine dc o b v w C r @aB ?_
   repeat'(refine bu ?_ ?_<;>intro h)
   all_goals first
    | (rw[A (by rw[m];simp[*])];done)
    | (refine⟨aa,al z,al b,?_⟩
       rw[bc a,np,j];simp only[eo,qj,m]
       simp[*];(try omega);done)
  ·have:i=l.length:=aa
   subst this;rw[bg]at j
   rw[j])
theorem ay.upd {h:ae} {x:Nat} {v:V} {a:Nat} {rows:List (List V)} (o:ay h x v a rows) {q:Nat} (f:x<=q) (b:Option O):ay (updC h q b) (q+1) v a rows:=by
 rcases o with o | ⟨k,c,e,d⟩
 ·exact .inl o
 ·exact .inr ⟨k,c,aa,by rw[aq,ac aa];exact d⟩
theorem ay.le {h:ae} {x y:Nat} {v:V} {a:Nat} {rows:List (List V)} (o:ay h x v a rows) (e:x<=y):ay h y v a rows:=by
 rcases o with o | ⟨k,b,d,c⟩
 ·exact .inl o
 ·exact .inr ⟨k,b,aa,c⟩
theorem ay.r1 {h:ae} {x:Nat} {v:V} {c:Nat} {rows:List (List V)} (o:ay h x v c rows) (a:Nat) (b:Option O):Rg.rowsS (updC h (x+a) b) v=some rows:=(o.upd aa b).rowsS
theorem ay.r2 {h:ae} {x:Nat} {v:V} {d:Nat} {rows:List (List V)} (o:ay h x v d rows) (a c:Nat) (b:Option O):Rg.rowsS (updC h (x+a+c) b) v=some rows:=(o.upd aa b).rowsS
theorem ay.r3 {h:ae} {x:Nat} {v:V} {e:Nat} {rows:List (List V)} (o:ay h x v e rows) (a c d:Nat) (b:Option O):Rg.rowsS (updC h (x+a+c+d) b) v=some rows:=(o.upd aa b).rowsS
theorem ay.r4 {h:ae} {x:Nat} {v:V} {f:Nat} {rows:List (List V)} (o:ay h x v f rows) (a c d e:Nat) (b:Option O):Rg.rowsS (updC h (x+a+c+d+e) b) v=some rows:=(o.upd aa b).rowsS
theorem ay.r5 {h:ae} {x:Nat} {v:V} {g:Nat} {rows:List (List V)} (o:ay h x v g rows) (a c d e f:Nat) (b:Option O):Rg.rowsS (updC h (x+a+c+d+e+f) b) v=some rows:=(o.upd aa b).rowsS
theorem ay.reify {h:ae} {x:Nat} {v:V} {c:Nat} {es:List (List T)} (o:ay h x v c (es.map (·.map V.t))) (b: ∀e∈es,∀t∈e,T.norm t=t):Rg.reify h v=some (.t (.sl es)):=by
 have:=jy o b;rcases o with⟨rfl,a⟩ | ⟨k,rfl,_,_⟩
 ·have:es=[]:=ak a
  subst this;rfl
 ·simp only[Rg.reify,toT1,this,cU]
theorem ay.one {h:ae} {x:Nat} {v:V} {a:Nat} {rows:List (List V)} (o:ay h x v a rows):v.one=true:=by
 rcases o with⟨rfl,_⟩ | ⟨k,rfl,_,_⟩<;>rfl
theorem ay.resVal {h:ae} {x:Nat} {v:V} {a:Nat} {rows:List (List V)} (o:ay h x v a rows):Rg.resVal v=some v:=by
 rcases o with⟨rfl,_⟩ | ⟨k,rfl,_,_⟩<;>rfl
def aK (v:V) (k:Nat):Prop:= ∀i n,v≠ .ms k i n
theorem cV {q k:Nat} (h:k≠q) (i n:Nat):aK (.ms q i n) k:=by
 intro b c a;cases a;exact h rfl
theorem ay.off {h:ae} {x:Nat} {v:V} {b:Nat} {rows:List (List V)} (o:ay h x v b rows) {k:Nat} (d:x<=k):aK v k:=by
 rcases o with⟨rfl,_⟩ | ⟨e,rfl,c,_⟩
 ·intro i n a;cases a
 ·exact cV aa _ _
theorem bX {h:ae} {x q b bytes:Nat} {u:V} {a:List (List V)} {r:List V} {K:V->List (Nat×O)->Prop} {w:WK K}
 (o:ay h x u b a) (t:x<=q) (p:a.length<2^32) (f:bytes<=2^12) (m:r.length=b) (l:(a.all fun r=>decide (r.length=b))=true)
 (d: ∀v hp,ay (At h hp) (q+1) v b (a++[r])->(∀j,j<x->aK v j)->(∀j,j<x->aK u j->At h hp j=h j)->K v hp):
 eA false (aZ h q b bytes u a [r]) K w:=by
 unfold aZ;rw[ah ⟨⟨by simp;omega,f⟩,by simp[m],l⟩];simp only[sI,zG,aX];rcases o with⟨rfl,rfl⟩ | ⟨k,rfl,s,n⟩
 ·simp only[jx];refine d _ _ (.inr ⟨q,rfl,aa,?_⟩) (fun j c=>cV aa _ _) (fun j c _=> ?_)
  ·simp[cy,bE,aq]
  ·have:j≠q:=aa
   simp[cy,bE,aq,this]
 ·simp only[n,ki,aU,jx,xb];refine d _ [(k,.dead),(q,.rows b (a++[r]) false)] (.inr ⟨q,by rw[zM],aa,by simp[cy,bE,aq]⟩) (fun j c=>cV aa _ _) (fun j c e=> ?_);have g:j≠q:=aa
  have i:j≠k:=by rintro rfl;exact e 0 _ rfl
  simp[cy,bE,aq,g,i]
theorem ay.keep {h h':ae} {x y:Nat} {v:V} {a:Nat} {rows:List (List V)} (o:ay h x v a rows) (f:x<=y) (e: ∀k,k<x-> ¬aK v k->h' k=h k):ay h' y v a rows:=by
 rcases o with o | ⟨k,rfl,c,d⟩
 ·exact .inl o
 ·exact .inr ⟨k,rfl,aa,by rw[e k c (fun b=>b _ _ rfl)];exact d⟩
theorem qD {h:ae} {a g c:Nat} {vs rs:List V} {es:List (List T)} {K:V->List (Nat×O)->Prop} {w:WK K} (u:vs.all V.tree=true) (f:vs.mapM (toT1 h)=some rs)
 (q: ∃r h' b,DenR Γ G g rs (fun _=>none) 0=some (r,h',b)/\ay h' b r c (es.map (·.map V.t)))
 (d: ∀v hp,ay (At h hp) (a+1) v c (es.map (·.map V.t))->(∀j,j≠a->At h hp j=h j)->(∀j,j≠a->aK v j)->K v hp):rU (Γ:=Γ) (G:=G) false h a g vs K w:=by
 obtain⟨r,h',b,o,m⟩:=q
 have p:vs.flatMap (bU h)=[]:=by
  simp only[nj];intro v x;exact K2 (zN.1 u v x)
 refine⟨rfl,p,rs,f,r,h',b,o,?_⟩;rcases m with⟨rfl,s⟩ | ⟨k,rfl,y,t⟩
 ·refine⟨{ val:=.t .nils },rfl,d _ _ (.inl ⟨rfl,s⟩) (fun j _=>by rw[bE]) (fun j _ i n h=>by cases h)⟩
 ·have l:(es.map (·.map V.t)).all (fun row=>row.all V.isTr)=true:=by
   simp[V.isTr]
  refine⟨{ val:=.ms a 0 (es.map (·.map V.t)).length,hp:=[(a,.rows c (es.map (·.map V.t)) false)] },?_,d _ _ (.inr ⟨a,rfl,aa,by simp[cy,bE,aq]⟩) (fun j e=>by simp[cy,bE,aq,e]) (fun j e=>cV aa _ _)⟩;simp only[iX,t];rw[ah ⟨trivial,trivial,l⟩]
def zo:Task->Out->Prop
 | .code _ s,.code _ s'=>s.nxt<=s'.nxt
 | .loop _ s,.code _ s'=>s.nxt<=s'.nxt
 | .ops _ _ _ s,.ops s'=>s.nxt<=s'.nxt
 | .rcall _ _ _ n,.vals _ _ n'=>n<=n'
 | _,_=>True
theorem kcG {Γ:Nat->Option F} {G:Nat->List T} {t:Task} {o:Out} (h:Big Γ G t o):zo t o:=by
 induction h with
 | rext n q l h=>exact(MD h).1
 | opsYield r m p g c i f j e k d h a b s=>
   simp only[zo,St.apply,qM]at *
   omega
 | _=>simp_all [zo,St.begin,St.apply,St.init]<;>omega
theorem Zs {Γ:Nat->Option F} {G:Nat->List T} {g:Nat} {args:List V} {h h':ae} {n a:Nat} {r:V} (b:DenR Γ G g args h n=some (r,h',a)):n<=a:=kcG (jt.1 b)
theorem kcC {Γ:Nat->Option F} {G:Nat->List T} {g:Nat} {args:List V} {h:ae} {n:Nat} {P:V->ae->Nat->Prop} (b: ∃r h' a,DenR Γ G g args h n=some (r,h',a)/\P r h' a):
 ∃r h' a,DenR Γ G g args h n=some (r,h',a)/\(P r h' a/\n<=a):=
 let⟨r,h',a,h1,h2⟩:=b
 ⟨r,h',a,h1,h2,Zs h1⟩
theorem xf (e:Expr) (z:ae) (d:Nat):
 ∃r h' c,DenR Γ G 60 [(.agg [.t (ti (e).op),.t (ti (e).w),.t (ti (e).n),.t (.sl ((e).kids.map (Expr.enc)))])] z d=some (r,h',c)/\ ∃t q,r= .tup [t,q]/\ay h' c t 1 (ai (e.sup 3))/\ay h' c q 1 (ai (e.sup 2))/\d<=c/\ ∀k,k<d->h' k=z k/\aK t k/\aK q k:=by
 refine bM (q:=?_)
 have H:=wW e
 by_cases m:e.formed=true
 ·refine aG H m ?_;have B:=nv m;refine bf (kcC (KC 77 _ (fun s h=>IS (d+0) (d+3+3+0) (d+3+3+1) e s h/\ ∀k,k<d->h k=z k) (fun s x=>(bT 3 s.1 x,bT 2 s.2 x)) lcS ?_ e _ (List.replicate 32 false,List.replicate 32 false) _ _ (QF 40 e B) ⟨⟨rfl,rfl,?_,?_,?_⟩,?_⟩ (fun s h p=> .inr ⟨d+0,false,rfl,p.1.2.2.2.2⟩))) ?_
  ·rintro s h n v x ⟨p,u⟩ j C o;obtain⟨r,h',c,B,Y,Z⟩:=WI (d+0) (d+3+3+0) (d+3+3+1) e aa aa aa s h n v x p j C o;exact⟨r,h',c,B,Y,fun k j=>(Z k aa aa).trans (u k j)⟩
  ·rw[aq,ac aa,aq,ah rfl];rfl
  ·rw[aq,ah rfl];rfl
  ·rw[aq,ac aa,aq,ac aa,aq,ah rfl]
  ·intro k j;rw[aq,ac aa,aq,ac aa,aq,ac aa]
  rintro r h' c ⟨⟨p,u⟩,RG⟩;rw[xO]at p;obtain⟨l1,l2,J,K,i1⟩:=p;change h' (d+3+3+0)=some (.rows 32 [vbs (e.occ 3)] false)at J;change h' (d+3+3+1)=some (.rows 32 [vbs (e.occ 2)] false)at K;have Q:=uH 3 e;have P:=uH 2 e;have t:(vbs (e.occ 3)).length=32:=by simp[vbs,Q]
  have q:(vbs (e.occ 2)).length=32:=by simp[vbs,P]
  have t3:List.take 32 (vbs (e.occ 3))=vbs (e.occ 3):=c7 aa;have t2:List.take 32 (vbs (e.occ 2))=vbs (e.occ 2):=c7 aa;have M:=Ih (e.occ 3) Q;have L:=Ih (e.occ 2) P;change ∃r h' c,DenR Γ G 78 [V.agg (vbs (e.occ 3))] (fun _=>none) 0=some (r,h',c)/\_ at M;change ∃r h' c,DenR Γ G 78 [V.agg (vbs (e.occ 2))] (fun _=>none) 0=some (r,h',c)/\_ at L
  have R: ∀l:List Bool,[V.agg (vbs l)].all V.tree=true:=fun l=>by
   simp only[eo,qj,gj,V.tree,vbs,List.all_map,zN];intros;rfl
  have N: ∀(g:ae) (l:List Bool),[V.agg (vbs l)].mapM (toT1 g)=some [V.agg (vbs l)]:=fun g l=>by
   have:List.mapM (toT g 1000) (vbs l)=some (l.map fun b=>tb b):=by
    refine tD _ _ _ (fun i a f=> ?_) (by simp[vbs]);rw[vbs,zJ]at f;rw[zJ]
    cases I:l[i]? with
    | none=>rw[I]at f;simp at f
    | some x=>rw[I]at f;simp at f;subst f;exact⟨_,rfl,rfl⟩
   have h2:List.map V.t (l.map fun b=>tb b)=vbs l:=by simp[vbs]
   simp only[cM,s9,toT1,this,cU,h2];rfl
  refine aY J t t3 ?_;refine qD (R _) (N _ _) M ?_;intro w3 Qi A F QD;have S:=A.valOf;have D:=(F (d+3+3+1) aa).trans K;refine bw D q t2 S ?_;refine qD (R _) (N _ _) L ?_;intro w2 X w E W;have x2:=w.valOf;have U:=A.resVal;have T:=w.resVal;simp only[Rg.resVal]at U T;refine bw S x2 U T ?_;have o: ∀op,da (e.occ op) 32=e.sup op:=fun op=>by simp[Expr.sup,m]
  have Oz:=A.keep (y:=c+6) (h':=At (At h' Qi) X) aa (fun k j _=>E k aa);have f: ∀l:List ROp,l.length=6->addC c l=c+6:=fun l C=>by rw[nC];simp[C]
  refine⟨w3,w2,rfl,?_,?_,?_,fun k j=>⟨?_,QD k aa,W k aa⟩⟩
  ·rw[<- o 3,f _ rfl];exact Oz
  ·rw[<- o 2,f _ rfl];exact w.le aa
  ·rw[f _ rfl];omega
  ·rw[E k aa,F k aa];exact u k j
 ·have m:e.formed=false:=ak m
  refine aG H m ?_;have o: ∀op,e.sup op=[]:=fun op=>by simp[Expr.sup,m]
  rw[o,o];exact⟨_,_,rfl,.inl ⟨rfl,rfl⟩,.inl ⟨rfl,rfl⟩,cQ (qC _ _) (cQ (qC _ _) (qC _ _)),fun k j=>⟨by rw[aq,ac aa],(fun i n h=>by cases h),(fun i n h=>by cases h)⟩⟩
end Rg
end
