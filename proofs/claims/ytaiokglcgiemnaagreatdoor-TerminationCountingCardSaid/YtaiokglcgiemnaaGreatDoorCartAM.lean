/- Part of the proof of laws of relyguardlaw36. No condition. -/
import Derived.Test.YtaiokglcgiemnaaGreatDoorCartAL
set_option linter.unusedSimpArgs false
set_option linter.unusedVariables false
section
namespace Rg
open Go
def zx7 {α:Type} (f:Nat->α->Int):Nat->List α->Int×Int
 | _,[]=>(0,-1)
 | i,x::r=>if f i x=0 then zx7 f (i+1) r else(f i x,i)
theorem zbC {α:Type} {l:List α} {i:Nat} {x:α} (h:l[i]? =some x):l.drop i=x::l.drop (i+1):=by
 obtain⟨hi,rfl⟩:=zH.1 h;exact List.drop_eq_getElem_cons hi
theorem zbj {α:Type} {f:Nat->α->Int} {l:List α} {i:Nat} {x:α} (h:l[i]? =some x) (h0:f i x=0):zx7 f i (l.drop i)=zx7 f (i+1) (l.drop (i+1)):=by
 rw[zbC h,zx7,if_pos h0]
theorem zyg {α:Type} {f:Nat->α->Int} {l:List α} {i:Nat} {x:α} (h:l[i]? =some x) (h0: ¬f i x=0):zx7 f i (l.drop i)=(f i x,(i:Int)):=by
 rw[zbC h,zx7,if_neg h0]
theorem zb3 {α:Type} (f:Nat->α->Int) (l:List α):zx7 f l.length (l.drop l.length)=(0,-1):=by
 rw[List.drop_length];rfl
theorem zaA {α:Type} {P:α->Bool} {l:List α} {i:Nat} {x:α} (h:l[i]? =some x) (h0:P x=true):(l.drop i).all P=(l.drop (i+1)).all P:=by
 rw[zbC h,List.all_cons,h0,Bool.true_and]
theorem zaz {α:Type} {P:α->Bool} {l:List α} {i:Nat} {x:α} (h:l[i]? =some x) (h0:P x=false):(l.drop i).all P=false:=by
 rw[zbC h,List.all_cons,h0,Bool.false_and]
theorem zaQ {α:Type} (P:α->Bool) (l:List α):(l.drop l.length).all P=true:=by
 rw[List.drop_length];rfl
theorem zgH {α:Type} {P:α->Bool} {l:List α} {i:Nat} {x:α} (h:l[i]? =some x) (h0:P x=false):(l.drop i).any P=(l.drop (i+1)).any P:=by
 rw[zbC h,List.any_cons,h0,Bool.false_or]
theorem zgG {α:Type} {P:α->Bool} {l:List α} {i:Nat} {x:α} (h:l[i]? =some x) (h0:P x=true):(l.drop i).any P=true:=by
 rw[zbC h,List.any_cons,h0,Bool.true_or]
theorem ziE {α:Type} (P:α->Bool) (l:List α):(l.drop l.length).any P=false:=by
 rw[List.drop_length];rfl
def zCt (p:Prog) (sh:Bool) (t c:Int):Bool:=if sh then zAq p t c else zxb p t c
def zxI (p:Prog) (e:Expr) (sh:Bool) (t:Int):Bool:=(e.sup 3).all (zCt p sh t)&&(e.sup 2).all (zCt p sh t)
def zxl (p:Prog) (e:Expr) (pair:Bool) (t:Int):Bool:=e.valid p.cells pair&&decide (e.w=1)&&zxI p e true t
def zao (x:Thread):Bool:=decide (x.points>48)||decide ((x.steps.length:Int)>64)||decide ((x.loops.length:Int)>8)
def zxn (p:Prog):Int×Int:=
 if(p.cells.length:Int)>32\/(p.modules.length:Int)>6\/(p.locks.length:Int)>4\/(p.threads.length:Int)>4 then(2,-1)
 else zx7 (fun _ x=>if zao x then 2 else 0) 0 p.threads
def za6 (p:Prog) (c:Cell):Bool:=
 !zxG c.name||decide (c.w<1)||decide (c.w>8)||decide (c.init<0)||decide (c.init>=2^c.w.toNat)||decide (c.thread< -1)||decide (c.thread>=p.threads.length) || !inR c.module p.modules.length
def zx3 (p:Prog) (i:Nat) (c:Cell):Int:=
 if za6 p c then 1 else if(p.cells.take i).any (fun d=>d.name.toList==c.name.toList)then 41 else 0
def zx2 (p:Prog):Int:=(zx7 (zx3 p) 0 p.cells).1
def zyK (p:Prog) (i:Nat) (m:Contract):Int:=
 if !zxG m.name || !zxG m.owner then 1
 else if(p.modules.take i).any (fun d=>d.name.toList==m.name.toList)then 41
 else if(!m.rely.absent&& !zxl p m.rely true (-1)) || !zxl p m.guar true (-1)then 60
 else if !zyv m.frame || !m.frame.all (zxb p (-1))then 1 else 0
def zxB (p:Prog):Int:=(zx7 (zyK p) 0 p.modules).1
def zaO (p:Prog) (c:Int) (f:Cell->Bool):Bool:=match p.cells[c.toNat]? with
 | some x=>f x
 | none=>false
def zyq (p:Prog) (i:Nat) (l:Lock):Int:=
 if !zxb p (-1) l.cell || !zaO p l.cell (fun x=>decide (x.w=1))||zaO p l.cell Cell.ghost || !inR l.module p.modules.length then 1
 else if(p.locks.take i).any (fun d=>decide (d.cell=l.cell))then 1
 else if !zxl p l.inv false (-1)then 60 else 0
def zys (p:Prog):Int:=(zx7 (zyq p) 0 p.locks).1
def zxH (p:Prog) (set:List Assign) (i:Nat) (a:Assign):Int:=
 if !inR a.cell p.cells.length||(set.take i).any (fun b=>decide (b.cell=a.cell))then 70
 else if !a.to.valid p.cells false || !zaO p a.cell (fun x=>decide (a.to.w=x.w))then 60 else 0
def zxF (p:Prog) (s:Step) (sh:Bool) (t:Int):Bool:=zxI p s.guard sh t&&s.set.all fun a=>zxI p a.to sh t
def zyz (p:Prog) (t:Int) (s:Step):Bool:=s.guard.one&&decide (s.set=[])&&decide (s.target≠t)&&inR s.target p.threads.length
def zc8 (p:Prog) (t:Int):Bool:=match p.threads[t.toNat]? with
 | some x=>x.asleep
 | none=>false
def zzE (p:Prog) (t:Int) (s:Step):Bool:=match s.set with
 | []=>false
 | a::r=>zxI p s.guard false t&&zxb p t a.cell&& !zaO p a.cell Cell.ghost&&decide (a.to.op=2)&&zxb p (-1) a.to.n&& !zaO p a.to.n Cell.ghost&&
    r.all fun b=>zxb p t b.cell&&zaO p b.cell Cell.ghost&&zxI p b.to false t
def zy6 (p:Prog) (t:Int) (s:Step):Bool:=match s.set with
 | []=>false
 | a::r=>zxF p s false t&&zxb p (-1) a.cell&& !zaO p a.cell Cell.ghost&&r.all fun b=>zaO p b.cell Cell.ghost&&zAq p t b.cell
def zxJ (p:Prog) (t:Int) (s:Step):Bool:=
 if s.kind=1 then zxF p s false t&&s.set.all fun a=>zxb p t a.cell
 else if s.kind=2 then zzE p t s
 else if s.kind=3 then zy6 p t s
 else if s.kind=4 then zxF p s true t&&s.set.all fun a=>zAq p t a.cell
 else if s.kind=5 then s.guard.one&&decide (s.set=[])
 else if s.kind=6 then zyz p t s&&zc8 p s.target
 else zyz p t s
def zbN (p:Prog) (n:Int) (s:Step):Bool:=
 decide (s.kind<1)||decide (s.kind>7) || !inR s.fr (n-1) || !inR s.to n || !inR s.module p.modules.length||(s.release&&decide (s.kind≠3))||(decide (s.target≠0)&& !(decide (s.kind=6)||decide (s.kind=7)))
def zxm (p:Prog) (t n:Int) (s:Step):Int:=
 if zbN p n s then 70
 else if !s.guard.valid p.cells false||decide (s.guard.w≠1)then 60
 else if ¬(zx7 (zxH p s.set) 0 s.set).1=0 then(zx7 (zxH p s.set) 0 s.set).1
 else if zxJ p t s then 0 else 70
def zaF (p:Prog) (t n:Int) (l:Loop):Int:=
 if !inR l.head n || !zyv l.body || !l.body.all (fun k=>inR k n&&decide (k≠l.head))then 1
 else if !l.variant.valid p.cells false || !zxI p l.variant true t then 60 else 0
def zxa (p:Prog) (i:Nat) (x:Thread):Int×Int:=
 if !zxG x.name then(1,-1)
 else if(p.threads.take i).any (fun d=>d.name.toList==x.name.toList)then(41,-1)
 else if x.points<1\/ ¬(x.asserts.length:Int)=x.points\/ ¬(x.modules.length:Int)=x.points then(1,-1)
 else if !x.modules.all (fun m=>inR m p.modules.length)then(1,-1)
 else if !x.asserts.all (fun e=>zxl p e false i)then(60,-1)
 else if ¬(zx7 (fun _ s=>zxm p i x.points s) 0 x.steps).1=0 then zx7 (fun _ s=>zxm p i x.points s) 0 x.steps
 else((zx7 (fun _ l=>zaF p i x.points l) 0 x.loops).1,-1)
def zyW (p:Prog):Nat->List Thread->Int×Int×Int
 | _,[]=>(0,-1,-1)
 | i,x::r=>if(zxa p i x).1=0 then zyW p (i+1) r else((zxa p i x).1,(i:Int),(zxa p i x).2)
def zxL (p:Prog):Int×Int×Int:=
 if ¬(zxn p).1=0 then((zxn p).1,(zxn p).2,-1)
 else if ¬zx2 p=0 then(zx2 p,-1,-1)
 else if ¬zxB p=0 then(zxB p,-1,-1)
 else if ¬zys p=0 then(zys p,-1,-1)
 else zyW p 0 p.threads
theorem ziK {p:Prog} {l:List Thread} {i:Nat} {x:Thread} (h:l[i]? =some x) (h0:(zxa p i x).1=0):zyW p i (l.drop i)=zyW p (i+1) (l.drop (i+1)):=by
 rw[zbC h,zyW,if_pos h0]
theorem ziJ {p:Prog} {l:List Thread} {i:Nat} {x:Thread} (h:l[i]? =some x) (h0: ¬(zxa p i x).1=0):zyW p i (l.drop i)=((zxa p i x).1,(i:Int),(zxa p i x).2):=by
 rw[zbC h,zyW,if_neg h0]
theorem zkn (p:Prog) (l:List Thread):zyW p l.length (l.drop l.length)=(0,-1,-1):=by
 rw[List.drop_length];rfl
structure Prog.sane (p:Prog):Prop where
 cells:p.cells.length<2^48
 modules:p.modules.length<2^48
 locks:p.locks.length<2^48
 threads:p.threads.length<2^48
 cname: ∀c∈p.cells,c.name.size<2^50
 mname: ∀m∈p.modules,m.name.size<2^50/\m.owner.size<2^50/\m.frame.length<2^48
 thr: ∀t∈p.threads,t.name.size<2^50/\t.asserts.length<2^48/\t.modules.length<2^48/\t.steps.length<2^48/\t.loops.length<2^48
 sets: ∀t∈p.threads,∀s∈t.steps,s.set.length<2^48
 loops: ∀t∈p.threads,∀l∈t.loops,l.body.length<2^48
end Rg
end
section
-- FULL
namespace Rg
open Go
theorem zk6 {p:Prog} (hc: ∀c∈p.cells,-1<=c.thread) (sh:Bool) (t c:Int) (ht: -1<=t) (hs:sh=true\/0<=t) (h0:0<=c):zC9 p sh t c=zCt p sh t c:=by
 unfold zC9 zCt zAq zxb;rcases hx:p.cells[c.toNat]? with _ | x
 ·cases sh<;>simp
 ·have:=hc x (zL hx);simp only[h0,decide_true,Bool.true_and]
  have a1:(decide (0<=x.thread))= !decide (x.thread= -1):=by
   by_cases h:x.thread= -1
   ·simp[h]
   ·simp[h];omega
  rw[a1];cases sh
  ·have ht:0<=t:=by simpa using hs
   by_cases h:x.thread= -1
   ·simp[h];omega
   ·simp[h]
  ·by_cases h:x.thread= -1
   ·simp[h]
   ·simp[h]
theorem zdQ {α:Type} {P Q:α->Bool} {l:List α} (h: ∀x∈l,P x=Q x):l.all P=l.all Q:=by
 induction l with
 | nil=>rfl
 | cons x r ih=>rw[List.all_cons,List.all_cons,h x (by simp),ih fun y hy=>h y (by simp[hy])]
theorem zkp {op:Int} {e:Expr} {c:Int} (h:c∈e.sup op):0<=c/\e.formed=true/\ ∃x∈e.lv,x.op=op/\x.n.toNat=c.toNat:=by
 unfold Expr.sup at h;split at h
 ·rename_i hf;obtain⟨j,hj,rfl⟩:=List.mem_map.1 h;refine⟨by omega,hf,?_⟩;obtain⟨_,hj⟩:=List.mem_filter.1 hj
  have key: ∀(l:List Expr) (s:List Bool),(l.foldl (zxM op) s).getD j false=true->s.getD j false=true\/ ∃x∈l,x.op=op/\x.n.toNat=j:=by
   intro l
   induction l with
   | nil=>intro s h;exact .inl h
   | cons x l ih=>
     intro s h;rw[List.foldl_cons]at h;rcases ih _ h with h | ⟨y,hy,h1,h2⟩
     ·unfold zxM at h;split at h
      ·rename_i ho
       by_cases hn:x.n.toNat=j
       ·exact .inr ⟨x,by simp,ho,hn⟩
       ·left;simpa[List.getD,List.getElem?_set,hn]using h
      ·exact .inl h
     ·exact .inr ⟨y,by simp[hy],h1,h2⟩
  rcases key _ _ hj with h | ⟨x,hx,h1,h2⟩
  ·have:(List.replicate 32 false).getD j false=false:=by
    rw[List.getD,List.getElem?_replicate];split<;>rfl
   rw[this]at h;simp at h
  ·exact⟨x,hx,h1,by simpa using h2⟩
 ·simp at h
theorem zzm {p:Prog} {e:Expr} {pair:Bool} (h:e.valid p.cells pair=true):zim p e:=by
 intro op Ao c hc;obtain⟨h0,hf,x,hx,h1,h2⟩:=zkp hc;refine⟨h0,?_⟩;unfold Expr.valid at h;rw[hf,Bool.true_and,znK (fun x=>ze1 p.cells pair) 40 e (zxk hf)]at h;have:=zN.1 h x hx;unfold zxS at this;rcases Ao with rfl | rfl
 ·simp only[h1]at this;rcases hy:p.cells[x.n.toNat]? with _ | y
  ·simp[hy]at this
  ·have:=(zH.1 hy).1;omega
 ·simp only[h1]at this;rcases hy:p.cells[x.n.toNat]? with _ | y
  ·simp[hy]at this
  ·have:=(zH.1 hy).1;omega
theorem zdH {p:Prog} (hc: ∀c∈p.cells,-1<=c.thread) {e:Expr} (Ar:zim p e) (sh:Bool) (t:Int) (ht: -1<=t) (hs:sh=true\/0<=t):
 Den Γ G 115 [(zP p),(.agg [.t (ti (e).op),.t (ti (e).w),.t (ti (e).n),.t (.sl ((e).kids.map (Expr.enc)))]),vb sh,vi t]=some (vb (zxI p e sh t)):=by
 rw[zkU p e sh t Ar,List.all_append,zxI];rw[zdQ (l:=e.sup 3) fun c Bp=>zk6 hc sh t c ht hs (Ar 3 (.inr rfl) c Bp).1];rw[zdQ (l:=e.sup 2) fun c Bp=>zk6 hc sh t c ht hs (Ar 2 (.inl rfl) c Bp).1]
theorem zcY {p:Prog} (hc: ∀c∈p.cells,-1<=c.thread) (e:Expr) (pair:Bool) (t:Int) (ht: -1<=t):
 Den Γ G 112 [(zP p),(.agg [.t (ti (e).op),.t (ti (e).w),.t (ti (e).n),.t (.sl ((e).kids.map (Expr.enc)))]),vb pair,vi t]=some (vb (zxl p e pair t)):=by
 (refine zw3 Γ112 rfl ?_;dsimp only[f112])
 have h1:=zcX e p.cells pair;cases hv:e.valid p.cells pair
 ·rw[hv]at h1;simp -dsimp [go_sem,h1];simp[zxl,hv]
 ·rw[hv]at h1;have h2:=zdH hc (zzm hv) true t ht (.inl rfl);simp -dsimp [go_sem,h1];refine zw1 (fun h=> ?_) (fun h=> ?_)<;>(try rw[h])<;>(try simp only[zab]at h)<;>(try simp -dsimp [go_sem,h2])
  ·simp[zxl,hv,h]
  ·simp[zxl,hv,h]
theorem zmO:Den Γ G 157 []=some (.agg [vi 1,vi 1,vi 1,.t (.sl [])]):=by
 (refine zw3 Γ157 rfl ?_;dsimp only[f157])
 have h1:=zlS 1 1;simp -dsimp [go_sem,h1]
theorem zif (p:Prog) (hs:p.sane):Den Γ G 84 [(zP p)]=some (.tup [vi (zxn p).1,vi (zxn p).2]):=by
 (refine zw3 Γ84 rfl ?_;dsimp only[f84])
 simp -dsimp [go_sem]
 by_cases DQ:(p.cells.length:Int)>32\/(p.modules.length:Int)>6\/(p.locks.length:Int)>4\/(p.threads.length:Int)>4
 ·have hm:zxn p=(2,-1):=by rw[zxn,if_pos DQ]
  rw[hm]
  repeat'(refine zw1 (fun h=> ?_) (fun h=> ?_)<;>(try rw[h])<;>(try simp only[zab]at h)<;>(try simp -dsimp [go_sem]))
  all_goals(try omega)
 ·have hm:zxn p=zx7 (fun _ x=>if zao x then 2 else 0) 0 p.threads:=by rw[zxn,if_neg DQ]
  have g1: ¬(p.cells.length:Int)>32:=by omega
  have g2: ¬(p.modules.length:Int)>6:=by omega
  have g3: ¬(p.locks.length:Int)>4:=by omega
  have g4: ¬(p.threads.length:Int)>4:=by omega
  simp -dsimp [go_sem,g1,g2,g3,g4];refine zaq 72057593769492540 p.threads.length (fun i f=>(f 4).v=vi i/\zxn p=zx7 (fun _ x=>if zao x then 2 else 0) i (p.threads.drop i)) rfl rfl ⟨by simp -dsimp [go_sem],hm⟩ ?_;clear hm;rintro i f u kk bb hi ⟨h4,hm⟩;have hw:=zag i (by omega);simp -dsimp [go_sem,h4];refine zw1 (fun h=> ?_) (fun h=> ?_)<;>(try rw[h])<;>(try simp only[zab]at h)<;>(try simp -dsimp [go_sem])
  ·obtain⟨x,hx,_⟩:=zad ‹i<p.threads.length›;have AO:zao x=true->zxn p=(2,(i:Int)):=fun h0=>by rw[hm,zyg hx (by simp[h0])];simp[h0]
   simp -dsimp [go_sem,h4,hx]
   repeat'(refine zw1 (fun h=> ?_) (fun h=> ?_)<;>(try rw[h])<;>(try simp only[zab]at h)<;>(try simp -dsimp [go_sem,h4]))
   ·rw[AO (by simp[zao, *])];simp
   ·rw[AO (by simp[zao, *])];simp
   ·rw[AO (by simp[zao, *])];simp
   ·refine⟨by omega,by simp -dsimp [go_sem,hw],?_⟩;rw[hm,zbj hx (by simp[zao, *])]
  ·have:i=p.threads.length:=by omega
   subst this;rw[hm,zb3];simp
end Rg
end
section
-- FULL
namespace Rg
open Go
theorem zyc {α:Type} {P:α->Bool} {l:List α} {i j:Nat} {x:α} (hx:l[j]? =some x) (hj:j<i) (h:P x=true):(l.take i).any P=true:=by
 rw[List.any_eq_true];exact⟨x,zL (by rw[zO,if_pos hj];exact hx),h⟩
theorem zbm {α:Type} {P:α->Bool} {l:List α} {j:Nat} {x:α} (hx:l[j]? =some x):(l.take (j+1)).any P=((l.take j).any P||P x):=by
 rw[zac hx,List.any_append];simp
theorem zj7 (p:Prog) (hs:p.sane):Den Γ G 85 [(zP p)]=some (vi (zx2 p)):=by
 (refine zw3 Γ85 rfl ?_;dsimp only[f85])
 simp -dsimp [go_sem];refine zaq 2417851639229258349412348 p.cells.length (fun i f=>(f 3).v=vi i/\zx2 p=(zx7 (zx3 p) i (p.cells.drop i)).1) rfl rfl ⟨by simp -dsimp [go_sem],rfl⟩ ?_;rintro i f u kk bb hi ⟨h3,hm⟩;have Hc:=hs.cells;have hw:=zag i (by omega);simp -dsimp [go_sem,h3];refine zw1 (fun h=> ?_) (fun h=> ?_)<;>(try rw[h])<;>(try simp only[zab]at h)<;>(try simp -dsimp [go_sem,h3])
 ·obtain⟨c,hc,B9⟩:=zad ‹i<p.cells.length›
  have AO:za6 p c=true->zx2 p=1:=fun h0=>by
   have:zx3 p i c=1:=by simp[zx3,h0]
   rw[hm,zyg hc (by simp[this])];exact this
  have hl:=zc3 c.name (hs.cname c B9);have Ar:=zb1 c.module p.modules.length
  by_cases hb:za6 p c=true
  ·rw[AO hb]
   by_cases Ox:c.w<=8
   ·have hp:=zbR c.w (by omega);simp -dsimp [go_sem,h3,hc,hl]
    repeat'(refine zw1 (fun h=> ?_) (fun h=> ?_)<;>(try rw[h])<;>(try simp only[zab]at h)<;>(try simp -dsimp [go_sem,h3,hp,Ar]))
    all_goals(exfalso;simp only[za6,Bool.or_eq_true,Bool.not_eq_true',decide_eq_true_eq]at hb;grind)
   ·have g8:c.w>8:=by omega
    simp -dsimp [go_sem,h3,hc,hl,g8]
    repeat'(refine zw1 (fun h=> ?_) (fun h=> ?_)<;>(try rw[h])<;>(try simp only[zab]at h)<;>(try simp -dsimp [go_sem,h3,Ar]))
    all_goals(exfalso;omega)
  ·have Bi:=hb;simp only[za6,Bool.or_eq_true,Bool.not_eq_true',decide_eq_true_eq,not_or]at Bi;obtain⟨⟨⟨⟨⟨⟨⟨b1,b2⟩,b3⟩,b4⟩,b5⟩,b6⟩,b7⟩,b8⟩:=Bi;have b1:zxG c.name=true:=by simpa using b1
   have b8:inR c.module p.modules.length=true:=by simpa using b8
   rw[b1]at hl;rw[b8]at Ar;have hp:=zbR c.w (by omega);simp -dsimp [go_sem,h3,hc,hl,b2,b3,b4,hp,b5,b6,b7,Ar];refine zaq 2417704065276668672999460 i (fun k f'=>(f' 5).v=vi k/\(p.cells.take k).any (fun d=>d.name.toList==c.name.toList)=false) rfl rfl ⟨by simp -dsimp [go_sem],by simp⟩ ?_;rintro k f' u' kk' bb' hk ⟨h5,A3⟩;have Ay:=zag k (by omega);simp -dsimp [go_sem,h3,h5];refine zw1 (fun h=> ?_) (fun h=> ?_)<;>(try rw[h])<;>(try simp only[zab]at h)<;>(try simp -dsimp [go_sem,h3,h5])
   ·obtain⟨d,hd,IP⟩:=zad (show k<p.cells.length by omega);simp -dsimp [go_sem,h3,h5,hd];refine zw1 (fun h=> ?_) (fun h=> ?_)<;>(try rw[h])<;>(try simp only[zab]at h)<;>(try simp -dsimp [go_sem,h3,h5])
    ·have:zx3 p i c=41:=by
      rw[zx3,if_neg hb,if_pos (zyc hd ‹k<i› (by simpa using h))]
     rw[hm,zyg hc (by simp[this])];exact this.symm
    ·refine⟨by omega,by simp -dsimp [go_sem,Ay],?_⟩;rw[zbm hd,A3];simpa using h
   ·have:k=i:=by omega
    subst this;refine⟨by omega,by simp -dsimp [go_sem,hw],?_⟩;rw[hm,zbj hc (by rw[zx3,if_neg hb,if_neg (by simp[A3])])]
 ·have:i=p.cells.length:=by omega
  subst this;rw[hm,zb3]
theorem zzH {p:Prog} (h:zx2 p=0): ∀c∈p.cells,za6 p c=false:=by
 have key: ∀(l:List Cell) (i:Nat),(zx7 (zx3 p) i l).1=0-> ∀c∈l,za6 p c=false:=by
  intro l
  induction l with
  | nil=>intro i _ c hc;simp at hc
  | cons x r ih=>
    intro i h c hc;rw[zx7]at h;split at h
    ·rename_i h0;rcases List.mem_cons.1 hc with rfl | hc
     ·cases hb:za6 p c
      ·rfl
      ·simp[zx3,hb]at h0
     ·exact ih _ h c hc
    ·rename_i h0;exact absurd h h0
 exact key p.cells 0 h
theorem zzc {p:Prog} {c:Cell} (h:za6 p c=false):zxG c.name=true/\1<=c.w/\c.w<=8/\0<=c.init/\c.init<2^c.w.toNat/\ -1<=c.thread/\c.thread<p.threads.length/\inR c.module p.modules.length=true:=by
 simp only[za6,Bool.or_eq_false_iff,Bool.not_eq_false',decide_eq_false_iff_not]at h;obtain⟨⟨⟨⟨⟨⟨⟨b1,b2⟩,b3⟩,b4⟩,b5⟩,b6⟩,b7⟩,b8⟩:=h;exact⟨b1,by omega,by omega,by omega,by omega,by omega,by omega,b8⟩
theorem zcT {p:Prog} (h:zx2 p=0): ∀c∈p.cells,-1<=c.thread:=fun c hc=>(zzc (zzH h c hc)).2.2.2.2.2.1
theorem za3 {p:Prog} {c t:Int} {x:Cell} (h0:0<=c) (hx:p.cells[c.toNat]? =some x):zxb p t c=decide (x.thread=t):=by
 simp[zxb,h0,hx]
theorem zhj (p:Prog) (hs:p.sane) (Cp:zx2 p=0):Den Γ G 86 [(zP p)]=some (vi (zxB p)):=by
 (refine zw3 Γ86 rfl ?_;dsimp only[f86])
 simp -dsimp [go_sem];have Ed:=zcT Cp;refine zaq 39614081257132168796771975164 p.modules.length (fun i f=>(f 3).v=vi i/\zxB p=(zx7 (zyK p) i (p.modules.drop i)).1) rfl rfl ⟨by simp -dsimp [go_sem],rfl⟩ ?_;rintro i f u kk bb hi ⟨h3,hm⟩;have Hc:=hs.modules;have hw:=zag i (by omega);simp -dsimp [go_sem,h3];refine zw1 (fun h=> ?_) (fun h=> ?_)<;>(try rw[h])<;>(try simp only[zab]at h)<;>(try simp -dsimp [go_sem,h3])
 ·obtain⟨c,hc,B9⟩:=zad ‹i<p.modules.length›;obtain⟨s1,s2,s3⟩:=hs.mname c B9
  have Al: ∀k:Int,k≠0->zyK p i c=k->zxB p=k:=fun k hk h0=>by
   rw[hm,zyg hc (by rw[h0];exact hk)];exact h0
  have hl:=zc3 c.name s1;have Cz:=zc3 c.owner s2;simp -dsimp [go_sem,h3,hc,hl];refine zw1 (fun h=> ?_) (fun h=> ?_)<;>(try rw[h])<;>(try simp only[zab]at h)<;>(try simp -dsimp [go_sem,h3,Cz])
  ·rw[Al 1 (by decide) (by simp[zyK,h])]
  ·refine zw1 (fun h=> ?_) (fun h=> ?_)<;>(try rw[h])<;>(try simp only[zab]at h)<;>(try simp -dsimp [go_sem,h3])
   ·rw[Al 1 (by decide) (by simp[zyK,h])]
   ·have e1:zxG c.name=true:=by assumption
    have e2:zxG c.owner=true:=by assumption
    refine zaq 8795556151332 i (fun k f'=>(f' 5).v=vi k/\(p.modules.take k).any (fun d=>d.name.toList==c.name.toList)=false) rfl rfl ⟨by simp -dsimp [go_sem],by simp⟩ ?_;rintro k f' u' kk' bb' hk ⟨h5,A3⟩;have Ay:=zag k (by omega);simp -dsimp [go_sem,h3,h5];refine zw1 (fun h=> ?_) (fun h=> ?_)<;>(try rw[h])<;>(try simp only[zab]at h)<;>(try simp -dsimp [go_sem,h3,h5])
    ·obtain⟨d,hd,IP⟩:=zad (show k<p.modules.length by omega);simp -dsimp [go_sem,h3,h5,hd];refine zw1 (fun h=> ?_) (fun h=> ?_)<;>(try rw[h])<;>(try simp only[zab]at h)<;>(try simp -dsimp [go_sem,h3,h5])
     ·rw[Al 41 (by decide) (by rw[zyK,if_neg (by simp[e1,e2]),if_pos (zyc hd ‹k<i› (by simpa using h))])]
     ·refine⟨by omega,by simp -dsimp [go_sem,Ay],?_⟩;rw[zbm hd,A3];simpa using h
    ·have:k=i:=by omega
     subst this;have DV:=ziF c.rely;have Gy:=zcY Ed c.rely true (-1) (by omega);have GJ:=zcY Ed c.guar true (-1) (by omega)
     have ED:zyK p k c=if(!c.rely.absent&& !zxl p c.rely true (-1)) || !zxl p c.guar true (-1)then 60 else if !zyv c.frame || !c.frame.all (zxb p (-1))then 1 else 0:=by
      rw[zyK,if_neg (by simp[e1,e2]),if_neg (by simp[A3])]
     by_cases hr:((!c.rely.absent&& !zxl p c.rely true (-1)) || !zxl p c.guar true (-1))=true
     ·rw[Al 60 (by decide) (by rw[ED,if_pos hr])];simp -dsimp [go_sem,h3,DV]
      repeat'(refine zw1 (fun h=> ?_) (fun h=> ?_)<;>(try rw[h])<;>(try simp only[zab]at h)<;>(try simp -dsimp [go_sem,h3,Gy,GJ]))
      all_goals(exfalso;simp_all)
     ·have AE: ∀(Q:Prop),(c.rely.absent=true->zxl p c.guar true (-1)=true->Q)->(c.rely.absent=false->zxl p c.rely true (-1)=true->zxl p c.guar true (-1)=true->Q)->Q:=fun Q q1 q2=>by
       cases h1:c.rely.absent<;>cases h2:zxl p c.rely true (-1)<;>cases h3:zxl p c.guar true (-1)<;>simp_all
      rw[if_neg hr]at ED;refine AE _ (fun r1 r2=> ?_) (fun r1 r2 r3=> ?_)
      all_goals(
       (try rw[r1]at DV)
       (try rw[r2]at Gy)
       (try rw[r2]at GJ)
       (try rw[r3]at GJ)
       simp -dsimp [go_sem,h3,DV,Gy,GJ];refine zaq 2475880076264917540584554564 c.frame.length (fun j f2=>(f2 6).v=vi j/\c.frame.all (zxb p (-1))=(c.frame.drop j).all (zxb p (-1))) rfl rfl ⟨by simp -dsimp [go_sem],rfl⟩ ?_;rintro j f2 u2 kk2 bb2 hj ⟨h6,Aa⟩;have C4:=zag j (by omega);simp -dsimp [go_sem,h3,h6];refine zw1 (fun h=> ?_) (fun h=> ?_)<;>(try rw[h])<;>(try simp only[zab]at h)<;>(try simp -dsimp [go_sem,h3,h6])
       ·obtain⟨d,hd,IP⟩:=zad (show j<c.frame.length by omega);have Ar:=zb1 d p.cells.length
        have Bs:zxb p (-1) d=false->1=zxB p:=fun h0=>by
         rw[Al 1 (by decide) (by rw[ED,Aa,zaz hd h0];simp)]
        simp -dsimp [go_sem,h3,h6,hd,Ar];refine zw1 (fun h=> ?_) (fun h=> ?_)<;>(try rw[h])<;>(try simp only[zab]at h)<;>(try simp -dsimp [go_sem,h3,h6])
        ·exact Bs (zyU h)
        ·obtain⟨d0,x,hx⟩:=za5 h;have JV:=za3 (t:= -1) d0 hx;simp -dsimp [go_sem,h3,h6,hd,d0,hx];refine zw1 (fun h=> ?_) (fun h=> ?_)<;>(try rw[h])<;>(try simp only[zab]at h)<;>(try simp -dsimp [go_sem,h3,h6])
         ·exact Bs (by rw[JV];simpa using h)
         ·refine⟨by omega,by simp -dsimp [go_sem,C4],?_⟩;rw[Aa,zaA hd (by rw[JV];simpa using h)]
       ·have:j=c.frame.length:=by omega
        subst this;rw[zaQ]at Aa;rw[Aa]at ED;have Dw:=zfG c.frame (by omega);simp -dsimp [go_sem,h3,Dw];refine zw1 (fun h=> ?_) (fun h=> ?_)<;>(try rw[h])<;>(try simp only[zab]at h)<;>(try simp -dsimp [go_sem,h3])
        ·rw[Al 1 (by decide) (by rw[ED];simp[h])]
        ·refine⟨by omega,by simp -dsimp [go_sem,hw],?_⟩
         rw[hm,zbj hc (by rw[ED];simp[h])])
 ·have:i=p.modules.length:=by omega
  subst this;rw[hm,zb3]
end Rg
end
section
-- FULL
namespace Rg
open Go
theorem zau {p:Prog} {c:Int} {x:Cell} {g:Cell->Bool} (hx:p.cells[c.toNat]? =some x):zaO p c g=g x:=by simp[zaO,hx]
theorem zjL (p:Prog) (hs:p.sane) (Cp:zx2 p=0):Den Γ G 87 [(zP p)]=some (vi (zys p)):=by
 (refine zw3 Γ87 rfl ?_;dsimp only[f87])
 simp -dsimp [go_sem];have Ed:=zcT Cp;refine zaq 4835703278458516698824700 p.locks.length (fun i f=>(f 3).v=vi i/\zys p=(zx7 (zyq p) i (p.locks.drop i)).1) rfl rfl ⟨by simp -dsimp [go_sem],rfl⟩ ?_;rintro i f u kk bb hi ⟨h3,hm⟩;have Hc:=hs.locks;have hw:=zag i (by omega);simp -dsimp [go_sem,h3];refine zw1 (fun h=> ?_) (fun h=> ?_)<;>(try rw[h])<;>(try simp only[zab]at h)<;>(try simp -dsimp [go_sem,h3])
 ·obtain⟨l,hl,Ff⟩:=zad ‹i<p.locks.length›
  have Al: ∀k:Int,k≠0->zyq p i l=k->zys p=k:=fun k hk h0=>by
   rw[hm,zyg hl (by rw[h0];exact hk)];exact h0
  have Ar:=zb1 l.cell p.cells.length;have Fj:=zb1 l.module p.modules.length;simp -dsimp [go_sem,h3,hl,Ar];refine zw1 (fun h=> ?_) (fun h=> ?_)<;>(try rw[h])<;>(try simp only[zab]at h)<;>(try simp -dsimp [go_sem,h3])
  ·rw[Al 1 (by decide) (by simp[zyq,zyU h])]
  ·obtain⟨d0,x,hx⟩:=za5 h;have JV:=za3 (t:= -1) d0 hx;have CZ:=zau (g:=fun x=>decide (x.w=1)) hx;have C2:=zau (g:=Cell.ghost) hx;simp -dsimp [go_sem,h3,hl,d0,hx]
   by_cases AO:(!zxb p (-1) l.cell || !zaO p l.cell (fun x=>decide (x.w=1))||zaO p l.cell Cell.ghost || !inR l.module p.modules.length)=true
   ·rw[Al 1 (by decide) (by rw[zyq,if_pos AO])];rw[JV,CZ,C2]at AO
    repeat'(refine zw1 (fun h=> ?_) (fun h=> ?_)<;>(try rw[h])<;>(try simp only[zab]at h)<;>(try simp -dsimp [go_sem,h3,hl,d0,hx,Fj]))
    all_goals(exfalso;simp_all)
   ·have A4:zyq p i l=if(p.locks.take i).any (fun d=>decide (d.cell=l.cell))then 1 else if !zxl p l.inv false (-1)then 60 else 0:=by rw[zyq,if_neg AO]
    rw[JV,CZ,C2]at AO;simp only[Bool.or_eq_true,Bool.not_eq_true',decide_eq_false_iff_not,not_or,Decidable.not_not,Bool.not_eq_true,Bool.not_eq_false]at AO;obtain⟨⟨⟨b1,b2⟩,b3⟩,b4⟩:=AO;rw[b4]at Fj;simp -dsimp [go_sem,h3,hl,d0,hx,b1,b2,b3,Fj];refine zaq 151106504079791792062500 i (fun k f'=>(f' 5).v=vi k/\(p.locks.take k).any (fun d=>decide (d.cell=l.cell))=false) rfl rfl ⟨by simp -dsimp [go_sem],by simp⟩ ?_;rintro k f' u' kk' bb' hk ⟨h5,A3⟩;have Ay:=zag k (by omega);simp -dsimp [go_sem,h3,h5];refine zw1 (fun h=> ?_) (fun h=> ?_)<;>(try rw[h])<;>(try simp only[zab]at h)<;>(try simp -dsimp [go_sem,h3,h5])
    ·obtain⟨d,hd,IP⟩:=zad (show k<p.locks.length by omega);simp -dsimp [go_sem,h3,h5,hd];refine zw1 (fun h=> ?_) (fun h=> ?_)<;>(try rw[h])<;>(try simp only[zab]at h)<;>(try simp -dsimp [go_sem,h3,h5])
     ·rw[Al 1 (by decide) (by rw[A4,if_pos (zyc hd ‹k<i› (by simpa using h))])]
     ·refine⟨by omega,by simp -dsimp [go_sem,Ay],?_⟩;rw[zbm hd,A3];simpa using h
    ·have:k=i:=by omega
     subst this;rw[A3]at A4;have Gy:=zcY Ed l.inv false (-1) (by omega);simp -dsimp [go_sem,h3,Gy];refine zw1 (fun h=> ?_) (fun h=> ?_)<;>(try rw[h])<;>(try simp only[zab]at h)<;>(try simp -dsimp [go_sem,h3])
     ·rw[Al 60 (by decide) (by rw[A4];simp[h])]
     ·refine⟨by omega,by simp -dsimp [go_sem,hw],?_⟩;rw[hm,zbj hl (by rw[A4];simp[h])]
 ·have:i=p.locks.length:=by omega
  subst this;rw[hm,zb3]
end Rg
end
section
namespace Rg
open Go
theorem zko {e:Expr} (h:e.one=true) (op:Int) (Ao:op≠1):e.sup op=[]:=by
 simp only[Expr.one,decide_eq_true_eq]at h;obtain⟨h1,h2,h3,h4⟩:=h;rw[List.eq_nil_iff_forall_not_mem];intro c hc;obtain⟨_,_,x,hx,PB,_⟩:=zkp hc;rw[Expr.lv_eq,if_pos h4]at hx;simp only[List.mem_singleton]at hx;subst hx;omega
theorem zmK {p:Prog} {e:Expr} (h:e.one=true) (sh:Bool) (t:Int):zxI p e sh t=true:=by
 rw[zxI,zko h 3 (by decide),zko h 2 (by decide)];rfl
def zcr (p:Prog) (t:Int) (s:Step):Prop:=zxI p s.guard (decide (s.kind=4)) t=true/\
 ∀(j:Nat) (a:Assign),s.set[j]? =some a->((0<j\/s.kind≠2)->zxI p a.to (decide (s.kind=4)) t=true)/\(zxb p t a.cell=true\/zxb p (-1) a.cell=true)
theorem zBP {p:Prog} {t:Int} {s:Step} (h:zxJ p t s=true) (hk:1<=s.kind/\s.kind<=7):zcr p t s:=by
 unfold zxJ at h;split at h
 ·rename_i k;simp only[zxF,zF,zN]at h;refine⟨by simpa[k]using h.1.1,fun j a ha=>⟨fun _=>by simpa[k]using h.1.2 a (zL ha),.inl (h.2 a (zL ha))⟩⟩
 ·split at h
  ·rename_i k;unfold zzE at h;split at h
   ·simp at h
   ·rename_i a r hs;simp only[zF,zN]at h;obtain⟨⟨⟨⟨⟨⟨g1,g2⟩,g3⟩,g4⟩,g5⟩,g6⟩,g7⟩:=h;refine⟨by simpa[k]using g1,fun j b hb=> ?_⟩;rw[hs]at hb
    cases j with
    | zero=>simp at hb;subst hb;exact⟨fun h0=>by simp[k]at h0,.inl g2⟩
    | succ j=>
      simp only[List.getElem?_cons_succ]at hb;have:=g7 b (zL hb);exact⟨fun _=>by simpa[k]using this.2,.inl this.1.1⟩
  ·split at h
   ·rename_i k;unfold zy6 at h;split at h
    ·simp at h
    ·rename_i a r hs;simp only[zxF,zF,zN]at h;obtain⟨⟨⟨⟨g1,g2⟩,g3⟩,g4⟩,g5⟩:=h;refine⟨by simpa[k]using g1,fun j b hb=>⟨fun _=>by simpa[k]using g2 b (zL hb),?_⟩⟩;rw[hs]at hb
     cases j with
     | zero=>simp at hb;subst hb;exact .inr g3
     | succ j=>
       simp only[List.getElem?_cons_succ]at hb;have:=(g5 b (zL hb)).2;simp only[zAq,Bool.or_eq_true]at this;exact this.symm
   ·split at h
    ·rename_i k;simp only[zxF,zF,zN]at h;refine⟨by simpa[k]using h.1.1,fun j a ha=>⟨fun _=>by simpa[k]using h.1.2 a (zL ha),?_⟩⟩;have:=h.2 a (zL ha);simp only[zAq,Bool.or_eq_true]at this;exact this.symm
    ·have key:s.guard.one=true/\s.set=[]:=by
      split at h
      ·simpa using h
      ·split at h
       ·simp only[zyz,zF,decide_eq_true_eq]at h;exact h.1.1.1
       ·simp only[zyz,zF,decide_eq_true_eq]at h;exact h.1.1
     refine⟨zmK key.1 _ _,fun j a ha=>by rw[key.2]at ha;simp at ha⟩
theorem zdZ {p:Prog} {t:Int} {s:Step} (h:zcr p t s) (hk:s.kind≠2):zxF p s (decide (s.kind=4)) t=true:=by
 simp only[zxF,zF,zN];refine⟨h.1,fun a ha=> ?_⟩;obtain⟨j,hj,rfl⟩:=List.mem_iff_getElem.1 ha;exact(h.2 j _ (zI hj)).1 (.inr hk)
theorem zi1 {p:Prog} {t:Int} {s:Step} (h:zcr p t s) {a:Assign} (ha:a∈s.set):zAq p t a.cell=true:=by
 obtain⟨j,hj,rfl⟩:=List.mem_iff_getElem.1 ha;have:=(h.2 j _ (zI hj)).2;simp only[zAq,Bool.or_eq_true];exact this.symm
theorem zrZ {p:Prog} {t:Int} {s:Step} (h:zcr p t s) (hk:s.kind=1):zxJ p t s=s.set.all fun a=>zxb p t a.cell:=by
 have:=zdZ h (by omega);rw[zxJ,if_pos hk];simp only[hk]at this;rw[show(decide ((1:Int)=4))=false from rfl]at this;rw[this,Bool.true_and]
theorem zrY {p:Prog} {t:Int} {s:Step} (h:zcr p t s) (hk:s.kind=2) {a:Assign} {r:List Assign} (hs:s.set=a::r):
 zxJ p t s=(zxb p t a.cell&& !zaO p a.cell Cell.ghost&&decide (a.to.op=2)&&zxb p (-1) a.to.n&& !zaO p a.to.n Cell.ghost&&r.all fun b=>zxb p t b.cell&&zaO p b.cell Cell.ghost):=by
 have h1:=h.1;simp only[hk]at h1;rw[show(decide ((2:Int)=4))=false from rfl]at h1;rw[zxJ,if_neg (by omega),if_pos hk,zzE,hs];simp only[h1,Bool.true_and]
 congr 1
 refine zdQ fun b hb=> ?_
 obtain⟨j,hj,rfl⟩:=List.mem_iff_getElem.1 hb;have:=(h.2 (j+1) r[j] (by rw[hs];simp[hj])).1 (.inl (by omega));simp only[hk]at this;rw[show(decide ((2:Int)=4))=false from rfl]at this;rw[this,Bool.and_true]
theorem zrX {p:Prog} {t:Int} {s:Step} (h:zcr p t s) (hk:s.kind=3) {a:Assign} {r:List Assign} (hs:s.set=a::r):
 zxJ p t s=(zxb p (-1) a.cell&& !zaO p a.cell Cell.ghost&&r.all fun b=>zaO p b.cell Cell.ghost):=by
 have h1:=zdZ h (by omega);simp only[hk]at h1;rw[show(decide ((3:Int)=4))=false from rfl]at h1;have h2: ∀b∈r,zAq p t b.cell=true:=fun b hb=>zi1 h (by rw[hs];simp[hb])
 rw[zxJ,if_neg (by omega),if_neg (by omega),if_pos hk,zy6,hs];simp only[h1,Bool.true_and]
 congr 1
 refine zdQ fun b hb=> ?_
 rw[h2 b hb,Bool.and_true]
theorem zrW {p:Prog} {t:Int} {s:Step} (h:zcr p t s) (hk:s.kind=4):zxJ p t s=true:=by
 have h1:=zdZ h (by omega);simp only[hk,decide_true]at h1;rw[zxJ,if_neg (by omega),if_neg (by omega),if_neg (by omega),if_pos hk,h1,Bool.true_and,zN];exact fun a ha=>zi1 h ha
theorem znL {p:Prog} {t:Int} {s:Step} (hk:s.kind=2\/s.kind=3) (hs:s.set=[]):zxJ p t s=false:=by
 rcases hk with hk | hk
 ·rw[zxJ,if_neg (by omega),if_pos hk,zzE,hs]
 ·rw[zxJ,if_neg (by omega),if_neg (by omega),if_pos hk,zy6,hs]
def zfk (p:Prog) (s:Step):Prop:=s.guard.valid p.cells false=true/\ ∀a∈s.set,inR a.cell p.cells.length=true/\a.to.valid p.cells false=true
theorem zAu {p:Prog} {e:Expr} (h:e.valid p.cells false=true) (ho:e.op=2):inR e.n p.cells.length=true:=by
 have hf:e.formed=true:=by unfold Expr.valid at h;simp only[zF]at h;exact h.1
 have h0:=zc1 (zxO (zxk hf));unfold Expr.valid at h;simp only[zF]at h;have:=Expr.allE_self h.2;unfold zxS at this;simp only[ho]at this;rcases hy:p.cells[e.n.toNat]? with _ | y
 ·simp[hy]at this
 ·have:=(zH.1 hy).1;simp only[inR,decide_eq_true_eq];omega
theorem zld (p:Prog) (Ed: ∀c∈p.cells,-1<=c.thread) (t:Int) (ht:0<=t) (s:Step) (Ac:s.set.length<2^48) (hr:zfk p s) (hk:1<=s.kind/\s.kind<=7):
 Den Γ G 137 [(zP p),vi t,(zS s)]=some (vb (zxJ p t s)):=by
 (refine zw3 Γ137 rfl ?_;dsimp only[f137])
 have hg:=zdH Ed (zzm hr.1) (decide (s.kind=4)) t (by omega) (.inr ht)
 have Bs: ¬zcr p t s->false=zxJ p t s:=fun h0=>by
  cases h:zxJ p t s
  ·rfl
  ·exact absurd (zBP h hk) h0
 simp -dsimp only[go_sem,seval,hg];refine zw1 (fun h=> ?_) (fun h=> ?_)<;>(try rw[h])<;>(try simp only[zab]at h)<;>(try simp -dsimp only[go_sem,seval])
 ·exact Bs (fun h0=>by rw[h0.1]at h;simp at h)
 ·have Ge:zxI p s.guard (decide (s.kind=4)) t=true:=by assumption
  refine zaq 1180591620717142869568 s.set.length (fun i f=>(f 9).v=vi i/\ ∀(j:Nat) (a:Assign),j<i->s.set[j]? =some a->((0<j\/s.kind≠2)->zxI p a.to (decide (s.kind=4)) t=true)/\(zxb p t a.cell=true\/zxb p (-1) a.cell=true)) rfl rfl ⟨by simp -dsimp only[go_sem,seval],fun j a hj=>by omega⟩ ?_;rintro i f u kk bb hi ⟨h9,Cw⟩;have hw:=zag i (by omega);simp -dsimp only[go_sem,seval,h9];refine zw1 (fun h=> ?_) (fun h=> ?_)<;>(try rw[h])<;>(try simp only[zab]at h)<;>(try simp -dsimp only[go_sem,seval,h9])
  ·obtain⟨a,ha,Cj⟩:=zad ‹i<s.set.length›;obtain⟨Ar,Bn⟩:=hr.2 a Cj;have ho:=zdH Ed (zzm Bn) (decide (s.kind=4)) t (by omega) (.inr ht);obtain⟨d0,x,hx⟩:=za5 Ar;have Ab:=zey p a.cell t x d0 hx;have Bj:=zdm p a.cell x d0 hx;have o1:=za3 (t:=t) d0 hx;have o2:=za3 (t:= -1) d0 hx
   repeat'(refine zw1 (fun h=> ?_) (fun h=> ?_)<;>(try rw[h])<;>(try simp only[zab]at h)<;>(try simp -dsimp only[go_sem,seval,h9,ha,ho,Ab,Bj]))
   all_goals first
    | (refine Bs (fun h0=> ?_)
       have h1:=h0.2 i a ha;rw[o1,o2]at h1;have h2:=h1.1;have h3:=h1.2
       simp_all
       done)
    | (refine⟨by omega,by simp -dsimp only[go_sem,seval,hw],fun j b hj hb=> ?_⟩
       by_cases Fg:j=i
       ·subst Fg;rw[ha]at hb;cases hb;rw[o1,o2]
        simp_all
        done
       ·exact Cw j b (by omega) hb)
    | skip
  ·have Lw:i=s.set.length:=by omega
   have hP:zcr p t s:=⟨Ge,fun j a ha=>Cw j a (by rw[Lw];exact(zH.1 ha).1) ha⟩
   clear Cw hg Bs Ge;have CU:s.kind=1\/s.kind=2\/s.kind=3\/s.kind=4\/s.kind=5\/s.kind=6\/s.kind=7:=by omega
   rcases CU with k | k | k | k | k | k | k
   ·have hK:=zrZ hP k;simp -dsimp only[go_sem,seval,k];refine zaq 618951130176758658868709440 s.set.length (fun j f'=>(f' 11).v=vi j/\zxJ p t s=(s.set.drop j).all fun a=>zxb p t a.cell) rfl rfl ⟨by simp -dsimp only[go_sem,seval],hK⟩ ?_;rintro j f' u' kk' bb' hj ⟨Bf,Aa⟩;have Ay:=zag j (by omega);simp -dsimp only[go_sem,seval,Bf];refine zw1 (fun h=> ?_) (fun h=> ?_)<;>(try rw[h])<;>(try simp only[zab]at h)<;>(try simp -dsimp only[go_sem,seval,Bf])
    ·obtain⟨a,ha,Cj⟩:=zad ‹j<s.set.length›;obtain⟨d0,x,hx⟩:=za5 (hr.2 a Cj).1;have Ab:=zey p a.cell t x d0 hx;have o1:=za3 (t:=t) d0 hx;simp -dsimp only[go_sem,seval,Bf,ha,Ab];refine zw1 (fun h=> ?_) (fun h=> ?_)<;>(try rw[h])<;>(try simp only[zab]at h)<;>(try simp -dsimp only[go_sem,seval,Bf])
     ·rw[Aa,zaz ha (by rw[o1];simpa using h)]
     ·refine⟨by omega,by simp -dsimp only[go_sem,seval,Ay],?_⟩;rw[Aa,zaA ha (by rw[o1];simpa using h)]
    ·have:j=s.set.length:=by omega
     subst this;rw[Aa,zaQ]
   ·rcases hs:s.set with _ | ⟨a,r⟩
    ·rw[znL (.inl k) hs];simp -dsimp only[go_sem,seval,k,hs]
    ·have hK:=zrY hP k hs;have BU:s.set.length=r.length+1:=by rw[hs];rfl
     have h0:s.set[0]? =some a:=by rw[hs];rfl
     have Cj:a∈s.set:=by rw[hs];simp
     obtain⟨d0,x,hx⟩:=za5 (hr.2 a Cj).1;have Ab:=zey p a.cell t x d0 hx;have o1:=za3 (t:=t) d0 hx;have o2:=zau (g:=Cell.ghost) hx;have A8: ¬(((r.length+1:Nat):Int)=0):=by omega
     simp -dsimp only[go_sem,seval,k,BU,A8,h0,Ab];refine zw1 (fun h=> ?_) (fun h=> ?_)<;>(try rw[h])<;>(try simp only[zab]at h)<;>(try simp -dsimp only[go_sem,seval,k,BU,h0,d0,hx])
     ·rw[hK,o1];simp[h]
     ·have e1:x.thread=t:=by assumption
      refine zw1 (fun h=> ?_) (fun h=> ?_)<;>(try rw[h])<;>(try simp only[zab]at h)<;>(try simp -dsimp only[go_sem,seval,k,BU,h0,d0,hx])
      ·rw[hK,o2];simp[h]
      ·have e2:x.ghost=false:=by assumption
       refine zw1 (fun h=> ?_) (fun h=> ?_)<;>(try rw[h])<;>(try simp only[zab]at h)<;>(try simp -dsimp only[go_sem,seval,k,BU,h0,d0,hx])
       ·rw[hK];simp[h]
       ·have e3:a.to.op=2:=by assumption
        obtain⟨d1,y,hy⟩:=za5 (zAu (hr.2 a Cj).2 e3);have Bj:=zdm p a.to.n y d1 hy;have q1:=za3 (t:= -1) d1 hy;have q2:=zau (g:=Cell.ghost) hy;simp -dsimp only[go_sem,seval,Bj];refine zw1 (fun h=> ?_) (fun h=> ?_)<;>(try rw[h])<;>(try simp only[zab]at h)<;>(try simp -dsimp only[go_sem,seval,d1,hy])
        ·rw[hK,q1];simp[h]
        ·have e4:y.thread= -1:=by assumption
         refine zw1 (fun h=> ?_) (fun h=> ?_)<;>(try rw[h])<;>(try simp only[zab]at h)<;>(try simp -dsimp only[go_sem,seval,d1,hy])
         ·rw[hK,q2];simp[h]
         ·rw[o1,o2,q1,q2]at hK;simp only[e1,e2,e3,e4,h,decide_true,Bool.not_false,Bool.and_true,Bool.true_and]at hK;refine zaq 748288836919625719212122688004754514023314867888192 r.length (fun j f'=>(f' 13).v=vi ((j+1:Nat):Int)/\zxJ p t s=(r.drop j).all fun b=>zxb p t b.cell&&zaO p b.cell Cell.ghost) rfl rfl ⟨by simp -dsimp only[go_sem,seval],hK⟩ ?_;rintro j f' u' kk' bb' hj ⟨Db,Aa⟩;have Ay:=zag (j+1) (by omega);simp -dsimp only[go_sem,seval,Db,BU];refine zw1 (fun h=> ?_) (fun h=> ?_)<;>(try rw[h])<;>(try simp only[zab]at h)<;>(try simp -dsimp only[go_sem,seval,Db,BU])
          ·obtain⟨b,hb,KM⟩:=zad (show j<r.length by omega);have Bi:s.set[j+1]? =some b:=by rw[hs];exact hb
           obtain⟨d2,z,hz⟩:=za5 (hr.2 b (by rw[hs];simp[KM])).1;have JU:=zey p b.cell t z d2 hz;have z1:=za3 (t:=t) d2 hz;have z2:=zau (g:=Cell.ghost) hz;simp -dsimp only[go_sem,seval,Db,hb,JU]
           repeat'(refine zw1 (fun h=> ?_) (fun h=> ?_)<;>(try rw[h])<;>(try simp only[zab]at h)<;>(try simp -dsimp only[go_sem,seval,Db,hb,d2,hz]))
           all_goals first
            | (rw[Aa,zaz hb (by rw[z1,z2];simp[*])];done)
            | (refine⟨by omega,by simp -dsimp only[go_sem,seval,Ay],?_⟩
               rw[Aa,zaA hb (by rw[z1,z2];simp[*])])
          ·have:j=r.length:=by omega
           subst this;rw[Aa,zaQ]
   ·rcases hs:s.set with _ | ⟨a,r⟩
    ·rw[znL (.inr k) hs];simp -dsimp only[go_sem,seval,k,hs]
    ·have hK:=zrX hP k hs;have BU:s.set.length=r.length+1:=by rw[hs];rfl
     have h0:s.set[0]? =some a:=by rw[hs];rfl
     have Cj:a∈s.set:=by rw[hs];simp
     obtain⟨d0,x,hx⟩:=za5 (hr.2 a Cj).1;have Bj:=zdm p a.cell x d0 hx;have o1:=za3 (t:= -1) d0 hx;have o2:=zau (g:=Cell.ghost) hx;have A8: ¬(((r.length+1:Nat):Int)=0):=by omega
     simp -dsimp only[go_sem,seval,k,BU,A8,h0,Bj];refine zw1 (fun h=> ?_) (fun h=> ?_)<;>(try rw[h])<;>(try simp only[zab]at h)<;>(try simp -dsimp only[go_sem,seval,k,BU,h0,d0,hx])
     ·rw[hK,o1];simp[h]
     ·have e1:x.thread= -1:=by assumption
      refine zw1 (fun h=> ?_) (fun h=> ?_)<;>(try rw[h])<;>(try simp only[zab]at h)<;>(try simp -dsimp only[go_sem,seval,k,BU,h0,d0,hx])
      ·rw[hK,o2];simp[h]
      ·rw[o1,o2]at hK;simp only[e1,h,decide_true,Bool.not_false,Bool.and_true,Bool.true_and]at hK;refine zaq 6581968012470941075173766043914016358599614643690763741118349376 r.length (fun j f'=>(f' 14).v=vi ((j+1:Nat):Int)/\zxJ p t s=(r.drop j).all fun b=>zaO p b.cell Cell.ghost) rfl rfl ⟨by simp -dsimp only[go_sem,seval],hK⟩ ?_;rintro j f' u' kk' bb' hj ⟨Db,Aa⟩;have Ay:=zag (j+1) (by omega);simp -dsimp only[go_sem,seval,Db,BU];refine zw1 (fun h=> ?_) (fun h=> ?_)<;>(try rw[h])<;>(try simp only[zab]at h)<;>(try simp -dsimp only[go_sem,seval,Db,BU])
       ·obtain⟨b,hb,KM⟩:=zad (show j<r.length by omega);have Bi:s.set[j+1]? =some b:=by rw[hs];exact hb
        obtain⟨d2,z,hz⟩:=za5 (hr.2 b (by rw[hs];simp[KM])).1;have z2:=zau (g:=Cell.ghost) hz;simp -dsimp only[go_sem,seval,Db,hb,d2,hz];refine zw1 (fun h=> ?_) (fun h=> ?_)<;>(try rw[h])<;>(try simp only[zab]at h)<;>(try simp -dsimp only[go_sem,seval,Db])
        ·rw[Aa,zaz hb (by rw[z2];simp[h])]
        ·refine⟨by omega,by simp -dsimp only[go_sem,seval,Ay],?_⟩;rw[Aa,zaA hb (by rw[z2];simp[h])]
       ·have:j=r.length:=by omega
        subst this;rw[Aa,zaQ]
   ·rw[zrW hP k];simp -dsimp only[go_sem,seval,k]
   all_goals(
    have ho:=zmO;have AJ:=zh6 s.guard;have Ar:=zb1 s.target p.threads.length
    have Ey:zxJ p t s=(if s.kind=5 then s.guard.one&&decide (s.set=[])else if s.kind=6 then zyz p t s&&zc8 p s.target else zyz p t s):=by
     rw[zxJ,if_neg (by omega),if_neg (by omega),if_neg (by omega),if_neg (by omega)]
    simp only[k]at Ey;rw[show decide (s.guard.op=1/\s.guard.w=1/\s.guard.n=1/\s.guard.kids=[])=s.guard.one from rfl]at AJ
    by_cases hn:s.set=[]
    ·have BV:s.set.length=0:=by rw[hn];rfl
     by_cases IC:inR s.target p.threads.length=true
     ·have K6:=IC;simp only[inR,decide_eq_true_eq]at K6;obtain⟨t0,t1⟩:=K6;obtain⟨y,hy⟩: ∃y,p.threads[s.target.toNat]? =some y:=⟨_,zI (by omega)⟩
      have DU:zc8 p s.target=y.asleep:=by simp[zc8,hy]
      rw[IC]at Ar;simp -dsimp only[go_sem,seval,k,BV,ho,AJ]
      repeat'(refine zw1 (fun h=> ?_) (fun h=> ?_)<;>(try rw[h])<;>(try simp only[zab]at h)<;>(try simp -dsimp only[go_sem,seval,k,Ar,t0,hy]))
      all_goals(
       rw[Ey]
       simp[zyz, *])
     ·have IC:inR s.target p.threads.length=false:=by simpa using IC
      rw[IC]at Ar;simp -dsimp only[go_sem,seval,k,BV,ho,AJ]
      repeat'(refine zw1 (fun h=> ?_) (fun h=> ?_)<;>(try rw[h])<;>(try simp only[zab]at h)<;>(try simp -dsimp only[go_sem,seval,k,Ar]))
      all_goals(
       rw[Ey]
       simp[zyz, *])
    ·have BV:(s.set.length:Int)>0:=by have:=List.length_pos_iff.2 hn;omega
     simp -dsimp only[go_sem,seval,k,BV];rw[Ey]
     simp[zyz,hn])
end Rg
end
section
-- FULL
namespace Rg
open Go
theorem zbX {p:Prog} {set:List Assign}: ∀{l:List Assign} {i:Nat},(zx7 (zxH p set) i l).1=0-> ∀a∈l,inR a.cell p.cells.length=true/\a.to.valid p.cells false=true
 | [],_,_,a,ha=>by simp at ha
 | x::r,i,h,a,ha=>by
   rw[zx7]at h;split at h
   ·rename_i h0;rcases List.mem_cons.1 ha with rfl | ha
    ·unfold zxH at h0;split at h0
     ·simp at h0
     ·rename_i h1;split at h0
      ·simp at h0
      ·rename_i h2;simp only[Bool.or_eq_true,not_or,Bool.not_eq_true',Bool.not_eq_false]at h1 h2;exact⟨h1.1,h2.1⟩
    ·exact zbX h a ha
   ·rename_i h0;exact absurd h h0
set_option maxHeartbeats 4000000 in
theorem zkr (p:Prog) (Ed: ∀c∈p.cells,-1<=c.thread) (t:Int) (ht:0<=t) (x:Thread) (hx:p.threads[t.toNat]? =some x) (J8: -2^48<x.points/\x.points<2^48) (s:Step) (Ac:s.set.length<2^48):
 Den Γ G 114 [(zP p),vi t,(zS s)]=some (vi (zxm p t x.points s)):=by
 (refine zw3 Γ114 rfl ?_;dsimp only[f114])
 have Cq:IntKind.i64.wrap (x.points-1)=x.points-1:=zaj (by omega);have Cg:=zb1 s.fr (x.points-1);have C0:=zb1 s.to x.points;have D1:=zb1 s.module p.modules.length;have hv:=zcX s.guard p.cells false;simp -dsimp [go_sem,ht,hx]
 by_cases AO:zbN p x.points s=true
 ·rw[zxm,if_pos AO]
  repeat'(refine zw1 (fun h=> ?_) (fun h=> ?_)<;>(try rw[h])<;>(try simp only[zab]at h)<;>(try simp -dsimp [go_sem,ht,hx,Cq,Cg,C0,D1]))
  all_goals(exfalso;simp only[zbN,Bool.or_eq_true,zF,Bool.not_eq_true',decide_eq_true_eq]at AO;simp_all;try omega)
 ·have HY:zxm p t x.points s=if !s.guard.valid p.cells false||decide (s.guard.w≠1)then 60 else if ¬(zx7 (zxH p s.set) 0 s.set).1=0 then(zx7 (zxH p s.set) 0 s.set).1 else if zxJ p t s then 0 else 70:=by rw[zxm,if_neg AO]
  have Bi:zbN p x.points s=false:=by simpa using AO
  simp only[zbN,Bool.or_eq_false_iff,Bool.and_eq_false_iff,Bool.not_eq_false',decide_eq_false_iff_not]at Bi;obtain⟨⟨⟨⟨⟨⟨b1,b2⟩,b3⟩,b4⟩,b5⟩,b6⟩,b7⟩:=Bi;rw[b3]at Cg;rw[b4]at C0;rw[b5]at D1
  have AU: ∀Q:Prop,(∀(c3 c6 c7 r tz:Bool),decide (s.kind=6)=c6->decide (s.kind=7)=c7->decide (s.kind=3)=c3->s.release=r->decide (s.target=0)=tz->
   ((c6=true/\r=false)\/(c6=false/\c7=true/\r=false)\/(c6=false/\c7=false/\tz=true/\r=false)\/(c6=false/\c7=false/\tz=true/\r=true/\c3=true))->Q)->Q:=fun Q q=>by
   refine q _ _ _ _ _ rfl rfl rfl rfl rfl ?_;simp only[decide_eq_true_eq,decide_eq_false_iff_not]
   by_cases h6:s.kind=6<;>by_cases h7:s.kind=7<;>by_cases h3:s.kind=3<;>cases hr:s.release<;>by_cases hz:s.target=0<;>simp_all
  refine AU _ (fun c3 c6 c7 r tz e6 e7 e3 er ez hc=> ?_);have Cn:s.guard.valid p.cells false=true->s.guard.w=1->zxm p t x.points s=if ¬(zx7 (zxH p s.set) 0 s.set).1=0 then(zx7 (zxH p s.set) 0 s.set).1 else if zxJ p t s then 0 else 70:=fun g1 g2=>by rw[HY,if_neg (by simp[g1,g2])]
  have E1:(s.guard.valid p.cells false=false\/ ¬s.guard.w=1)->zxm p t x.points s=60:=fun g=>by rw[HY,if_pos (by rcases g with g | g<;>simp[g])]
  have b1':1<=s.kind/\s.kind<=7:=by omega
  have e3':(decide ¬s.kind=3)= !c3:=by rw[<- e3];simp
  have ez':(decide ¬s.target=0)= !tz:=by rw[<- ez];simp
  rcases hc with⟨rfl,rfl⟩ | ⟨rfl,rfl,rfl⟩ | ⟨rfl,rfl,rfl,rfl⟩ | ⟨rfl,rfl,rfl,rfl,rfl⟩
  all_goals(try cases tz)
  all_goals(try cases c3)
  all_goals(try(exfalso;simp only[decide_eq_true_eq]at e3 e6 e7;omega))
  all_goals(
   (try simp only[Bool.not_true,Bool.not_false]at e3' ez')
   simp -dsimp [go_sem,ht,hx,Cq,Cg,C0,D1,b1,b2,e6,e7,e3',ez',er,hv]
   repeat'(refine zw1 (fun h=> ?_) (fun h=> ?_)<;>(try rw[h])<;>(try simp only[zab]at h)<;>(try simp -dsimp [go_sem,hv])))
  all_goals(try(rw[E1 (.inl ‹_›)];done))
  all_goals(try(rw[E1 (.inr ‹_›)];done))
  all_goals(
   have Cn:=Cn ‹_› ‹_›;have L2:s.guard.valid p.cells false=true:=by assumption
   clear AU E1 HY hv Cg C0 D1 e3' ez' er e3;refine zaq 89202980794122492256657863269248377299144256 s.set.length (fun i f=>(f 9).v=vi i/\zx7 (zxH p s.set) 0 s.set=zx7 (zxH p s.set) i (s.set.drop i)) rfl rfl ⟨by simp -dsimp [go_sem],rfl⟩ ?_;rintro i f u kk bb hi ⟨h9,hm⟩;have hw:=zag i (by omega);simp -dsimp [go_sem,h9];refine zw1 (fun h=> ?_) (fun h=> ?_)<;>(try rw[h])<;>(try simp only[zab]at h)<;>(try simp -dsimp [go_sem,h9])
   ·obtain⟨a,ha,Cj⟩:=zad ‹i<s.set.length›;have Cg:=zb1 a.cell p.cells.length
    have Al: ∀k:Int,k≠0->zxH p s.set i a=k->zxm p t x.points s=k:=fun k hk h0=>by
     have h2:=hm.trans (zyg ha (by rw[h0];exact hk));rw[Cn,h2,h0,if_pos hk]
    simp -dsimp [go_sem,h9,ha,Cg];refine zw1 (fun h=> ?_) (fun h=> ?_)<;>(try rw[h])<;>(try simp only[zab]at h)<;>(try simp -dsimp [go_sem,h9])
    ·rw[Al 70 (by decide) (by simp[zxH,h])]
    ·have Hz:inR a.cell p.cells.length=true:=by assumption
     obtain⟨d0,y,hy⟩:=za5 Hz;refine zaq 1329065736508086659540415482270058560 i (fun k f'=>(f' 11).v=vi k/\(s.set.take k).any (fun b=>decide (b.cell=a.cell))=false) rfl rfl ⟨by simp -dsimp [go_sem],by simp⟩ ?_;rintro k f' u' kk' bb' hk ⟨Bf,A3⟩;have Ay:=zag k (by omega);simp -dsimp [go_sem,h9,Bf];refine zw1 (fun h=> ?_) (fun h=> ?_)<;>(try rw[h])<;>(try simp only[zab]at h)<;>(try simp -dsimp [go_sem,h9,Bf])
     ·obtain⟨d,hd,IP⟩:=zad (show k<s.set.length by omega);simp -dsimp [go_sem,h9,Bf,hd];refine zw1 (fun h=> ?_) (fun h=> ?_)<;>(try rw[h])<;>(try simp only[zab]at h)<;>(try simp -dsimp [go_sem,h9,Bf])
      ·rw[Al 70 (by decide) (by rw[zxH,if_pos (by rw[zyc hd ‹k<i› (by simpa using h)];simp)])]
      ·refine⟨by omega,by simp -dsimp [go_sem,Ay],?_⟩;rw[zbm hd,A3];simpa using h
     ·have:k=i:=by omega
      subst this;have D3:=zcX a.to p.cells false;have GZ:=zau (g:=fun x=>decide (a.to.w=x.w)) hy
      have D6:zxH p s.set k a=if !a.to.valid p.cells false || !zaO p a.cell (fun x=>decide (a.to.w=x.w))then 60 else 0:=by
       rw[zxH,if_neg (by rw[Hz,A3];simp)]
      rw[GZ]at D6;simp -dsimp [go_sem,h9,ha,D3];refine zw1 (fun h=> ?_) (fun h=> ?_)<;>(try rw[h])<;>(try simp only[zab]at h)<;>(try simp -dsimp [go_sem,h9,ha,d0,hy])
      ·rw[Al 60 (by decide) (by rw[D6];simp[h])]
      ·have Jk:a.to.valid p.cells false=true:=by assumption
       refine zw1 (fun h=> ?_) (fun h=> ?_)<;>(try rw[h])<;>(try simp only[zab]at h)<;>(try simp -dsimp [go_sem,h9,ha,d0,hy])
       ·rw[Al 60 (by decide) (by rw[D6];simp[h])]
       ·refine⟨by omega,by simp -dsimp [go_sem,hw],?_⟩;rw[hm,zbj ha (by rw[D6];simp[h,Jk])]
   ·have:i=s.set.length:=by omega
    subst this;rw[zb3]at hm;rw[hm,if_neg (by simp)]at Cn;have Ey:=zld p Ed t ht s Ac ⟨L2,zbX (i:=0) (set:=s.set) (by rw[hm])⟩ b1';simp -dsimp [go_sem,Ey];refine zw1 (fun h=> ?_) (fun h=> ?_)<;>(try rw[h])<;>(try simp only[zab]at h)<;>(try simp -dsimp [go_sem])
    ·rw[Cn];simp[h]
    ·rw[Cn];simp[h])
end Rg
end
section
-- FULL
namespace Rg
open Go
set_option maxHeartbeats 4000000 in
theorem zhY (p:Prog) (hs:p.sane) (Cp:zx2 p=0) (t:Nat) (x:Thread) (hx:p.threads[t]? =some x) (J8:x.points<2^48):
 Den Γ G 88 [(zP p),vi t]=some (.tup [vi (zxa p t x).1,vi (zxa p t x).2]):=by
 (refine zw3 Γ88 rfl ?_;dsimp only[f88])
 have Ed:=zcT Cp;have Ct:=zL hx;obtain⟨s1,s2,s3,s4,s5⟩:=hs.thr x Ct;have hl:=zc3 x.name s1;have Ln:(0:Int)<=(t:Int):=by omega
 have Dv:t<p.threads.length:=(zH.1 hx).1;have Cm:=hs.threads;have DX:p.threads[(t:Int).toNat]? =some x:=by simpa using hx
 simp -dsimp [go_sem,Ln,hx,hl];refine zw1 (fun h=> ?_) (fun h=> ?_)<;>(try rw[h])<;>(try simp only[zab]at h)<;>(try simp -dsimp [go_sem])
 ·have:zxa p t x=(1,-1):=by rw[zxa,if_pos (by simp[h])]
  rw[this];simp
 ·have e1:zxG x.name=true:=by assumption
  refine zaq 274861129904 t (fun k f=>(f 7).v=vi k/\(p.threads.take k).any (fun d=>d.name.toList==x.name.toList)=false) rfl rfl ⟨by simp -dsimp [go_sem],by simp⟩ ?_;rintro k f u kk bb hk ⟨h7,A3⟩;have hw:=zag k (by omega);simp -dsimp [go_sem,h7];refine zw1 (fun h=> ?_) (fun h=> ?_)<;>(try rw[h])<;>(try simp only[zab]at h)<;>(try simp -dsimp [go_sem,h7])
  ·obtain⟨d,hd,IP⟩:=zad (show k<p.threads.length by omega);simp -dsimp [go_sem,h7,hd];refine zw1 (fun h=> ?_) (fun h=> ?_)<;>(try rw[h])<;>(try simp only[zab]at h)<;>(try simp -dsimp [go_sem,h7])
   ·have:zxa p t x=(41,-1):=by rw[zxa,if_neg (by simp[e1]),if_pos (zyc hd ‹k<t› (by simpa using h))]
    rw[this];simp
   ·refine⟨by omega,by simp -dsimp [go_sem,hw],?_⟩;rw[zbm hd,A3];simpa using h
  ·have:k=t:=by omega
   subst this
   by_cases GN:x.points<1\/ ¬(x.asserts.length:Int)=x.points\/ ¬(x.modules.length:Int)=x.points
   ·have:zxa p k x=(1,-1):=by rw[zxa,if_neg (by simp[e1]),if_neg (by simp[A3]),if_pos GN]
    rw[this]
    repeat'(refine zw1 (fun h=> ?_) (fun h=> ?_)<;>(try rw[h])<;>(try simp only[zab]at h)<;>(try simp -dsimp [go_sem]))
    all_goals(exfalso;omega)
   ·have g1: ¬x.points<1:=by omega
    have g2:(x.asserts.length:Int)=x.points:=by omega
    have g3:(x.modules.length:Int)=x.points:=by omega
    have BT:zxa p k x=if !x.modules.all (fun m=>inR m p.modules.length)then(1,-1)
     else if !x.asserts.all (fun e=>zxl p e false k)then(60,-1)
     else if ¬(zx7 (fun _ s=>zxm p k x.points s) 0 x.steps).1=0 then zx7 (fun _ s=>zxm p k x.points s) 0 x.steps
     else((zx7 (fun _ l=>zaF p k x.points l) 0 x.loops).1,-1):=by
     rw[zxa,if_neg (by simp[e1]),if_neg (by simp[A3]),if_neg GN]
    have g2':decide (¬(x.asserts.length:Int)=x.points)=false:=by simp[g2]
    have g3':decide (¬(x.modules.length:Int)=x.points)=false:=by simp[g3]
    simp -dsimp [go_sem,g1,g2',g3'];refine zaq 18889321816290504999216 x.modules.length (fun i f=>(f 8).v=vi i/\x.modules.all (fun m=>inR m p.modules.length)=(x.modules.drop i).all (fun m=>inR m p.modules.length)) rfl rfl ⟨by simp -dsimp [go_sem],rfl⟩ ?_;rintro i f u kk bb hi ⟨h8,Aa⟩;have hw:=zag i (by omega);simp -dsimp [go_sem,h8];refine zw1 (fun h=> ?_) (fun h=> ?_)<;>(try rw[h])<;>(try simp only[zab]at h)<;>(try simp -dsimp [go_sem,h8])
    ·obtain⟨m,hm,_⟩:=zad ‹i<x.modules.length›;have Ar:=zb1 m p.modules.length;simp -dsimp [go_sem,h8,hm,Ar];refine zw1 (fun h=> ?_) (fun h=> ?_)<;>(try rw[h])<;>(try simp only[zab]at h)<;>(try simp -dsimp [go_sem,h8])
     ·have:zxa p k x=(1,-1):=by rw[BT,Aa,zaz hm h];simp
      rw[this];simp
     ·refine⟨by omega,by simp -dsimp [go_sem,hw],?_⟩;rw[Aa,zaA hm h]
    ·have:i=x.modules.length:=by omega
     subst this;rw[zaQ]at Aa;rw[Aa]at BT;simp only[Bool.not_true,zG,if_false]at BT;clear Aa h8 hw;refine zaq 1237921149819448796318270000 x.asserts.length (fun i f=>(f 9).v=vi i/\x.asserts.all (fun e=>zxl p e false k)=(x.asserts.drop i).all (fun e=>zxl p e false k)) rfl rfl ⟨by simp -dsimp [go_sem],rfl⟩ ?_;rintro i f u kk bb hi ⟨h9,Aa⟩;have hw:=zag i (by omega);simp -dsimp [go_sem,h9];refine zw1 (fun h=> ?_) (fun h=> ?_)<;>(try rw[h])<;>(try simp only[zab]at h)<;>(try simp -dsimp [go_sem,h9])
     ·obtain⟨e,he,_⟩:=zad ‹i<x.asserts.length›;have Fu:=zcY Ed e false k (by omega);simp -dsimp [go_sem,h9,he,Fu];refine zw1 (fun h=> ?_) (fun h=> ?_)<;>(try rw[h])<;>(try simp only[zab]at h)<;>(try simp -dsimp [go_sem,h9])
      ·have:zxa p k x=(60,-1):=by rw[BT,Aa,zaz he h];simp
       rw[this];simp
      ·refine⟨by omega,by simp -dsimp [go_sem,hw],?_⟩;rw[Aa,zaA he h]
     ·have:i=x.asserts.length:=by omega
      subst this;rw[zaQ]at Aa;rw[Aa]at BT;simp only[Bool.not_true,zG,if_false]at BT;clear Aa h9 hw;refine zaq 649035869376814168186037142031408 x.steps.length (fun i f=>(f 10).v=vi i/\zx7 (fun _ s=>zxm p k x.points s) 0 x.steps=zx7 (fun _ s=>zxm p k x.points s) i (x.steps.drop i)) rfl rfl ⟨by simp -dsimp [go_sem],rfl⟩ ?_;rintro i f u kk bb hi ⟨DW,hm⟩;have hw:=zag i (by omega);simp -dsimp [go_sem,DW];refine zw1 (fun h=> ?_) (fun h=> ?_)<;>(try rw[h])<;>(try simp only[zab]at h)<;>(try simp -dsimp [go_sem,DW])
      ·obtain⟨s,D6,HW⟩:=zad ‹i<x.steps.length›;have AB:=zkr p Ed k Ln x DX ⟨by omega,J8⟩ s (hs.sets x Ct s HW);simp -dsimp [go_sem,DW,D6,AB];refine zw1 (fun h=> ?_) (fun h=> ?_)<;>(try rw[h])<;>(try simp only[zab]at h)<;>(try simp -dsimp [go_sem,DW])
       ·have h2:=hm.trans (zyg D6 (by simpa using h));have:zxa p k x=(zxm p k x.points s,(i:Int)):=by rw[BT,h2,if_pos (by simpa using h)]
        rw[this];simp
       ·refine⟨by omega,by simp -dsimp [go_sem,hw],?_⟩;rw[hm,zbj D6 (by simpa using h)]
      ·have:i=x.steps.length:=by omega
       subst this;rw[zb3]at hm;rw[hm,if_neg (by simp)]at BT;clear hm DW hw;refine zaq 11972621413014756705275549042294937043455087350935600 x.loops.length (fun i f=>(f 12).v=vi i/\zx7 (fun _ l=>zaF p k x.points l) 0 x.loops=zx7 (fun _ l=>zaF p k x.points l) i (x.loops.drop i)) rfl rfl ⟨by simp -dsimp [go_sem],rfl⟩ ?_;rintro i f u kk bb hi ⟨Gx,hm⟩;have hw:=zag i (by omega);simp -dsimp [go_sem,Gx];refine zw1 (fun h=> ?_) (fun h=> ?_)<;>(try rw[h])<;>(try simp only[zab]at h)<;>(try simp -dsimp [go_sem,Gx])
       ·obtain⟨l,Iy,Ff⟩:=zad ‹i<x.loops.length›;have DP:=hs.loops x Ct l Ff
        have Al: ∀k':Int,k'≠0->zaF p k x.points l=k'->zxa p k x=(k',-1):=fun k' Ag h0=>by
         have h2:=hm.trans (zyg (f:=fun _ l=>zaF p k x.points l) Iy (by rw[h0];exact Ag));rw[BT,h2,h0]
        have Ar:=zb1 l.head x.points;have Dw:=zfG l.body (by omega);simp -dsimp [go_sem,Gx,Iy,Ar];refine zw1 (fun h=> ?_) (fun h=> ?_)<;>(try rw[h])<;>(try simp only[zab]at h)<;>(try simp -dsimp [go_sem,Gx,Dw])
        ·rw[Al 1 (by decide) (by simp[zaF,h])];simp
        ·have f1:inR l.head x.points=true:=by assumption
         refine zw1 (fun h=> ?_) (fun h=> ?_)<;>(try rw[h])<;>(try simp only[zab]at h)<;>(try simp -dsimp [go_sem,Gx])
         ·rw[Al 1 (by decide) (by simp[zaF,h])];simp
         ·have f2:zyv l.body=true:=by assumption
          refine zaq 730750807776415717631811585530154072011383521328 l.body.length (fun j f'=>(f' 14).v=vi j/\l.body.all (fun q=>inR q x.points&&decide (q≠l.head))=(l.body.drop j).all (fun q=>inR q x.points&&decide (q≠l.head))) rfl rfl ⟨by simp -dsimp [go_sem],rfl⟩ ?_;rintro j f' u' kk' bb' hj ⟨Ca,Aa⟩;have Ay:=zag j (by omega);simp -dsimp [go_sem,Ca];refine zw1 (fun h=> ?_) (fun h=> ?_)<;>(try rw[h])<;>(try simp only[zab]at h)<;>(try simp -dsimp [go_sem,Ca])
          ·obtain⟨q,hq,_⟩:=zad ‹j<l.body.length›;have MK:=zb1 q x.points;simp -dsimp [go_sem,Ca,hq,MK]
           repeat'(refine zw1 (fun h=> ?_) (fun h=> ?_)<;>(try rw[h])<;>(try simp only[zab]at h)<;>(try simp -dsimp [go_sem,Ca,hq]))
           all_goals first
            | (rw[Al 1 (by decide) (by rw[zaF,if_pos (by rw[Aa,zaz hq (by simp_all)];simp)])];simp;done)
            | (refine⟨by omega,by simp -dsimp [go_sem,Ay],?_⟩
               rw[Aa,zaA hq (by simp_all)])
          ·have:j=l.body.length:=by omega
           subst this;rw[zaQ]at Aa
           have A4:zaF p k x.points l=if !l.variant.valid p.cells false || !zxI p l.variant true k then 60 else 0:=by
            rw[zaF,if_neg (by rw[Aa,f1,f2];simp)]
           have hv:=zcX l.variant p.cells false;cases B3:l.variant.valid p.cells false
           ·rw[B3]at hv;simp -dsimp [go_sem,Gx,hv];rw[Al 60 (by decide) (by rw[A4];simp[B3])];simp
           ·rw[B3]at hv;have De:=zdH Ed (zzm B3) true k (by omega) (.inl rfl);simp -dsimp [go_sem,Gx,hv,De];refine zw1 (fun h=> ?_) (fun h=> ?_)<;>(try rw[h])<;>(try simp only[zab]at h)<;>(try simp -dsimp [go_sem,Gx])
            ·rw[Al 60 (by decide) (by rw[A4];simp[h])];simp
            ·refine⟨by omega,by simp -dsimp [go_sem,hw],?_⟩;rw[hm,zbj Iy (by rw[A4];simp[h,B3])]
       ·have:i=x.loops.length:=by omega
        subst this;rw[zb3]at hm;rw[BT,hm];simp
end Rg
end
section
-- FULL
namespace Rg
open Go
theorem zw8 {p:Prog} (h:(zxn p).1=0):(p.cells.length<=32/\p.modules.length<=6/\p.locks.length<=4/\p.threads.length<=4)/\ ∀x∈p.threads,x.points<=48/\x.steps.length<=64/\x.loops.length<=8:=by
 unfold zxn at h;split at h
 ·simp at h
 ·rename_i hb;refine⟨by omega,?_⟩
  have key: ∀(l:List Thread) (i:Nat),(zx7 (fun _ x=>if zao x then 2 else 0) i l).1=0-> ∀x∈l,zao x=false:=by
   intro l
   induction l with
   | nil=>intro i _ c hc;simp at hc
   | cons x r ih=>
     intro i h c hc;rw[zx7]at h;cases hb:zao x
     ·rw[hb,if_pos (by simp)]at h;rcases List.mem_cons.1 hc with rfl | hc
      ·exact hb
      ·exact ih _ h c hc
     ·rw[hb,if_neg (by simp)]at h;simp at h
  intro x hx;have:=key _ 0 h x hx;simp only[zao,Bool.or_eq_false_iff,decide_eq_false_iff_not]at this;omega
theorem zft (p:Prog) (hs:p.sane):Den Γ G 65 [(zP p)]=some (.tup [vi (zxL p).1,vi (zxL p).2.1,vi (zxL p).2.2]):=by
 (refine zw3 Γ65 rfl ?_;dsimp only[f65])
 have h1:=zif p hs;simp -dsimp [go_sem,h1];refine zw1 (fun h=> ?_) (fun h=> ?_)<;>(try rw[h])<;>(try simp only[zab]at h)<;>(try simp -dsimp [go_sem])
 ·have h0: ¬(zxn p).1=0:=by simpa using h
  have:zxL p=((zxn p).1,(zxn p).2,-1):=by rw[zxL,if_pos h0]
  rw[this];simp
 ·have h0:(zxn p).1=0:=by simpa using h
  obtain⟨⟨l1,l2,l3,l4⟩,l5⟩:=zw8 h0
  have AY:zxL p=if ¬zx2 p=0 then(zx2 p,-1,-1)else if ¬zxB p=0 then(zxB p,-1,-1)else if ¬zys p=0 then(zys p,-1,-1)else zyW p 0 p.threads:=by
   rw[zxL,if_neg (by simpa using h0)]
  have c1:=zj7 p hs;refine zai ?_;simp -dsimp [go_sem,c1];refine zw1 (fun h=> ?_) (fun h=> ?_)<;>(try rw[h])<;>(try simp only[zab]at h)<;>(try simp -dsimp [go_sem])
  ·have:zxL p=(zx2 p,-1,-1):=by rw[AY,if_pos (by simpa using h)]
   rw[this];simp
  ·have h2:zx2 p=0:=by simpa using h
   have c2:=zhj p hs h2;have c3:=zjL p hs h2;rw[if_neg (by simpa using h2)]at AY;refine zai ?_;simp -dsimp [go_sem,c2];refine zw1 (fun h=> ?_) (fun h=> ?_)<;>(try rw[h])<;>(try simp only[zab]at h)<;>(try simp -dsimp [go_sem])
   ·have:zxL p=(zxB p,-1,-1):=by rw[AY,if_pos (by simpa using h)]
    rw[this];simp
   ·have h3:zxB p=0:=by simpa using h
    rw[if_neg (by simpa using h3)]at AY;refine zai ?_;simp -dsimp [go_sem,c3];refine zw1 (fun h=> ?_) (fun h=> ?_)<;>(try rw[h])<;>(try simp only[zab]at h)<;>(try simp -dsimp [go_sem])
    ·have:zxL p=(zys p,-1,-1):=by rw[AY,if_pos (by simpa using h)]
     rw[this];simp
    ·have h4:zys p=0:=by simpa using h
     rw[if_neg (by simpa using h4)]at AY;refine zai ?_;simp -dsimp [go_sem];refine zaq 288229276640085788 p.threads.length (fun i f=>(f 8).v=vi i/\zxL p=zyW p i (p.threads.drop i)) rfl rfl ⟨by simp -dsimp [go_sem],AY⟩ ?_;rintro i f u kk bb hi ⟨h8,hm⟩;have hw:=zag i (by omega);simp -dsimp [go_sem,h8];refine zw1 (fun h=> ?_) (fun h=> ?_)<;>(try rw[h])<;>(try simp only[zab]at h)<;>(try simp -dsimp [go_sem,h8])
     ·obtain⟨x,hx,Ct⟩:=zad ‹i<p.threads.length›;have BT:=zhY p hs h2 i x hx (by have:=(l5 x Ct).1;omega);simp -dsimp [go_sem,h8,BT];refine zw1 (fun h=> ?_) (fun h=> ?_)<;>(try rw[h])<;>(try simp only[zab]at h)<;>(try simp -dsimp [go_sem,h8])
      ·rw[hm,ziJ hx (by simpa using h)];simp
      ·refine⟨by omega,by simp -dsimp [go_sem,hw],?_⟩;rw[hm,ziK hx (by simpa using h)]
     ·have:i=p.threads.length:=by omega
      subst this;rw[hm,zkn];simp
end Rg
end
section
namespace Rg
open Go
def zAp (l:List ByteArray):List (T×V):=l.map fun b=>(T.str b,V.agg [])
def zCu (l:List Int):List (T×V):=l.map fun b=>(ti b,V.agg [])
theorem zhL (a b:ByteArray):(a==b)=(a.toList==b.toList):=by
 rw[ByteArray.toList_eq,ByteArray.toList_eq];show(a.data==b.data)=_;rw[Array.beq_toList]
@[go_sem]theorem zr0 (b:ByteArray):zAs 2 (.t (.str b))=some (.str b):=rfl
@[go_sem]theorem zr1 (k:IntKind) (n:Int):zAs 0 (.t (.int k n))=some (.int k n):=rfl
theorem zpN (b:ByteArray): ∀l:List ByteArray,zxT (.str b) (zAp l)=some (if l.any (fun c=>c.toList==b.toList)then some (.agg [])else none)
 | []=>rfl
 | c::l=>by
   rw[zAp,List.map_cons,zxT,zcJ,zhL];rw[show(b.toList==c.toList)=(c.toList==b.toList)from Bool.beq_comm];cases h:(c.toList==b.toList)
   ·simp only[];rw[show(l.map fun b=>(T.str b,V.agg []))=zAp l from rfl,zpN b l,List.any_cons,h,Bool.false_or]
   ·simp[h]
theorem zth (b:ByteArray): ∀l:List ByteArray,l.any (fun c=>c.toList==b.toList)=false->zx6 (.str b) (.agg []) (zAp l)=some (zAp (l++[b]))
 | [],_=>rfl
 | c::l,h=>by
   rw[List.any_cons,Bool.or_eq_false_iff]at h;rw[zAp,List.map_cons,zx6,zcJ,zhL,show(b.toList==c.toList)=(c.toList==b.toList)from Bool.beq_comm,h.1];simp only[];rw[show(l.map fun b=>(T.str b,V.agg []))=zAp l from rfl,zth b l h.2];rfl
theorem zpv (b:ByteArray): ∀l:List ByteArray,∃es,zx6 (.str b) (.agg []) (zAp l)=some es
 | []=>⟨_,rfl⟩
 | c::l=>by
   rw[zAp,List.map_cons,zx6,zcJ];cases h:(b==c)
   ·simp only[];rw[show(l.map fun b=>(T.str b,V.agg []))=zAp l from rfl];obtain⟨es,he⟩:=zpv b l;exact⟨_,by rw[he];rfl⟩
   ·exact⟨_,rfl⟩
theorem zoB (b:Int): ∀l:List Int,zxT (ti b) (zCu l)=some (if l.any (fun c=>decide (c=b))then some (.agg [])else none)
 | []=>rfl
 | c::l=>by
   rw[zCu,List.map_cons,zxT,zcJ,if_pos rfl]
   by_cases h:c=b
   ·subst h;simp
   ·have e:(b==c)=false:=by simpa using fun h'=>h h'.symm
    rw[e];simp only[];rw[show(l.map fun b=>(ti b,V.agg []))=zCu l from rfl,zoB b l,List.any_cons];simp[h]
theorem zrO (b:Int): ∀l:List Int,l.any (fun c=>decide (c=b))=false->zx6 (ti b) (.agg []) (zCu l)=some (zCu (l++[b]))
 | [],_=>rfl
 | c::l,h=>by
   rw[List.any_cons,Bool.or_eq_false_iff]at h;have e:(b==c)=false:=by simpa using fun h'=>(by simpa using h.1: ¬c=b) h'.symm
   rw[zCu,List.map_cons,zx6,zcJ,if_pos rfl,e];simp only[];rw[show(l.map fun b=>(ti b,V.agg []))=zCu l from rfl,zrO b l h.2];rfl
theorem zfw (k:Nat) (b:ByteArray) (l:List ByteArray) (H:Nat->Option O) (n:Nat) (hk:H k=some (.map (zAp l))):
 ∃r h' n',DenR Γ G 97 [.mm k,.t (.str b)] H n=some (r,h',n')/\(n<=n'/\r=vb (l.any (fun c=>c.toList==b.toList)))/\
  ∃es,h'=updC H k (some (.map es))/\(l.any (fun c=>c.toList==b.toList)=false->es=zAp (l++[b])):=by
 (refine zxC Γ97 rfl ?_;dsimp only[f97])
 have h1:=zpN b l;cases ha:l.any (fun c=>c.toList==b.toList)
 ·rw[ha]at h1;have h2:=zth b l ha;simp -dsimp only[go_sem,seval,hk,h1,h2,Option.getD_none,Option.getD_some,Option.isSome_none,zG,if_true,if_false];refine⟨⟨by simp -dsimp only[go_sem,seval];omega,by simp -dsimp only[go_sem,seval]⟩,_,by simp -dsimp only[go_sem,seval],fun _=>rfl⟩
 ·rw[ha]at h1;obtain⟨es,h2⟩:=zpv b l;simp -dsimp only[go_sem,seval,hk,h1,h2,Option.getD_none,Option.getD_some,Option.isSome_none,zG,if_true,if_false];refine⟨⟨by simp -dsimp only[go_sem,seval];omega,by simp -dsimp only[go_sem,seval]⟩,es,by simp -dsimp only[go_sem,seval],fun h=>by simp at h⟩
theorem zgT (k:Nat) (b:ByteArray) (l:List ByteArray) (H:Nat->Option O) (n:Nat) (hk:H k=some (.map (zAp l))):
 ∃r h' n',DenR Γ G 97 [.mm k,.t (.str b)] H n=some (r,h',n')/\r=vb (l.any (fun c=>c.toList==b.toList))/\(l.any (fun c=>c.toList==b.toList)=false->h' k=some (.map (zAp (l++[b])))):=by
 obtain⟨r,h',n',hd,⟨_,hr⟩,es,rfl,he⟩:=zfw k b l H n hk;exact⟨r,_,n',hd,hr,fun h=>by rw[he h,zae,if_pos rfl]⟩
theorem za0.toT1 {h:Nat->Option O} {x:Nat} {v:V} {l:List Int} (o:za0 h x v 1 (zw5 l)):Rg.toT1 h v=some (.t (ints l)):=by
 have:=zbS o (zxU _);rcases o with⟨rfl,he⟩ | ⟨k,rfl,_,_⟩
 ·have:l=[]:=by simpa[zw5]using he
  subst this;rfl
 ·simp only[Rg.toT1,this,Option.map_some]
theorem zcF (e:Expr) (F:T) (P:Int->Bool) (hP:IsF F P):Den Γ G 108 [(.agg [.t (ti (e).op),.t (ti (e).w),.t (ti (e).n),.t (.sl ((e).kids.map (Expr.enc)))]),.t F]=some (vb ((e.sup 3).all P&&(e.sup 2).all P)):=by
 (refine zw3 Γ108 rfl ?_;dsimp only[f108])
 have hn:=hP.1;simp only[T.norm]at hn;have l3:=zcD 3 e;have l2:=zcD 2 e;have h2:=zcb F P hP (e.sup 3) (by omega);have h3:=zcb F P hP (e.sup 2) (by omega);simp -dsimp only[go_sem,seval];refine zas (zzf e _ _) ?_;rintro r h' n' ⟨v3,v2,rfl,o3,o2,_,_⟩;have x3:=o3.valOf;have x2:=o2.valOf;have y3:=o3.toT1;have y2:=o2.toT1;simp only[Rg.toT1]at y3 y2;cases ha:(e.sup 3).all P
 ·rw[ha]at h2;simp -dsimp only[go_sem,seval,h2,hn,x3,x2,y3,y2];simp
 ·rw[ha]at h2;simp -dsimp only[go_sem,seval,h2,h3,hn,x3,x2,y3,y2,Bool.true_and]
theorem zjn (p:Prog) (e:Expr) (pair:Bool) (F:T) (P:Int->Bool) (hP:IsF F P):Den Γ G 99 [(zP p),(.agg [.t (ti (e).op),.t (ti (e).w),.t (ti (e).n),.t (.sl ((e).kids.map (Expr.enc)))]),vb pair,.t F]=
 some (vb (e.valid p.cells pair&&decide (e.w=1)&&((e.sup 3).all P&&(e.sup 2).all P))):=by
 (refine zw3 Γ99 rfl ?_;dsimp only[f99])
 have hn:=hP.1;simp only[T.norm]at hn;have h1:=zcW e p.cells pair;have h2:=zcF e F P hP
 by_cases hw:e.w=1
 ·cases hv:e.valid p.cells pair
  ·rw[hv]at h1;simp -dsimp only[go_sem,seval,hw];rw[hw]at h1;simp -dsimp only[go_sem,seval,h1];simp
  ·rw[hv]at h1;rw[hw]at h1 h2;simp -dsimp only[go_sem,seval,hw,h1,h2,hn,Bool.true_and,Bool.and_true]
 ·simp -dsimp only[go_sem,seval,hw];simp
theorem zig (p:Prog) (hs:p.sane):Den Γ G 79 [(zP p)]=some (.tup [vi (zxn p).1,vi (zxn p).2]):=by
 (refine zw3 Γ79 rfl ?_;dsimp only[f79])
 simp -dsimp only[go_sem,seval]
 by_cases DQ:(p.cells.length:Int)>32\/(p.modules.length:Int)>6\/(p.locks.length:Int)>4\/(p.threads.length:Int)>4
 ·have hm:zxn p=(2,-1):=by rw[zxn,if_pos DQ]
  rw[hm]
  repeat'(refine zw1 (fun h=> ?_) (fun h=> ?_)<;>(try rw[h])<;>(try simp only[zab]at h)<;>(try simp -dsimp only[go_sem,seval]))
  all_goals omega
 ·have hm:zxn p=zx7 (fun _ x=>if zao x then 2 else 0) 0 p.threads:=by rw[zxn,if_neg DQ]
  have g1: ¬(p.cells.length:Int)>32:=by omega
  have g2: ¬(p.modules.length:Int)>6:=by omega
  have g3: ¬(p.locks.length:Int)>4:=by omega
  have g4: ¬(p.threads.length:Int)>4:=by omega
  simp -dsimp only[go_sem,seval,g1,g2,g3,g4];refine zaq 72057576858058860 p.threads.length (fun i f=>(f 34).v=vi i/\zxn p=zx7 (fun _ x=>if zao x then 2 else 0) i (p.threads.drop i)) rfl rfl ⟨by simp -dsimp only[go_sem,seval],hm⟩ ?_;clear hm;rintro i f u kk bb hi ⟨h4,hm⟩;have hw:=zag i (by omega);simp -dsimp only[go_sem,seval,h4];refine zw1 (fun h=> ?_) (fun h=> ?_)<;>(try rw[h])<;>(try simp only[zab]at h)<;>(try simp -dsimp only[go_sem,seval,h4])
  ·obtain⟨x,hx,_⟩:=zad ‹i<p.threads.length›;have AO:zao x=true->zxn p=(2,(i:Int)):=fun h0=>by rw[hm,zyg hx (by simp[h0])];simp[h0]
   simp -dsimp only[go_sem,seval,h4,hx]
   repeat'(refine zw1 (fun h=> ?_) (fun h=> ?_)<;>(try rw[h])<;>(try simp only[zab]at h)<;>(try simp -dsimp only[go_sem,seval,h4]))
   ·rw[AO (by simp[zao, *])];simp
   ·rw[AO (by simp[zao, *])];simp
   ·rw[AO (by simp[zao, *])];simp
   ·refine⟨by omega,by simp -dsimp only[go_sem,seval,hw],?_⟩;rw[hm,zbj hx (by simp[zao, *])]
  ·have:i=p.threads.length:=by omega
   subst this;rw[hm,zb3];simp
theorem zeJ {w:Int} (h:0<=w/\w<=62):IntKind.i64.wrap (1*2^min w.toNat 64)=2^w.toNat:=by
 have:min w.toNat 64=w.toNat:=Nat.min_eq_left (by omega);rw[this,Int.one_mul];have h2:(2:Int)^w.toNat<=2^62:=zcn (by omega);have h3:=zxD w.toNat;exact zaj (by omega)
theorem znG {w:Int} (h:0<=w/\w<=62):IntKind.u64.wrap w=w:=by
 have h1:IntKind.u64.wrap w=w % 2^64:=by simp[IntKind.wrap,IntKind.signed,IntKind.bits]
 rw[h1];omega
theorem zj8 (p:Prog) (hs:p.sane):Den Γ G 80 [(zP p)]=some (vi (zx2 p)):=by
 (refine zw3 Γ80 rfl ?_;dsimp only[f80])
 simp -dsimp only[go_sem,seval];have Hc:=hs.cells;refine zap 4611686018427385892 p.cells.length (fun i f h x=>(f 11).v=vi i/\h 2=some (.map (zAp ((p.cells.take i).map Cell.name)))/\zx2 p=(zx7 (zx3 p) i (p.cells.drop i)).1) rfl ⟨by simp -dsimp only[go_sem,seval],by simp -dsimp only[go_sem,seval];rfl,rfl⟩ ?_;rintro i f u hh x bs hi ⟨Bf,Bg,hm⟩;have hw:=zag i (by omega);simp -dsimp only[go_sem,seval,Bf];refine zw1 (fun h=> ?_) (fun h=> ?_)<;>(try rw[h])<;>(try simp only[zab]at h)<;>(try simp -dsimp only[go_sem,seval,Bf])
 ·obtain⟨c,hc,B9⟩:=zad ‹i<p.cells.length›;have hl:=zc4 c.name;have Ci:=zaT c.init (2^c.w.toNat);have BO:=zaT c.thread p.threads.length;have G6:=zaT c.module p.modules.length
  have AO:za6 p c=true->zx2 p=1:=fun h0=>by
   have:zx3 p i c=1:=by simp[zx3,h0]
   rw[hm,zyg hc (by simp[this])];exact this
  by_cases hb:za6 p c=true
  ·rw[AO hb]
   by_cases Ox:1<=c.w/\c.w<=8
   ·have s1:=zeJ (w:=c.w) (by omega);have s2:=znG (w:=c.w) (by omega);have s3: ¬c.w<0:=by omega
    simp -dsimp only[go_sem,seval,Bf,hc,hl]
    repeat'(refine zw1 (fun h=> ?_) (fun h=> ?_)<;>(try rw[h])<;>(try simp only[zab]at h)<;>(try simp -dsimp only[go_sem,seval,Bf,Ci,BO,G6,s1,s2,s3]))
    all_goals(exfalso;simp only[za6,inR,Bool.or_eq_true,Bool.not_eq_true',decide_eq_true_eq,decide_eq_false_iff_not]at *;simp_all;(try omega);done)
   ·have s3:c.w<1\/c.w>8:=by omega
    simp -dsimp only[go_sem,seval,Bf,hc,hl];refine zw1 (fun h=> ?_) (fun h=> ?_)<;>(try rw[h])<;>(try simp only[zab]at h)<;>(try simp -dsimp only[go_sem,seval,Bf])
    refine zw1 (fun h=> ?_) (fun h=> ?_)<;>(try rw[h])<;>(try simp only[zab]at h)<;>(try simp -dsimp only[go_sem,seval,Bf])
    refine zw1 (fun h=> ?_) (fun h=> ?_)<;>(try rw[h])<;>(try simp only[zab]at h)<;>(try simp -dsimp only[go_sem,seval,Bf])
    all_goals(exfalso;omega)
  ·have Bi:za6 p c=false:=by simpa using hb
   obtain⟨b1,b2,b3,b4,b5,b6,b7,b8⟩:=zzc Bi;have s1:=zeJ (w:=c.w) (by omega);have s2:=znG (w:=c.w) (by omega);have s3: ¬c.w<0:=by omega
   have s4: ¬c.w<1:=by omega
   have s5: ¬c.w>8:=by omega
   have e1:inR c.init (2^c.w.toNat)=true:=by simp[inR];omega
   rw[b1]at hl;rw[e1]at Ci;rw[b8]at G6;have Bz:=fun n=>zgT 2 c.name ((p.cells.take i).map Cell.name) hh n Bg
   have A3:((p.cells.take i).map Cell.name).any (fun d=>d.toList==c.name.toList)=(p.cells.take i).any (fun d=>d.name.toList==c.name.toList):=by rw[List.any_map];rfl
   have AU: ∀Q:Prop,(c.thread= -1->Q)->(¬c.thread= -1->inR c.thread p.threads.length=true->Q)->Q:=fun Q q1 q2=>by
    by_cases h:c.thread= -1
    ·exact q1 h
    ·exact q2 h (by simp[inR];omega)
   refine AU _ (fun t1=> ?_) (fun t1 t2=> ?_)
   all_goals(
    (try rw[t2]at BO)
    simp -dsimp only[go_sem,seval,Bf,hc,hl,Ci,BO,G6,s1,s2,s3,s4,s5,t1];refine zas (Bz _) ?_;rintro r h' n' ⟨rfl,Ag⟩;rw[A3]at Ag;simp -dsimp only[go_sem,seval,Bf,A3];refine zw1 (fun h=> ?_) (fun h=> ?_)<;>(try rw[h])<;>(try simp only[zab]at h)<;>(try simp -dsimp only[go_sem,seval,Bf])
    ·have:zx3 p i c=41:=by rw[zx3,if_neg hb,if_pos h]
     rw[hm,zyg hc (by simp[this])];exact this.symm
    ·refine⟨by omega,by simp -dsimp only[go_sem,seval,hw],?_,?_⟩
     ·have AX:=Ag h;simp -dsimp only[go_sem,seval,AX];rw[zac hc];simp
     ·rw[hm,zbj hc (by rw[zx3,if_neg hb,if_neg (by simp[h])])])
 ·have:i=p.cells.length:=by omega
  subst this;rw[hm,zb3]
end Rg
end
