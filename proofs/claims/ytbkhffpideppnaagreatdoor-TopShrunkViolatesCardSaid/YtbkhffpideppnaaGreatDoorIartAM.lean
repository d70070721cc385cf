/- Part of the proof of laws of relyguardtop. No condition. -/
import Derived.Test.YtbkhffpideppnaaGreatDoorIartAL
set_option linter.unusedSimpArgs false
set_option linter.unusedVariables false
section
namespace Rg
open Go
def zco {α:Type} (f:Nat->α->Int):Nat->List α->Int×Int
 | _,[]=>(0,-1)
 | i,x::r=>if f i x=0 then zco f (i+1) r else(f i x,i)
theorem zdo {α:Type} {l:List α} {i:Nat} {x:α} (h:l[i]? =some x):l.drop i=x::l.drop (i+1):=by
 obtain⟨hi,rfl⟩:=zH.1 h;exact List.drop_eq_getElem_cons hi
theorem zc6 {α:Type} {f:Nat->α->Int} {l:List α} {i:Nat} {x:α} (h:l[i]? =some x) (h0:f i x=0):zco f i (l.drop i)=zco f (i+1) (l.drop (i+1)):=by
 rw[zdo h,zco,if_pos h0]
theorem zcC {α:Type} {f:Nat->α->Int} {l:List α} {i:Nat} {x:α} (h:l[i]? =some x) (h0: ¬f i x=0):zco f i (l.drop i)=(f i x,(i:Int)):=by
 rw[zdo h,zco,if_neg h0]
theorem zel {α:Type} (f:Nat->α->Int) (l:List α):zco f l.length (l.drop l.length)=(0,-1):=by
 rw[List.drop_length];rfl
theorem za7 {α:Type} {P:α->Bool} {l:List α} {i:Nat} {x:α} (h:l[i]? =some x) (h0:P x=true):(l.drop i).all P=(l.drop (i+1)).all P:=by
 rw[zdo h,List.all_cons,h0,Bool.true_and]
theorem za6 {α:Type} {P:α->Bool} {l:List α} {i:Nat} {x:α} (h:l[i]? =some x) (h0:P x=false):(l.drop i).all P=false:=by
 rw[zdo h,List.all_cons,h0,Bool.false_and]
theorem zbB {α:Type} (P:α->Bool) (l:List α):(l.drop l.length).all P=true:=by
 rw[List.drop_length];rfl
theorem zlZ {α:Type} {P:α->Bool} {l:List α} {i:Nat} {x:α} (h:l[i]? =some x) (h0:P x=false):(l.drop i).any P=(l.drop (i+1)).any P:=by
 rw[zdo h,List.any_cons,h0,Bool.false_or]
theorem zlY {α:Type} {P:α->Bool} {l:List α} {i:Nat} {x:α} (h:l[i]? =some x) (h0:P x=true):(l.drop i).any P=true:=by
 rw[zdo h,List.any_cons,h0,Bool.true_or]
theorem zoz {α:Type} (P:α->Bool) (l:List α):(l.drop l.length).any P=false:=by
 rw[List.drop_length];rfl
def ztz (p:Prog) (sh:Bool) (t c:Int):Bool:=if sh then zjW p t c else zar p t c
def zbE (p:Prog) (e:Expr) (sh:Bool) (t:Int):Bool:=(e.sup 3).all (ztz p sh t)&&(e.sup 2).all (ztz p sh t)
def zaR (p:Prog) (e:Expr) (pair:Bool) (t:Int):Bool:=e.valid p.cells pair&&decide (e.w=1)&&zbE p e true t
def zaP (x:Thread):Bool:=decide (x.points>48)||decide ((x.steps.length:Int)>64)||decide ((x.loops.length:Int)>8)
def zaV (p:Prog):Int×Int:=
 if(p.cells.length:Int)>32\/(p.modules.length:Int)>6\/(p.locks.length:Int)>4\/(p.threads.length:Int)>4 then(2,-1)
 else zco (fun _ x=>if zaP x then 2 else 0) 0 p.threads
def zcj (p:Prog) (c:Cell):Bool:=
 !zbA c.name||decide (c.w<1)||decide (c.w>8)||decide (c.init<0)||decide (c.init>=2^c.w.toNat)||decide (c.thread< -1)||decide (c.thread>=p.threads.length) || !inR c.module p.modules.length
def zci (p:Prog) (i:Nat) (c:Cell):Int:=
 if zcj p c then 1 else if(p.cells.take i).any (fun d=>d.name.toList==c.name.toList)then 41 else 0
def zce (p:Prog):Int:=(zco (zci p) 0 p.cells).1
def zdH (p:Prog) (i:Nat) (m:Contract):Int:=
 if !zbA m.name || !zbA m.owner then 1
 else if(p.modules.take i).any (fun d=>d.name.toList==m.name.toList)then 41
 else if(!m.rely.absent&& !zaR p m.rely true (-1)) || !zaR p m.guar true (-1)then 60
 else if !zc0 m.frame || !m.frame.all (zar p (-1))then 1 else 0
def zbm (p:Prog):Int:=(zco (zdH p) 0 p.modules).1
def zby (p:Prog) (c:Int) (f:Cell->Bool):Bool:=match p.cells[c.toNat]? with
 | some x=>f x
 | none=>false
def zcM (p:Prog) (i:Nat) (l:Lock):Int:=
 if !zar p (-1) l.cell || !zby p l.cell (fun x=>decide (x.w=1))||zby p l.cell Cell.ghost || !inR l.module p.modules.length then 1
 else if(p.locks.take i).any (fun d=>decide (d.cell=l.cell))then 1
 else if !zaR p l.inv false (-1)then 60 else 0
def zcT (p:Prog):Int:=(zco (zcM p) 0 p.locks).1
def zbC (p:Prog) (set:List Assign) (i:Nat) (a:Assign):Int:=
 if !inR a.cell p.cells.length||(set.take i).any (fun b=>decide (b.cell=a.cell))then 70
 else if !a.to.valid p.cells false || !zby p a.cell (fun x=>decide (a.to.w=x.w))then 60 else 0
def zbz (p:Prog) (s:Step) (sh:Bool) (t:Int):Bool:=zbE p s.guard sh t&&s.set.all fun a=>zbE p a.to sh t
def zdd (p:Prog) (t:Int) (s:Step):Bool:=s.guard.one&&decide (s.set=[])&&decide (s.target≠t)&&inR s.target p.threads.length
def zf7 (p:Prog) (t:Int):Bool:=match p.threads[t.toNat]? with
 | some x=>x.asleep
 | none=>false
def zg1 (p:Prog) (t:Int) (s:Step):Bool:=match s.set with
 | []=>false
 | a::r=>zbE p s.guard false t&&zar p t a.cell&& !zby p a.cell Cell.ghost&&decide (a.to.op=2)&&zar p (-1) a.to.n&& !zby p a.to.n Cell.ghost&&
    r.all fun b=>zar p t b.cell&&zby p b.cell Cell.ghost&&zbE p b.to false t
def zeY (p:Prog) (t:Int) (s:Step):Bool:=match s.set with
 | []=>false
 | a::r=>zbz p s false t&&zar p (-1) a.cell&& !zby p a.cell Cell.ghost&&r.all fun b=>zby p b.cell Cell.ghost&&zjW p t b.cell
def zbG (p:Prog) (t:Int) (s:Step):Bool:=
 if s.kind=1 then zbz p s false t&&s.set.all fun a=>zar p t a.cell
 else if s.kind=2 then zg1 p t s
 else if s.kind=3 then zeY p t s
 else if s.kind=4 then zbz p s true t&&s.set.all fun a=>zjW p t a.cell
 else if s.kind=5 then s.guard.one&&decide (s.set=[])
 else if s.kind=6 then zdd p t s&&zf7 p s.target
 else zdd p t s
def zdW (p:Prog) (n:Int) (s:Step):Bool:=
 decide (s.kind<1)||decide (s.kind>7) || !inR s.fr (n-1) || !inR s.to n || !inR s.module p.modules.length||(s.release&&decide (s.kind≠3))||(decide (s.target≠0)&& !(decide (s.kind=6)||decide (s.kind=7)))
def zaS (p:Prog) (t n:Int) (s:Step):Int:=
 if zdW p n s then 70
 else if !s.guard.valid p.cells false||decide (s.guard.w≠1)then 60
 else if ¬(zco (zbC p s.set) 0 s.set).1=0 then(zco (zbC p s.set) 0 s.set).1
 else if zbG p t s then 0 else 70
def zbp (p:Prog) (t n:Int) (l:Loop):Int:=
 if !inR l.head n || !zc0 l.body || !l.body.all (fun k=>inR k n&&decide (k≠l.head))then 1
 else if !l.variant.valid p.cells false || !zbE p l.variant true t then 60 else 0
def zap (p:Prog) (i:Nat) (x:Thread):Int×Int:=
 if !zbA x.name then(1,-1)
 else if(p.threads.take i).any (fun d=>d.name.toList==x.name.toList)then(41,-1)
 else if x.points<1\/ ¬(x.asserts.length:Int)=x.points\/ ¬(x.modules.length:Int)=x.points then(1,-1)
 else if !x.modules.all (fun m=>inR m p.modules.length)then(1,-1)
 else if !x.asserts.all (fun e=>zaR p e false i)then(60,-1)
 else if ¬(zco (fun _ s=>zaS p i x.points s) 0 x.steps).1=0 then zco (fun _ s=>zaS p i x.points s) 0 x.steps
 else((zco (fun _ l=>zbp p i x.points l) 0 x.loops).1,-1)
def zep (p:Prog):Nat->List Thread->Int×Int×Int
 | _,[]=>(0,-1,-1)
 | i,x::r=>if(zap p i x).1=0 then zep p (i+1) r else((zap p i x).1,(i:Int),(zap p i x).2)
def zbM (p:Prog):Int×Int×Int:=
 if ¬(zaV p).1=0 then((zaV p).1,(zaV p).2,-1)
 else if ¬zce p=0 then(zce p,-1,-1)
 else if ¬zbm p=0 then(zbm p,-1,-1)
 else if ¬zcT p=0 then(zcT p,-1,-1)
 else zep p 0 p.threads
theorem zoK {p:Prog} {l:List Thread} {i:Nat} {x:Thread} (h:l[i]? =some x) (h0:(zap p i x).1=0):zep p i (l.drop i)=zep p (i+1) (l.drop (i+1)):=by
 rw[zdo h,zep,if_pos h0]
theorem zoJ {p:Prog} {l:List Thread} {i:Nat} {x:Thread} (h:l[i]? =some x) (h0: ¬(zap p i x).1=0):zep p i (l.drop i)=((zap p i x).1,(i:Int),(zap p i x).2):=by
 rw[zdo h,zep,if_neg h0]
theorem zrl (p:Prog) (l:List Thread):zep p l.length (l.drop l.length)=(0,-1,-1):=by
 rw[List.drop_length];rfl
structure Prog.sane (p:Prog):Prop where
 cells:p.cells.length<2^48
 modules:p.modules.length<2^48
 locks:p.locks.length<2^48
 threads:p.threads.length<2^48
 cname: ∀c∈p.cells,c.name.size<2^50
 mname: ∀m∈p.modules,m.name.size<2^50/\m.owner.size<2^50/\m.frame.length<2^48
 thr: ∀t∈p.threads,t.name.size<2^50/\t.asserts.length<2^48/\t.modules.length<2^48/\t.steps.length<2^48/\t.loops.length<2^48
 sets: ∀t∈p.threads,∀s∈t.steps,s.set.length<2^48
 loops: ∀t∈p.threads,∀l∈t.loops,l.body.length<2^48
end Rg
end
section
-- FULL
namespace Rg
open Go
theorem zse {p:Prog} (hc: ∀c∈p.cells,-1<=c.thread) (sh:Bool) (t c:Int) (ht: -1<=t) (hs:sh=true\/0<=t) (h0:0<=c):zxu p sh t c=ztz p sh t c:=by
 unfold zxu ztz zjW zar;rcases hx:p.cells[c.toNat]? with _ | x
 ·cases sh<;>simp
 ·have:=hc x (zL hx);simp only[h0,decide_true,Bool.true_and]
  have a1:(decide (0<=x.thread))= !decide (x.thread= -1):=by
   by_cases h:x.thread= -1
   ·simp[h]
   ·simp[h];omega
  rw[a1];cases sh
  ·have ht:0<=t:=by simpa using hs
   by_cases h:x.thread= -1
   ·simp[h];omega
   ·simp[h]
  ·by_cases h:x.thread= -1
   ·simp[h]
   ·simp[h]
theorem zhf {α:Type} {P Q:α->Bool} {l:List α} (h: ∀x∈l,P x=Q x):l.all P=l.all Q:=by
 induction l with
 | nil=>rfl
 | cons x r ih=>rw[List.all_cons,List.all_cons,h x (by simp),ih fun y hy=>h y (by simp[hy])]
theorem zrn {op:Int} {e:Expr} {c:Int} (h:c∈e.sup op):0<=c/\e.formed=true/\ ∃x∈e.lv,x.op=op/\x.n.toNat=c.toNat:=by
 unfold Expr.sup at h;split at h
 ·rename_i hf;obtain⟨j,hj,rfl⟩:=List.mem_map.1 h;refine⟨by omega,hf,?_⟩;obtain⟨_,hj⟩:=List.mem_filter.1 hj
  have key: ∀(l:List Expr) (s:List Bool),(l.foldl (zb2 op) s).getD j false=true->s.getD j false=true\/ ∃x∈l,x.op=op/\x.n.toNat=j:=by
   intro l
   induction l with
   | nil=>intro s h;exact .inl h
   | cons x l ih=>
     intro s h;rw[List.foldl_cons]at h;rcases ih _ h with h | ⟨y,hy,h1,h2⟩
     ·unfold zb2 at h;split at h
      ·rename_i ho
       by_cases hn:x.n.toNat=j
       ·exact .inr ⟨x,by simp,ho,hn⟩
       ·left;simpa[List.getD,List.getElem?_set,hn]using h
      ·exact .inl h
     ·exact .inr ⟨y,by simp[hy],h1,h2⟩
  rcases key _ _ hj with h | ⟨x,hx,h1,h2⟩
  ·have:(List.replicate 32 false).getD j false=false:=by
    rw[List.getD,List.getElem?_replicate];split<;>rfl
   rw[this]at h;simp at h
  ·exact⟨x,hx,h1,by simpa using h2⟩
 ·simp at h
theorem zfR {p:Prog} {e:Expr} {pair:Bool} (h:e.valid p.cells pair=true):zod p e:=by
 intro op Ao c hc;obtain⟨h0,hf,x,hx,h1,h2⟩:=zrn hc;refine⟨h0,?_⟩;unfold Expr.valid at h;rw[hf,Bool.true_and,zvP (fun x=>zje p.cells pair) 40 e (zcp hf)]at h;have:=zN.1 h x hx;unfold zb3 at this;rcases Ao with rfl | rfl
 ·simp only[h1]at this;rcases hy:p.cells[x.n.toNat]? with _ | y
  ·simp[hy]at this
  ·have:=(zH.1 hy).1;omega
 ·simp only[h1]at this;rcases hy:p.cells[x.n.toNat]? with _ | y
  ·simp[hy]at this
  ·have:=(zH.1 hy).1;omega
theorem zgW {p:Prog} (hc: ∀c∈p.cells,-1<=c.thread) {e:Expr} (Aj:zod p e) (sh:Bool) (t:Int) (ht: -1<=t) (hs:sh=true\/0<=t):
 Den Γ G 115 [(zP p),(.agg [.t (ti (e).op),.t (ti (e).w),.t (ti (e).n),.t (.sl ((e).kids.map (Expr.enc)))]),vb sh,vi t]=some (vb (zbE p e sh t)):=by
 rw[zr2 p e sh t Aj,List.all_append,zbE];rw[zhf (l:=e.sup 3) fun c Bz=>zse hc sh t c ht hs (Aj 3 (.inr rfl) c Bz).1];rw[zhf (l:=e.sup 2) fun c Bz=>zse hc sh t c ht hs (Aj 2 (.inl rfl) c Bz).1]
theorem zfU {p:Prog} (hc: ∀c∈p.cells,-1<=c.thread) (e:Expr) (pair:Bool) (t:Int) (ht: -1<=t):
 Den Γ G 112 [(zP p),(.agg [.t (ti (e).op),.t (ti (e).w),.t (ti (e).n),.t (.sl ((e).kids.map (Expr.enc)))]),vb pair,vi t]=some (vb (zaR p e pair t)):=by
 (refine zag Γ112 rfl ?_;dsimp only[f112])
 have h1:=zfT e p.cells pair;cases hv:e.valid p.cells pair
 ·rw[hv]at h1;simp -dsimp [go_sem,h1];simp[zaR,hv]
 ·rw[hv]at h1;have h2:=zgW hc (zfR hv) true t ht (.inl rfl);simp -dsimp [go_sem,h1];refine zac (fun h=> ?_) (fun h=> ?_)<;>(try rw[h])<;>(try simp only[zah]at h)<;>(try simp -dsimp [go_sem,h2])
  ·simp[zaR,hv,h]
  ·simp[zaR,hv,h]
theorem zut:Den Γ G 157 []=some (.agg [vi 1,vi 1,vi 1,.t (.sl [])]):=by
 (refine zag Γ157 rfl ?_;dsimp only[zI9])
 have h1:=zfI 1 1;simp -dsimp [go_sem,h1]
theorem zn3 (p:Prog) (hs:p.sane):Den Γ G 84 [(zP p)]=some (.tup [vi (zaV p).1,vi (zaV p).2]):=by
 (refine zag Γ84 rfl ?_;dsimp only[f84])
 simp -dsimp [go_sem]
 by_cases CH:(p.cells.length:Int)>32\/(p.modules.length:Int)>6\/(p.locks.length:Int)>4\/(p.threads.length:Int)>4
 ·have hm:zaV p=(2,-1):=by rw[zaV,if_pos CH]
  rw[hm]
  repeat'(refine zac (fun h=> ?_) (fun h=> ?_)<;>(try rw[h])<;>(try simp only[zah]at h)<;>(try simp -dsimp [go_sem]))
  all_goals(try omega)
 ·have hm:zaV p=zco (fun _ x=>if zaP x then 2 else 0) 0 p.threads:=by rw[zaV,if_neg CH]
  have g1: ¬(p.cells.length:Int)>32:=by omega
  have g2: ¬(p.modules.length:Int)>6:=by omega
  have g3: ¬(p.locks.length:Int)>4:=by omega
  have g4: ¬(p.threads.length:Int)>4:=by omega
  simp -dsimp [go_sem,g1,g2,g3,g4];refine zaT 72057593769492540 p.threads.length (fun i f=>(f 4).v=vi i/\zaV p=zco (fun _ x=>if zaP x then 2 else 0) i (p.threads.drop i)) rfl rfl ⟨by simp -dsimp [go_sem],hm⟩ ?_;clear hm;rintro i f u kk bb hi ⟨h4,hm⟩;have hw:=zan i (by omega);simp -dsimp [go_sem,h4];refine zac (fun h=> ?_) (fun h=> ?_)<;>(try rw[h])<;>(try simp only[zah]at h)<;>(try simp -dsimp [go_sem])
  ·obtain⟨x,hx,_⟩:=zai ‹i<p.threads.length›;have AU:zaP x=true->zaV p=(2,(i:Int)):=fun h0=>by rw[hm,zcC hx (by simp[h0])];simp[h0]
   simp -dsimp [go_sem,h4,hx]
   repeat'(refine zac (fun h=> ?_) (fun h=> ?_)<;>(try rw[h])<;>(try simp only[zah]at h)<;>(try simp -dsimp [go_sem,h4]))
   ·rw[AU (by simp[zaP, *])];simp
   ·rw[AU (by simp[zaP, *])];simp
   ·rw[AU (by simp[zaP, *])];simp
   ·refine⟨by omega,by simp -dsimp [go_sem,hw],?_⟩;rw[hm,zc6 hx (by simp[zaP, *])]
  ·have:i=p.threads.length:=by omega
   subst this;rw[hm,zel];simp
end Rg
end
section
-- FULL
namespace Rg
open Go
theorem zcx {α:Type} {P:α->Bool} {l:List α} {i j:Nat} {x:α} (hx:l[j]? =some x) (hj:j<i) (h:P x=true):(l.take i).any P=true:=by
 rw[List.any_eq_true];exact⟨x,zL (by rw[zO,if_pos hj];exact hx),h⟩
theorem zda {α:Type} {P:α->Bool} {l:List α} {j:Nat} {x:α} (hx:l[j]? =some x):(l.take (j+1)).any P=((l.take j).any P||P x):=by
 rw[zaf hx,List.any_append];simp
theorem zqS (p:Prog) (hs:p.sane):Den Γ G 85 [(zP p)]=some (vi (zce p)):=by
 (refine zag Γ85 rfl ?_;dsimp only[f85])
 simp -dsimp [go_sem];refine zaT 2417851639229258349412348 p.cells.length (fun i f=>(f 3).v=vi i/\zce p=(zco (zci p) i (p.cells.drop i)).1) rfl rfl ⟨by simp -dsimp [go_sem],rfl⟩ ?_;rintro i f u kk bb hi ⟨h3,hm⟩;have He:=hs.cells;have hw:=zan i (by omega);simp -dsimp [go_sem,h3];refine zac (fun h=> ?_) (fun h=> ?_)<;>(try rw[h])<;>(try simp only[zah]at h)<;>(try simp -dsimp [go_sem,h3])
 ·obtain⟨c,hc,BI⟩:=zai ‹i<p.cells.length›
  have AU:zcj p c=true->zce p=1:=fun h0=>by
   have:zci p i c=1:=by simp[zci,h0]
   rw[hm,zcC hc (by simp[this])];exact this
  have hl:=zf1 c.name (hs.cname c BI);have Aj:=zej c.module p.modules.length
  by_cases hb:zcj p c=true
  ·rw[AU hb]
   by_cases PG:c.w<=8
   ·have hp:=zd1 c.w (by omega);simp -dsimp [go_sem,h3,hc,hl]
    repeat'(refine zac (fun h=> ?_) (fun h=> ?_)<;>(try rw[h])<;>(try simp only[zah]at h)<;>(try simp -dsimp [go_sem,h3,hp,Aj]))
    all_goals(exfalso;simp only[zcj,Bool.or_eq_true,Bool.not_eq_true',decide_eq_true_eq]at hb;grind)
   ·have g8:c.w>8:=by omega
    simp -dsimp [go_sem,h3,hc,hl,g8]
    repeat'(refine zac (fun h=> ?_) (fun h=> ?_)<;>(try rw[h])<;>(try simp only[zah]at h)<;>(try simp -dsimp [go_sem,h3,Aj]))
    all_goals(exfalso;omega)
  ·have Bf:=hb;simp only[zcj,Bool.or_eq_true,Bool.not_eq_true',decide_eq_true_eq,not_or]at Bf;obtain⟨⟨⟨⟨⟨⟨⟨b1,b2⟩,b3⟩,b4⟩,b5⟩,b6⟩,b7⟩,b8⟩:=Bf;have b1:zbA c.name=true:=by simpa using b1
   have b8:inR c.module p.modules.length=true:=by simpa using b8
   rw[b1]at hl;rw[b8]at Aj;have hp:=zd1 c.w (by omega);simp -dsimp [go_sem,h3,hc,hl,b2,b3,b4,hp,b5,b6,b7,Aj];refine zaT 2417704065276668672999460 i (fun k f'=>(f' 5).v=vi k/\(p.cells.take k).any (fun d=>d.name.toList==c.name.toList)=false) rfl rfl ⟨by simp -dsimp [go_sem],by simp⟩ ?_;rintro k f' u' kk' bb' hk ⟨h5,A9⟩;have Aw:=zan k (by omega);simp -dsimp [go_sem,h3,h5];refine zac (fun h=> ?_) (fun h=> ?_)<;>(try rw[h])<;>(try simp only[zah]at h)<;>(try simp -dsimp [go_sem,h3,h5])
   ·obtain⟨d,hd,JP⟩:=zai (show k<p.cells.length by omega);simp -dsimp [go_sem,h3,h5,hd];refine zac (fun h=> ?_) (fun h=> ?_)<;>(try rw[h])<;>(try simp only[zah]at h)<;>(try simp -dsimp [go_sem,h3,h5])
    ·have:zci p i c=41:=by
      rw[zci,if_neg hb,if_pos (zcx hd ‹k<i› (by simpa using h))]
     rw[hm,zcC hc (by simp[this])];exact this.symm
    ·refine⟨by omega,by simp -dsimp [go_sem,Aw],?_⟩;rw[zda hd,A9];simpa using h
   ·have:k=i:=by omega
    subst this;refine⟨by omega,by simp -dsimp [go_sem,hw],?_⟩;rw[hm,zc6 hc (by rw[zci,if_neg hb,if_neg (by simp[A9])])]
 ·have:i=p.cells.length:=by omega
  subst this;rw[hm,zel]
theorem zha {p:Prog} (h:zce p=0): ∀c∈p.cells,zcj p c=false:=by
 have key: ∀(l:List Cell) (i:Nat),(zco (zci p) i l).1=0-> ∀c∈l,zcj p c=false:=by
  intro l
  induction l with
  | nil=>intro i _ c hc;simp at hc
  | cons x r ih=>
    intro i h c hc;rw[zco]at h;split at h
    ·rename_i h0;rcases List.mem_cons.1 hc with rfl | hc
     ·cases hb:zcj p c
      ·rfl
      ·simp[zci,hb]at h0
     ·exact ih _ h c hc
    ·rename_i h0;exact absurd h h0
 exact key p.cells 0 h
theorem zfc {p:Prog} {c:Cell} (h:zcj p c=false):zbA c.name=true/\1<=c.w/\c.w<=8/\0<=c.init/\c.init<2^c.w.toNat/\ -1<=c.thread/\c.thread<p.threads.length/\inR c.module p.modules.length=true:=by
 simp only[zcj,Bool.or_eq_false_iff,Bool.not_eq_false',decide_eq_false_iff_not]at h;obtain⟨⟨⟨⟨⟨⟨⟨b1,b2⟩,b3⟩,b4⟩,b5⟩,b6⟩,b7⟩,b8⟩:=h;exact⟨b1,by omega,by omega,by omega,by omega,by omega,by omega,b8⟩
theorem zfL {p:Prog} (h:zce p=0): ∀c∈p.cells,-1<=c.thread:=fun c hc=>(zfc (zha h c hc)).2.2.2.2.2.1
theorem zb6 {p:Prog} {c t:Int} {x:Cell} (h0:0<=c) (hx:p.cells[c.toNat]? =some x):zar p t c=decide (x.thread=t):=by
 simp[zar,h0,hx]
theorem zmP (p:Prog) (hs:p.sane) (By:zce p=0):Den Γ G 86 [(zP p)]=some (vi (zbm p)):=by
 (refine zag Γ86 rfl ?_;dsimp only[f86])
 simp -dsimp [go_sem];have Ez:=zfL By;refine zaT 39614081257132168796771975164 p.modules.length (fun i f=>(f 3).v=vi i/\zbm p=(zco (zdH p) i (p.modules.drop i)).1) rfl rfl ⟨by simp -dsimp [go_sem],rfl⟩ ?_;rintro i f u kk bb hi ⟨h3,hm⟩;have He:=hs.modules;have hw:=zan i (by omega);simp -dsimp [go_sem,h3];refine zac (fun h=> ?_) (fun h=> ?_)<;>(try rw[h])<;>(try simp only[zah]at h)<;>(try simp -dsimp [go_sem,h3])
 ·obtain⟨c,hc,BI⟩:=zai ‹i<p.modules.length›;obtain⟨s1,s2,s3⟩:=hs.mname c BI
  have Ai: ∀k:Int,k≠0->zdH p i c=k->zbm p=k:=fun k hk h0=>by
   rw[hm,zcC hc (by rw[h0];exact hk)];exact h0
  have hl:=zf1 c.name s1;have C7:=zf1 c.owner s2;simp -dsimp [go_sem,h3,hc,hl];refine zac (fun h=> ?_) (fun h=> ?_)<;>(try rw[h])<;>(try simp only[zah]at h)<;>(try simp -dsimp [go_sem,h3,C7])
  ·rw[Ai 1 (by decide) (by simp[zdH,h])]
  ·refine zac (fun h=> ?_) (fun h=> ?_)<;>(try rw[h])<;>(try simp only[zah]at h)<;>(try simp -dsimp [go_sem,h3])
   ·rw[Ai 1 (by decide) (by simp[zdH,h])]
   ·have e1:zbA c.name=true:=by assumption
    have e2:zbA c.owner=true:=by assumption
    refine zaT 8795556151332 i (fun k f'=>(f' 5).v=vi k/\(p.modules.take k).any (fun d=>d.name.toList==c.name.toList)=false) rfl rfl ⟨by simp -dsimp [go_sem],by simp⟩ ?_;rintro k f' u' kk' bb' hk ⟨h5,A9⟩;have Aw:=zan k (by omega);simp -dsimp [go_sem,h3,h5];refine zac (fun h=> ?_) (fun h=> ?_)<;>(try rw[h])<;>(try simp only[zah]at h)<;>(try simp -dsimp [go_sem,h3,h5])
    ·obtain⟨d,hd,JP⟩:=zai (show k<p.modules.length by omega);simp -dsimp [go_sem,h3,h5,hd];refine zac (fun h=> ?_) (fun h=> ?_)<;>(try rw[h])<;>(try simp only[zah]at h)<;>(try simp -dsimp [go_sem,h3,h5])
     ·rw[Ai 41 (by decide) (by rw[zdH,if_neg (by simp[e1,e2]),if_pos (zcx hd ‹k<i› (by simpa using h))])]
     ·refine⟨by omega,by simp -dsimp [go_sem,Aw],?_⟩;rw[zda hd,A9];simpa using h
    ·have:k=i:=by omega
     subst this;have Ca:=zoA c.rely;have Hw:=zfU Ez c.rely true (-1) (by omega);have HI:=zfU Ez c.guar true (-1) (by omega)
     have Fk:zdH p k c=if(!c.rely.absent&& !zaR p c.rely true (-1)) || !zaR p c.guar true (-1)then 60 else if !zc0 c.frame || !c.frame.all (zar p (-1))then 1 else 0:=by
      rw[zdH,if_neg (by simp[e1,e2]),if_neg (by simp[A9])]
     by_cases hr:((!c.rely.absent&& !zaR p c.rely true (-1)) || !zaR p c.guar true (-1))=true
     ·rw[Ai 60 (by decide) (by rw[Fk,if_pos hr])];simp -dsimp [go_sem,h3,Ca]
      repeat'(refine zac (fun h=> ?_) (fun h=> ?_)<;>(try rw[h])<;>(try simp only[zah]at h)<;>(try simp -dsimp [go_sem,h3,Hw,HI]))
      all_goals(exfalso;simp_all)
     ·have AG: ∀(Q:Prop),(c.rely.absent=true->zaR p c.guar true (-1)=true->Q)->(c.rely.absent=false->zaR p c.rely true (-1)=true->zaR p c.guar true (-1)=true->Q)->Q:=fun Q q1 q2=>by
       cases h1:c.rely.absent<;>cases h2:zaR p c.rely true (-1)<;>cases h3:zaR p c.guar true (-1)<;>simp_all
      rw[if_neg hr]at Fk;refine AG _ (fun r1 r2=> ?_) (fun r1 r2 r3=> ?_)
      all_goals(
       (try rw[r1]at Ca)
       (try rw[r2]at Hw)
       (try rw[r2]at HI)
       (try rw[r3]at HI)
       simp -dsimp [go_sem,h3,Ca,Hw,HI];refine zaT 2475880076264917540584554564 c.frame.length (fun j f2=>(f2 6).v=vi j/\c.frame.all (zar p (-1))=(c.frame.drop j).all (zar p (-1))) rfl rfl ⟨by simp -dsimp [go_sem],rfl⟩ ?_;rintro j f2 u2 kk2 bb2 hj ⟨h6,Aa⟩;have BO:=zan j (by omega);simp -dsimp [go_sem,h3,h6];refine zac (fun h=> ?_) (fun h=> ?_)<;>(try rw[h])<;>(try simp only[zah]at h)<;>(try simp -dsimp [go_sem,h3,h6])
       ·obtain⟨d,hd,JP⟩:=zai (show j<c.frame.length by omega);have Aj:=zej d p.cells.length
        have Be:zar p (-1) d=false->1=zbm p:=fun h0=>by
         rw[Ai 1 (by decide) (by rw[Fk,Aa,za6 hd h0];simp)]
        simp -dsimp [go_sem,h3,h6,hd,Aj];refine zac (fun h=> ?_) (fun h=> ?_)<;>(try rw[h])<;>(try simp only[zah]at h)<;>(try simp -dsimp [go_sem,h3,h6])
        ·exact Be (zeh h)
        ·obtain⟨d0,x,hx⟩:=zch h;have KT:=zb6 (t:= -1) d0 hx;simp -dsimp [go_sem,h3,h6,hd,d0,hx];refine zac (fun h=> ?_) (fun h=> ?_)<;>(try rw[h])<;>(try simp only[zah]at h)<;>(try simp -dsimp [go_sem,h3,h6])
         ·exact Be (by rw[KT];simpa using h)
         ·refine⟨by omega,by simp -dsimp [go_sem,BO],?_⟩;rw[Aa,za7 hd (by rw[KT];simpa using h)]
       ·have:j=c.frame.length:=by omega
        subst this;rw[zbB]at Aa;rw[Aa]at Fk;have Et:=zkr c.frame (by omega);simp -dsimp [go_sem,h3,Et];refine zac (fun h=> ?_) (fun h=> ?_)<;>(try rw[h])<;>(try simp only[zah]at h)<;>(try simp -dsimp [go_sem,h3])
        ·rw[Ai 1 (by decide) (by rw[Fk];simp[h])]
        ·refine⟨by omega,by simp -dsimp [go_sem,hw],?_⟩
         rw[hm,zc6 hc (by rw[Fk];simp[h])])
 ·have:i=p.modules.length:=by omega
  subst this;rw[hm,zel]
end Rg
end
section
-- FULL
namespace Rg
open Go
theorem zaZ {p:Prog} {c:Int} {x:Cell} {g:Cell->Bool} (hx:p.cells[c.toNat]? =some x):zby p c g=g x:=by simp[zby,hx]
theorem zqs (p:Prog) (hs:p.sane) (By:zce p=0):Den Γ G 87 [(zP p)]=some (vi (zcT p)):=by
 (refine zag Γ87 rfl ?_;dsimp only[f87])
 simp -dsimp [go_sem];have Ez:=zfL By;refine zaT 4835703278458516698824700 p.locks.length (fun i f=>(f 3).v=vi i/\zcT p=(zco (zcM p) i (p.locks.drop i)).1) rfl rfl ⟨by simp -dsimp [go_sem],rfl⟩ ?_;rintro i f u kk bb hi ⟨h3,hm⟩;have He:=hs.locks;have hw:=zan i (by omega);simp -dsimp [go_sem,h3];refine zac (fun h=> ?_) (fun h=> ?_)<;>(try rw[h])<;>(try simp only[zah]at h)<;>(try simp -dsimp [go_sem,h3])
 ·obtain⟨l,hl,Hy⟩:=zai ‹i<p.locks.length›
  have Ai: ∀k:Int,k≠0->zcM p i l=k->zcT p=k:=fun k hk h0=>by
   rw[hm,zcC hl (by rw[h0];exact hk)];exact h0
  have Aj:=zej l.cell p.cells.length;have FC:=zej l.module p.modules.length;simp -dsimp [go_sem,h3,hl,Aj];refine zac (fun h=> ?_) (fun h=> ?_)<;>(try rw[h])<;>(try simp only[zah]at h)<;>(try simp -dsimp [go_sem,h3])
  ·rw[Ai 1 (by decide) (by simp[zcM,zeh h])]
  ·obtain⟨d0,x,hx⟩:=zch h;have KT:=zb6 (t:= -1) d0 hx;have Dr:=zaZ (g:=fun x=>decide (x.w=1)) hx;have CG:=zaZ (g:=Cell.ghost) hx;simp -dsimp [go_sem,h3,hl,d0,hx]
   by_cases AU:(!zar p (-1) l.cell || !zby p l.cell (fun x=>decide (x.w=1))||zby p l.cell Cell.ghost || !inR l.module p.modules.length)=true
   ·rw[Ai 1 (by decide) (by rw[zcM,if_pos AU])];rw[KT,Dr,CG]at AU
    repeat'(refine zac (fun h=> ?_) (fun h=> ?_)<;>(try rw[h])<;>(try simp only[zah]at h)<;>(try simp -dsimp [go_sem,h3,hl,d0,hx,FC]))
    all_goals(exfalso;simp_all)
   ·have A5:zcM p i l=if(p.locks.take i).any (fun d=>decide (d.cell=l.cell))then 1 else if !zaR p l.inv false (-1)then 60 else 0:=by rw[zcM,if_neg AU]
    rw[KT,Dr,CG]at AU;simp only[Bool.or_eq_true,Bool.not_eq_true',decide_eq_false_iff_not,not_or,Decidable.not_not,Bool.not_eq_true,Bool.not_eq_false]at AU;obtain⟨⟨⟨b1,b2⟩,b3⟩,b4⟩:=AU;rw[b4]at FC;simp -dsimp [go_sem,h3,hl,d0,hx,b1,b2,b3,FC];refine zaT 151106504079791792062500 i (fun k f'=>(f' 5).v=vi k/\(p.locks.take k).any (fun d=>decide (d.cell=l.cell))=false) rfl rfl ⟨by simp -dsimp [go_sem],by simp⟩ ?_;rintro k f' u' kk' bb' hk ⟨h5,A9⟩;have Aw:=zan k (by omega);simp -dsimp [go_sem,h3,h5];refine zac (fun h=> ?_) (fun h=> ?_)<;>(try rw[h])<;>(try simp only[zah]at h)<;>(try simp -dsimp [go_sem,h3,h5])
    ·obtain⟨d,hd,JP⟩:=zai (show k<p.locks.length by omega);simp -dsimp [go_sem,h3,h5,hd];refine zac (fun h=> ?_) (fun h=> ?_)<;>(try rw[h])<;>(try simp only[zah]at h)<;>(try simp -dsimp [go_sem,h3,h5])
     ·rw[Ai 1 (by decide) (by rw[A5,if_pos (zcx hd ‹k<i› (by simpa using h))])]
     ·refine⟨by omega,by simp -dsimp [go_sem,Aw],?_⟩;rw[zda hd,A9];simpa using h
    ·have:k=i:=by omega
     subst this;rw[A9]at A5;have Hw:=zfU Ez l.inv false (-1) (by omega);simp -dsimp [go_sem,h3,Hw];refine zac (fun h=> ?_) (fun h=> ?_)<;>(try rw[h])<;>(try simp only[zah]at h)<;>(try simp -dsimp [go_sem,h3])
     ·rw[Ai 60 (by decide) (by rw[A5];simp[h])]
     ·refine⟨by omega,by simp -dsimp [go_sem,hw],?_⟩;rw[hm,zc6 hl (by rw[A5];simp[h])]
 ·have:i=p.locks.length:=by omega
  subst this;rw[hm,zel]
end Rg
end
section
namespace Rg
open Go
theorem zrm {e:Expr} (h:e.one=true) (op:Int) (Ao:op≠1):e.sup op=[]:=by
 simp only[Expr.one,decide_eq_true_eq]at h;obtain⟨h1,h2,h3,h4⟩:=h;rw[List.eq_nil_iff_forall_not_mem];intro c hc;obtain⟨_,_,x,hx,R6,_⟩:=zrn hc;rw[Expr.lv_eq,if_pos h4]at hx;simp only[List.mem_singleton]at hx;subst hx;omega
theorem zuq {p:Prog} {e:Expr} (h:e.one=true) (sh:Bool) (t:Int):zbE p e sh t=true:=by
 rw[zbE,zrm h 3 (by decide),zrm h 2 (by decide)];rfl
def ze6 (p:Prog) (t:Int) (s:Step):Prop:=zbE p s.guard (decide (s.kind=4)) t=true/\
 ∀(j:Nat) (a:Assign),s.set[j]? =some a->((0<j\/s.kind≠2)->zbE p a.to (decide (s.kind=4)) t=true)/\(zar p t a.cell=true\/zar p (-1) a.cell=true)
theorem zqu {p:Prog} {t:Int} {s:Step} (h:zbG p t s=true) (hk:1<=s.kind/\s.kind<=7):ze6 p t s:=by
 unfold zbG at h;split at h
 ·rename_i k;simp only[zbz,zF,zN]at h;refine⟨by simpa[k]using h.1.1,fun j a ha=>⟨fun _=>by simpa[k]using h.1.2 a (zL ha),.inl (h.2 a (zL ha))⟩⟩
 ·split at h
  ·rename_i k;unfold zg1 at h;split at h
   ·simp at h
   ·rename_i a r hs;simp only[zF,zN]at h;obtain⟨⟨⟨⟨⟨⟨g1,g2⟩,g3⟩,g4⟩,g5⟩,g6⟩,g7⟩:=h;refine⟨by simpa[k]using g1,fun j b hb=> ?_⟩;rw[hs]at hb
    cases j with
    | zero=>simp at hb;subst hb;exact⟨fun h0=>by simp[k]at h0,.inl g2⟩
    | succ j=>
      simp only[List.getElem?_cons_succ]at hb;have:=g7 b (zL hb);exact⟨fun _=>by simpa[k]using this.2,.inl this.1.1⟩
  ·split at h
   ·rename_i k;unfold zeY at h;split at h
    ·simp at h
    ·rename_i a r hs;simp only[zbz,zF,zN]at h;obtain⟨⟨⟨⟨g1,g2⟩,g3⟩,g4⟩,g5⟩:=h;refine⟨by simpa[k]using g1,fun j b hb=>⟨fun _=>by simpa[k]using g2 b (zL hb),?_⟩⟩;rw[hs]at hb
     cases j with
     | zero=>simp at hb;subst hb;exact .inr g3
     | succ j=>
       simp only[List.getElem?_cons_succ]at hb;have:=(g5 b (zL hb)).2;simp only[zjW,Bool.or_eq_true]at this;exact this.symm
   ·split at h
    ·rename_i k;simp only[zbz,zF,zN]at h;refine⟨by simpa[k]using h.1.1,fun j a ha=>⟨fun _=>by simpa[k]using h.1.2 a (zL ha),?_⟩⟩;have:=h.2 a (zL ha);simp only[zjW,Bool.or_eq_true]at this;exact this.symm
    ·have key:s.guard.one=true/\s.set=[]:=by
      split at h
      ·simpa using h
      ·split at h
       ·simp only[zdd,zF,decide_eq_true_eq]at h;exact h.1.1.1
       ·simp only[zdd,zF,decide_eq_true_eq]at h;exact h.1.1
     refine⟨zuq key.1 _ _,fun j a ha=>by rw[key.2]at ha;simp at ha⟩
theorem zhu {p:Prog} {t:Int} {s:Step} (h:ze6 p t s) (hk:s.kind≠2):zbz p s (decide (s.kind=4)) t=true:=by
 simp only[zbz,zF,zN];refine⟨h.1,fun a ha=> ?_⟩;obtain⟨j,hj,rfl⟩:=List.mem_iff_getElem.1 ha;exact(h.2 j _ (zI hj)).1 (.inr hk)
theorem zpd {p:Prog} {t:Int} {s:Step} (h:ze6 p t s) {a:Assign} (ha:a∈s.set):zjW p t a.cell=true:=by
 obtain⟨j,hj,rfl⟩:=List.mem_iff_getElem.1 ha;have:=(h.2 j _ (zI hj)).2;simp only[zjW,Bool.or_eq_true];exact this.symm
theorem zBH {p:Prog} {t:Int} {s:Step} (h:ze6 p t s) (hk:s.kind=1):zbG p t s=s.set.all fun a=>zar p t a.cell:=by
 have:=zhu h (by omega);rw[zbG,if_pos hk];simp only[hk]at this;rw[show(decide ((1:Int)=4))=false from rfl]at this;rw[this,Bool.true_and]
theorem zBG {p:Prog} {t:Int} {s:Step} (h:ze6 p t s) (hk:s.kind=2) {a:Assign} {r:List Assign} (hs:s.set=a::r):
 zbG p t s=(zar p t a.cell&& !zby p a.cell Cell.ghost&&decide (a.to.op=2)&&zar p (-1) a.to.n&& !zby p a.to.n Cell.ghost&&r.all fun b=>zar p t b.cell&&zby p b.cell Cell.ghost):=by
 have h1:=h.1;simp only[hk]at h1;rw[show(decide ((2:Int)=4))=false from rfl]at h1;rw[zbG,if_neg (by omega),if_pos hk,zg1,hs];simp only[h1,Bool.true_and]
 congr 1
 refine zhf fun b hb=> ?_
 obtain⟨j,hj,rfl⟩:=List.mem_iff_getElem.1 hb;have:=(h.2 (j+1) r[j] (by rw[hs];simp[hj])).1 (.inl (by omega));simp only[hk]at this;rw[show(decide ((2:Int)=4))=false from rfl]at this;rw[this,Bool.and_true]
theorem zBF {p:Prog} {t:Int} {s:Step} (h:ze6 p t s) (hk:s.kind=3) {a:Assign} {r:List Assign} (hs:s.set=a::r):
 zbG p t s=(zar p (-1) a.cell&& !zby p a.cell Cell.ghost&&r.all fun b=>zby p b.cell Cell.ghost):=by
 have h1:=zhu h (by omega);simp only[hk]at h1;rw[show(decide ((3:Int)=4))=false from rfl]at h1;have h2: ∀b∈r,zjW p t b.cell=true:=fun b hb=>zpd h (by rw[hs];simp[hb])
 rw[zbG,if_neg (by omega),if_neg (by omega),if_pos hk,zeY,hs];simp only[h1,Bool.true_and]
 congr 1
 refine zhf fun b hb=> ?_
 rw[h2 b hb,Bool.and_true]
theorem zBE {p:Prog} {t:Int} {s:Step} (h:ze6 p t s) (hk:s.kind=4):zbG p t s=true:=by
 have h1:=zhu h (by omega);simp only[hk,decide_true]at h1;rw[zbG,if_neg (by omega),if_neg (by omega),if_neg (by omega),if_pos hk,h1,Bool.true_and,zN];exact fun a ha=>zpd h ha
theorem zvR {p:Prog} {t:Int} {s:Step} (hk:s.kind=2\/s.kind=3) (hs:s.set=[]):zbG p t s=false:=by
 rcases hk with hk | hk
 ·rw[zbG,if_neg (by omega),if_pos hk,zg1,hs]
 ·rw[zbG,if_neg (by omega),if_neg (by omega),if_pos hk,zeY,hs]
def zjN (p:Prog) (s:Step):Prop:=s.guard.valid p.cells false=true/\ ∀a∈s.set,inR a.cell p.cells.length=true/\a.to.valid p.cells false=true
theorem zj7 {p:Prog} {e:Expr} (h:e.valid p.cells false=true) (ho:e.op=2):inR e.n p.cells.length=true:=by
 have hf:e.formed=true:=by unfold Expr.valid at h;simp only[zF]at h;exact h.1
 have h0:=zfZ (zcq (zcp hf));unfold Expr.valid at h;simp only[zF]at h;have:=Expr.allE_self h.2;unfold zb3 at this;simp only[ho]at this;rcases hy:p.cells[e.n.toNat]? with _ | y
 ·simp[hy]at this
 ·have:=(zH.1 hy).1;simp only[inR,decide_eq_true_eq];omega
theorem zsn (p:Prog) (Ez: ∀c∈p.cells,-1<=c.thread) (t:Int) (ht:0<=t) (s:Step) (Ac:s.set.length<2^48) (hr:zjN p s) (hk:1<=s.kind/\s.kind<=7):
 Den Γ G 137 [(zP p),vi t,(zS s)]=some (vb (zbG p t s)):=by
 (refine zag Γ137 rfl ?_;dsimp only[f137])
 have hg:=zgW Ez (zfR hr.1) (decide (s.kind=4)) t (by omega) (.inr ht)
 have Be: ¬ze6 p t s->false=zbG p t s:=fun h0=>by
  cases h:zbG p t s
  ·rfl
  ·exact absurd (zqu h hk) h0
 simp -dsimp only[go_sem,seval,hg];refine zac (fun h=> ?_) (fun h=> ?_)<;>(try rw[h])<;>(try simp only[zah]at h)<;>(try simp -dsimp only[go_sem,seval])
 ·exact Be (fun h0=>by rw[h0.1]at h;simp at h)
 ·have FD:zbE p s.guard (decide (s.kind=4)) t=true:=by assumption
  refine zaT 1180591620717142869568 s.set.length (fun i f=>(f 9).v=vi i/\ ∀(j:Nat) (a:Assign),j<i->s.set[j]? =some a->((0<j\/s.kind≠2)->zbE p a.to (decide (s.kind=4)) t=true)/\(zar p t a.cell=true\/zar p (-1) a.cell=true)) rfl rfl ⟨by simp -dsimp only[go_sem,seval],fun j a hj=>by omega⟩ ?_;rintro i f u kk bb hi ⟨h9,CA⟩;have hw:=zan i (by omega);simp -dsimp only[go_sem,seval,h9];refine zac (fun h=> ?_) (fun h=> ?_)<;>(try rw[h])<;>(try simp only[zah]at h)<;>(try simp -dsimp only[go_sem,seval,h9])
  ·obtain⟨a,ha,Cp⟩:=zai ‹i<s.set.length›;obtain⟨Aj,Bu⟩:=hr.2 a Cp;have ho:=zgW Ez (zfR Bu) (decide (s.kind=4)) t (by omega) (.inr ht);obtain⟨d0,x,hx⟩:=zch Aj;have Ab:=zir p a.cell t x d0 hx;have Bo:=zgs p a.cell x d0 hx;have o1:=zb6 (t:=t) d0 hx;have o2:=zb6 (t:= -1) d0 hx
   repeat'(refine zac (fun h=> ?_) (fun h=> ?_)<;>(try rw[h])<;>(try simp only[zah]at h)<;>(try simp -dsimp only[go_sem,seval,h9,ha,ho,Ab,Bo]))
   all_goals first
    | (refine Be (fun h0=> ?_)
       have h1:=h0.2 i a ha;rw[o1,o2]at h1;have h2:=h1.1;have h3:=h1.2
       simp_all
       done)
    | (refine⟨by omega,by simp -dsimp only[go_sem,seval,hw],fun j b hj hb=> ?_⟩
       by_cases DP:j=i
       ·subst DP;rw[ha]at hb;cases hb;rw[o1,o2]
        simp_all
        done
       ·exact CA j b (by omega) hb)
    | skip
  ·have Ks:i=s.set.length:=by omega
   have hP:ze6 p t s:=⟨FD,fun j a ha=>CA j a (by rw[Ks];exact(zH.1 ha).1) ha⟩
   clear CA hg Be FD;have Dn:s.kind=1\/s.kind=2\/s.kind=3\/s.kind=4\/s.kind=5\/s.kind=6\/s.kind=7:=by omega
   rcases Dn with k | k | k | k | k | k | k
   ·have hK:=zBH hP k;simp -dsimp only[go_sem,seval,k];refine zaT 618951130176758658868709440 s.set.length (fun j f'=>(f' 11).v=vi j/\zbG p t s=(s.set.drop j).all fun a=>zar p t a.cell) rfl rfl ⟨by simp -dsimp only[go_sem,seval],hK⟩ ?_;rintro j f' u' kk' bb' hj ⟨h11,Aa⟩;have Aw:=zan j (by omega);simp -dsimp only[go_sem,seval,h11];refine zac (fun h=> ?_) (fun h=> ?_)<;>(try rw[h])<;>(try simp only[zah]at h)<;>(try simp -dsimp only[go_sem,seval,h11])
    ·obtain⟨a,ha,Cp⟩:=zai ‹j<s.set.length›;obtain⟨d0,x,hx⟩:=zch (hr.2 a Cp).1;have Ab:=zir p a.cell t x d0 hx;have o1:=zb6 (t:=t) d0 hx;simp -dsimp only[go_sem,seval,h11,ha,Ab];refine zac (fun h=> ?_) (fun h=> ?_)<;>(try rw[h])<;>(try simp only[zah]at h)<;>(try simp -dsimp only[go_sem,seval,h11])
     ·rw[Aa,za6 ha (by rw[o1];simpa using h)]
     ·refine⟨by omega,by simp -dsimp only[go_sem,seval,Aw],?_⟩;rw[Aa,za7 ha (by rw[o1];simpa using h)]
    ·have:j=s.set.length:=by omega
     subst this;rw[Aa,zbB]
   ·rcases hs:s.set with _ | ⟨a,r⟩
    ·rw[zvR (.inl k) hs];simp -dsimp only[go_sem,seval,k,hs]
    ·have hK:=zBG hP k hs;have BA:s.set.length=r.length+1:=by rw[hs];rfl
     have h0:s.set[0]? =some a:=by rw[hs];rfl
     have Cp:a∈s.set:=by rw[hs];simp
     obtain⟨d0,x,hx⟩:=zch (hr.2 a Cp).1;have Ab:=zir p a.cell t x d0 hx;have o1:=zb6 (t:=t) d0 hx;have o2:=zaZ (g:=Cell.ghost) hx;have Az: ¬(((r.length+1:Nat):Int)=0):=by omega
     simp -dsimp only[go_sem,seval,k,BA,Az,h0,Ab];refine zac (fun h=> ?_) (fun h=> ?_)<;>(try rw[h])<;>(try simp only[zah]at h)<;>(try simp -dsimp only[go_sem,seval,k,BA,h0,d0,hx])
     ·rw[hK,o1];simp[h]
     ·have e1:x.thread=t:=by assumption
      refine zac (fun h=> ?_) (fun h=> ?_)<;>(try rw[h])<;>(try simp only[zah]at h)<;>(try simp -dsimp only[go_sem,seval,k,BA,h0,d0,hx])
      ·rw[hK,o2];simp[h]
      ·have e2:x.ghost=false:=by assumption
       refine zac (fun h=> ?_) (fun h=> ?_)<;>(try rw[h])<;>(try simp only[zah]at h)<;>(try simp -dsimp only[go_sem,seval,k,BA,h0,d0,hx])
       ·rw[hK];simp[h]
       ·have e3:a.to.op=2:=by assumption
        obtain⟨d1,y,hy⟩:=zch (zj7 (hr.2 a Cp).2 e3);have Bo:=zgs p a.to.n y d1 hy;have q1:=zb6 (t:= -1) d1 hy;have q2:=zaZ (g:=Cell.ghost) hy;simp -dsimp only[go_sem,seval,Bo];refine zac (fun h=> ?_) (fun h=> ?_)<;>(try rw[h])<;>(try simp only[zah]at h)<;>(try simp -dsimp only[go_sem,seval,d1,hy])
        ·rw[hK,q1];simp[h]
        ·have e4:y.thread= -1:=by assumption
         refine zac (fun h=> ?_) (fun h=> ?_)<;>(try rw[h])<;>(try simp only[zah]at h)<;>(try simp -dsimp only[go_sem,seval,d1,hy])
         ·rw[hK,q2];simp[h]
         ·rw[o1,o2,q1,q2]at hK;simp only[e1,e2,e3,e4,h,decide_true,Bool.not_false,Bool.and_true,Bool.true_and]at hK;refine zaT 748288836919625719212122688004754514023314867888192 r.length (fun j f'=>(f' 13).v=vi ((j+1:Nat):Int)/\zbG p t s=(r.drop j).all fun b=>zar p t b.cell&&zby p b.cell Cell.ghost) rfl rfl ⟨by simp -dsimp only[go_sem,seval],hK⟩ ?_;rintro j f' u' kk' bb' hj ⟨Du,Aa⟩;have Aw:=zan (j+1) (by omega);simp -dsimp only[go_sem,seval,Du,BA];refine zac (fun h=> ?_) (fun h=> ?_)<;>(try rw[h])<;>(try simp only[zah]at h)<;>(try simp -dsimp only[go_sem,seval,Du,BA])
          ·obtain⟨b,hb,LN⟩:=zai (show j<r.length by omega);have Bf:s.set[j+1]? =some b:=by rw[hs];exact hb
           obtain⟨d2,z,hz⟩:=zch (hr.2 b (by rw[hs];simp[LN])).1;have KR:=zir p b.cell t z d2 hz;have z1:=zb6 (t:=t) d2 hz;have z2:=zaZ (g:=Cell.ghost) hz;simp -dsimp only[go_sem,seval,Du,hb,KR]
           repeat'(refine zac (fun h=> ?_) (fun h=> ?_)<;>(try rw[h])<;>(try simp only[zah]at h)<;>(try simp -dsimp only[go_sem,seval,Du,hb,d2,hz]))
           all_goals first
            | (rw[Aa,za6 hb (by rw[z1,z2];simp[*])];done)
            | (refine⟨by omega,by simp -dsimp only[go_sem,seval,Aw],?_⟩
               rw[Aa,za7 hb (by rw[z1,z2];simp[*])])
          ·have:j=r.length:=by omega
           subst this;rw[Aa,zbB]
   ·rcases hs:s.set with _ | ⟨a,r⟩
    ·rw[zvR (.inr k) hs];simp -dsimp only[go_sem,seval,k,hs]
    ·have hK:=zBF hP k hs;have BA:s.set.length=r.length+1:=by rw[hs];rfl
     have h0:s.set[0]? =some a:=by rw[hs];rfl
     have Cp:a∈s.set:=by rw[hs];simp
     obtain⟨d0,x,hx⟩:=zch (hr.2 a Cp).1;have Bo:=zgs p a.cell x d0 hx;have o1:=zb6 (t:= -1) d0 hx;have o2:=zaZ (g:=Cell.ghost) hx;have Az: ¬(((r.length+1:Nat):Int)=0):=by omega
     simp -dsimp only[go_sem,seval,k,BA,Az,h0,Bo];refine zac (fun h=> ?_) (fun h=> ?_)<;>(try rw[h])<;>(try simp only[zah]at h)<;>(try simp -dsimp only[go_sem,seval,k,BA,h0,d0,hx])
     ·rw[hK,o1];simp[h]
     ·have e1:x.thread= -1:=by assumption
      refine zac (fun h=> ?_) (fun h=> ?_)<;>(try rw[h])<;>(try simp only[zah]at h)<;>(try simp -dsimp only[go_sem,seval,k,BA,h0,d0,hx])
      ·rw[hK,o2];simp[h]
      ·rw[o1,o2]at hK;simp only[e1,h,decide_true,Bool.not_false,Bool.and_true,Bool.true_and]at hK;refine zaT 6581968012470941075173766043914016358599614643690763741118349376 r.length (fun j f'=>(f' 14).v=vi ((j+1:Nat):Int)/\zbG p t s=(r.drop j).all fun b=>zby p b.cell Cell.ghost) rfl rfl ⟨by simp -dsimp only[go_sem,seval],hK⟩ ?_;rintro j f' u' kk' bb' hj ⟨Du,Aa⟩;have Aw:=zan (j+1) (by omega);simp -dsimp only[go_sem,seval,Du,BA];refine zac (fun h=> ?_) (fun h=> ?_)<;>(try rw[h])<;>(try simp only[zah]at h)<;>(try simp -dsimp only[go_sem,seval,Du,BA])
       ·obtain⟨b,hb,LN⟩:=zai (show j<r.length by omega);have Bf:s.set[j+1]? =some b:=by rw[hs];exact hb
        obtain⟨d2,z,hz⟩:=zch (hr.2 b (by rw[hs];simp[LN])).1;have z2:=zaZ (g:=Cell.ghost) hz;simp -dsimp only[go_sem,seval,Du,hb,d2,hz];refine zac (fun h=> ?_) (fun h=> ?_)<;>(try rw[h])<;>(try simp only[zah]at h)<;>(try simp -dsimp only[go_sem,seval,Du])
        ·rw[Aa,za6 hb (by rw[z2];simp[h])]
        ·refine⟨by omega,by simp -dsimp only[go_sem,seval,Aw],?_⟩;rw[Aa,za7 hb (by rw[z2];simp[h])]
       ·have:j=r.length:=by omega
        subst this;rw[Aa,zbB]
   ·rw[zBE hP k];simp -dsimp only[go_sem,seval,k]
   all_goals(
    have ho:=zut;have AQ:=znM s.guard;have Aj:=zej s.target p.threads.length
    have EL:zbG p t s=(if s.kind=5 then s.guard.one&&decide (s.set=[])else if s.kind=6 then zdd p t s&&zf7 p s.target else zdd p t s):=by
     rw[zbG,if_neg (by omega),if_neg (by omega),if_neg (by omega),if_neg (by omega)]
    simp only[k]at EL;rw[show decide (s.guard.op=1/\s.guard.w=1/\s.guard.n=1/\s.guard.kids=[])=s.guard.one from rfl]at AQ
    by_cases hn:s.set=[]
    ·have Cg:s.set.length=0:=by rw[hn];rfl
     by_cases Lz:inR s.target p.threads.length=true
     ·have Lx:=Lz;simp only[inR,decide_eq_true_eq]at Lx;obtain⟨t0,t1⟩:=Lx;obtain⟨y,hy⟩: ∃y,p.threads[s.target.toNat]? =some y:=⟨_,zI (by omega)⟩
      have Eo:zf7 p s.target=y.asleep:=by simp[zf7,hy]
      rw[Lz]at Aj;simp -dsimp only[go_sem,seval,k,Cg,ho,AQ]
      repeat'(refine zac (fun h=> ?_) (fun h=> ?_)<;>(try rw[h])<;>(try simp only[zah]at h)<;>(try simp -dsimp only[go_sem,seval,k,Aj,t0,hy]))
      all_goals(
       rw[EL]
       simp[zdd, *])
     ·have Lz:inR s.target p.threads.length=false:=by simpa using Lz
      rw[Lz]at Aj;simp -dsimp only[go_sem,seval,k,Cg,ho,AQ]
      repeat'(refine zac (fun h=> ?_) (fun h=> ?_)<;>(try rw[h])<;>(try simp only[zah]at h)<;>(try simp -dsimp only[go_sem,seval,k,Aj]))
      all_goals(
       rw[EL]
       simp[zdd, *])
    ·have Cg:(s.set.length:Int)>0:=by have:=List.length_pos_iff.2 hn;omega
     simp -dsimp only[go_sem,seval,k,Cg];rw[EL]
     simp[zdd,hn])
end Rg
end
section
-- FULL
namespace Rg
open Go
theorem zed {p:Prog} {set:List Assign}: ∀{l:List Assign} {i:Nat},(zco (zbC p set) i l).1=0-> ∀a∈l,inR a.cell p.cells.length=true/\a.to.valid p.cells false=true
 | [],_,_,a,ha=>by simp at ha
 | x::r,i,h,a,ha=>by
   rw[zco]at h;split at h
   ·rename_i h0;rcases List.mem_cons.1 ha with rfl | ha
    ·unfold zbC at h0;split at h0
     ·simp at h0
     ·rename_i h1;split at h0
      ·simp at h0
      ·rename_i h2;simp only[Bool.or_eq_true,not_or,Bool.not_eq_true',Bool.not_eq_false]at h1 h2;exact⟨h1.1,h2.1⟩
    ·exact zed h a ha
   ·rename_i h0;exact absurd h h0
set_option maxHeartbeats 4000000 in
theorem zrr (p:Prog) (Ez: ∀c∈p.cells,-1<=c.thread) (t:Int) (ht:0<=t) (x:Thread) (hx:p.threads[t.toNat]? =some x) (K7: -2^48<x.points/\x.points<2^48) (s:Step) (Ac:s.set.length<2^48):
 Den Γ G 114 [(zP p),vi t,(zS s)]=some (vi (zaS p t x.points s)):=by
 (refine zag Γ114 rfl ?_;dsimp only[f114])
 have Cj:IntKind.i64.wrap (x.points-1)=x.points-1:=zaH (by omega);have B8:=zej s.fr (x.points-1);have Cq:=zej s.to x.points;have C8:=zej s.module p.modules.length;have hv:=zfT s.guard p.cells false;simp -dsimp [go_sem,ht,hx]
 by_cases AU:zdW p x.points s=true
 ·rw[zaS,if_pos AU]
  repeat'(refine zac (fun h=> ?_) (fun h=> ?_)<;>(try rw[h])<;>(try simp only[zah]at h)<;>(try simp -dsimp [go_sem,ht,hx,Cj,B8,Cq,C8]))
  all_goals(exfalso;simp only[zdW,Bool.or_eq_true,zF,Bool.not_eq_true',decide_eq_true_eq]at AU;simp_all;try omega)
 ·have Dx:zaS p t x.points s=if !s.guard.valid p.cells false||decide (s.guard.w≠1)then 60 else if ¬(zco (zbC p s.set) 0 s.set).1=0 then(zco (zbC p s.set) 0 s.set).1 else if zbG p t s then 0 else 70:=by rw[zaS,if_neg AU]
  have Bf:zdW p x.points s=false:=by simpa using AU
  simp only[zdW,Bool.or_eq_false_iff,Bool.and_eq_false_iff,Bool.not_eq_false',decide_eq_false_iff_not]at Bf;obtain⟨⟨⟨⟨⟨⟨b1,b2⟩,b3⟩,b4⟩,b5⟩,b6⟩,b7⟩:=Bf;rw[b3]at B8;rw[b4]at Cq;rw[b5]at C8
  have AL: ∀Q:Prop,(∀(c3 c6 c7 r tz:Bool),decide (s.kind=6)=c6->decide (s.kind=7)=c7->decide (s.kind=3)=c3->s.release=r->decide (s.target=0)=tz->
   ((c6=true/\r=false)\/(c6=false/\c7=true/\r=false)\/(c6=false/\c7=false/\tz=true/\r=false)\/(c6=false/\c7=false/\tz=true/\r=true/\c3=true))->Q)->Q:=fun Q q=>by
   refine q _ _ _ _ _ rfl rfl rfl rfl rfl ?_;simp only[decide_eq_true_eq,decide_eq_false_iff_not]
   by_cases h6:s.kind=6<;>by_cases h7:s.kind=7<;>by_cases h3:s.kind=3<;>cases hr:s.release<;>by_cases hz:s.target=0<;>simp_all
  refine AL _ (fun c3 c6 c7 r tz e6 e7 e3 er ez hc=> ?_);have C3:s.guard.valid p.cells false=true->s.guard.w=1->zaS p t x.points s=if ¬(zco (zbC p s.set) 0 s.set).1=0 then(zco (zbC p s.set) 0 s.set).1 else if zbG p t s then 0 else 70:=fun g1 g2=>by rw[Dx,if_neg (by simp[g1,g2])]
  have EP:(s.guard.valid p.cells false=false\/ ¬s.guard.w=1)->zaS p t x.points s=60:=fun g=>by rw[Dx,if_pos (by rcases g with g | g<;>simp[g])]
  have b1':1<=s.kind/\s.kind<=7:=by omega
  have e3':(decide ¬s.kind=3)= !c3:=by rw[<- e3];simp
  have ez':(decide ¬s.target=0)= !tz:=by rw[<- ez];simp
  rcases hc with⟨rfl,rfl⟩ | ⟨rfl,rfl,rfl⟩ | ⟨rfl,rfl,rfl,rfl⟩ | ⟨rfl,rfl,rfl,rfl,rfl⟩
  all_goals(try cases tz)
  all_goals(try cases c3)
  all_goals(try(exfalso;simp only[decide_eq_true_eq]at e3 e6 e7;omega))
  all_goals(
   (try simp only[Bool.not_true,Bool.not_false]at e3' ez')
   simp -dsimp [go_sem,ht,hx,Cj,B8,Cq,C8,b1,b2,e6,e7,e3',ez',er,hv]
   repeat'(refine zac (fun h=> ?_) (fun h=> ?_)<;>(try rw[h])<;>(try simp only[zah]at h)<;>(try simp -dsimp [go_sem,hv])))
  all_goals(try(rw[EP (.inl ‹_›)];done))
  all_goals(try(rw[EP (.inr ‹_›)];done))
  all_goals(
   have C3:=C3 ‹_› ‹_›;have M1:s.guard.valid p.cells false=true:=by assumption
   clear AL EP Dx hv B8 Cq C8 e3' ez' er e3;refine zaT 89202980794122492256657863269248377299144256 s.set.length (fun i f=>(f 9).v=vi i/\zco (zbC p s.set) 0 s.set=zco (zbC p s.set) i (s.set.drop i)) rfl rfl ⟨by simp -dsimp [go_sem],rfl⟩ ?_;rintro i f u kk bb hi ⟨h9,hm⟩;have hw:=zan i (by omega);simp -dsimp [go_sem,h9];refine zac (fun h=> ?_) (fun h=> ?_)<;>(try rw[h])<;>(try simp only[zah]at h)<;>(try simp -dsimp [go_sem,h9])
   ·obtain⟨a,ha,Cp⟩:=zai ‹i<s.set.length›;have B8:=zej a.cell p.cells.length
    have Ai: ∀k:Int,k≠0->zbC p s.set i a=k->zaS p t x.points s=k:=fun k hk h0=>by
     have h2:=hm.trans (zcC ha (by rw[h0];exact hk));rw[C3,h2,h0,if_pos hk]
    simp -dsimp [go_sem,h9,ha,B8];refine zac (fun h=> ?_) (fun h=> ?_)<;>(try rw[h])<;>(try simp only[zah]at h)<;>(try simp -dsimp [go_sem,h9])
    ·rw[Ai 70 (by decide) (by simp[zbC,h])]
    ·have I6:inR a.cell p.cells.length=true:=by assumption
     obtain⟨d0,y,hy⟩:=zch I6;refine zaT 1329065736508086659540415482270058560 i (fun k f'=>(f' 11).v=vi k/\(s.set.take k).any (fun b=>decide (b.cell=a.cell))=false) rfl rfl ⟨by simp -dsimp [go_sem],by simp⟩ ?_;rintro k f' u' kk' bb' hk ⟨h11,A9⟩;have Aw:=zan k (by omega);simp -dsimp [go_sem,h9,h11];refine zac (fun h=> ?_) (fun h=> ?_)<;>(try rw[h])<;>(try simp only[zah]at h)<;>(try simp -dsimp [go_sem,h9,h11])
     ·obtain⟨d,hd,JP⟩:=zai (show k<s.set.length by omega);simp -dsimp [go_sem,h9,h11,hd];refine zac (fun h=> ?_) (fun h=> ?_)<;>(try rw[h])<;>(try simp only[zah]at h)<;>(try simp -dsimp [go_sem,h9,h11])
      ·rw[Ai 70 (by decide) (by rw[zbC,if_pos (by rw[zcx hd ‹k<i› (by simpa using h)];simp)])]
      ·refine⟨by omega,by simp -dsimp [go_sem,Aw],?_⟩;rw[zda hd,A9];simpa using h
     ·have:k=i:=by omega
      subst this;have DT:=zfT a.to p.cells false;have Id:=zaZ (g:=fun x=>decide (a.to.w=x.w)) hy
      have DW:zbC p s.set k a=if !a.to.valid p.cells false || !zby p a.cell (fun x=>decide (a.to.w=x.w))then 60 else 0:=by
       rw[zbC,if_neg (by rw[I6,A9];simp)]
      rw[Id]at DW;simp -dsimp [go_sem,h9,ha,DT];refine zac (fun h=> ?_) (fun h=> ?_)<;>(try rw[h])<;>(try simp only[zah]at h)<;>(try simp -dsimp [go_sem,h9,ha,d0,hy])
      ·rw[Ai 60 (by decide) (by rw[DW];simp[h])]
      ·have Ke:a.to.valid p.cells false=true:=by assumption
       refine zac (fun h=> ?_) (fun h=> ?_)<;>(try rw[h])<;>(try simp only[zah]at h)<;>(try simp -dsimp [go_sem,h9,ha,d0,hy])
       ·rw[Ai 60 (by decide) (by rw[DW];simp[h])]
       ·refine⟨by omega,by simp -dsimp [go_sem,hw],?_⟩;rw[hm,zc6 ha (by rw[DW];simp[h,Ke])]
   ·have:i=s.set.length:=by omega
    subst this;rw[zel]at hm;rw[hm,if_neg (by simp)]at C3;have EL:=zsn p Ez t ht s Ac ⟨M1,zed (i:=0) (set:=s.set) (by rw[hm])⟩ b1';simp -dsimp [go_sem,EL];refine zac (fun h=> ?_) (fun h=> ?_)<;>(try rw[h])<;>(try simp only[zah]at h)<;>(try simp -dsimp [go_sem])
    ·rw[C3];simp[h]
    ·rw[C3];simp[h])
end Rg
end
section
-- FULL
namespace Rg
open Go
set_option maxHeartbeats 4000000 in
theorem znD (p:Prog) (hs:p.sane) (By:zce p=0) (t:Nat) (x:Thread) (hx:p.threads[t]? =some x) (K7:x.points<2^48):
 Den Γ G 88 [(zP p),vi t]=some (.tup [vi (zap p t x).1,vi (zap p t x).2]):=by
 (refine zag Γ88 rfl ?_;dsimp only[f88])
 have Ez:=zfL By;have C1:=zL hx;obtain⟨s1,s2,s3,s4,s5⟩:=hs.thr x C1;have hl:=zf1 x.name s1;have Mo:(0:Int)<=(t:Int):=by omega
 have Dd:t<p.threads.length:=(zH.1 hx).1;have BL:=hs.threads;have Dc:p.threads[(t:Int).toNat]? =some x:=by simpa using hx
 simp -dsimp [go_sem,Mo,hx,hl];refine zac (fun h=> ?_) (fun h=> ?_)<;>(try rw[h])<;>(try simp only[zah]at h)<;>(try simp -dsimp [go_sem])
 ·have:zap p t x=(1,-1):=by rw[zap,if_pos (by simp[h])]
  rw[this];simp
 ·have e1:zbA x.name=true:=by assumption
  refine zaT 274861129904 t (fun k f=>(f 7).v=vi k/\(p.threads.take k).any (fun d=>d.name.toList==x.name.toList)=false) rfl rfl ⟨by simp -dsimp [go_sem],by simp⟩ ?_;rintro k f u kk bb hk ⟨h7,A9⟩;have hw:=zan k (by omega);simp -dsimp [go_sem,h7];refine zac (fun h=> ?_) (fun h=> ?_)<;>(try rw[h])<;>(try simp only[zah]at h)<;>(try simp -dsimp [go_sem,h7])
  ·obtain⟨d,hd,JP⟩:=zai (show k<p.threads.length by omega);simp -dsimp [go_sem,h7,hd];refine zac (fun h=> ?_) (fun h=> ?_)<;>(try rw[h])<;>(try simp only[zah]at h)<;>(try simp -dsimp [go_sem,h7])
   ·have:zap p t x=(41,-1):=by rw[zap,if_neg (by simp[e1]),if_pos (zcx hd ‹k<t› (by simpa using h))]
    rw[this];simp
   ·refine⟨by omega,by simp -dsimp [go_sem,hw],?_⟩;rw[zda hd,A9];simpa using h
  ·have:k=t:=by omega
   subst this
   by_cases Fg:x.points<1\/ ¬(x.asserts.length:Int)=x.points\/ ¬(x.modules.length:Int)=x.points
   ·have:zap p k x=(1,-1):=by rw[zap,if_neg (by simp[e1]),if_neg (by simp[A9]),if_pos Fg]
    rw[this]
    repeat'(refine zac (fun h=> ?_) (fun h=> ?_)<;>(try rw[h])<;>(try simp only[zah]at h)<;>(try simp -dsimp [go_sem]))
    all_goals(exfalso;omega)
   ·have g1: ¬x.points<1:=by omega
    have g2:(x.asserts.length:Int)=x.points:=by omega
    have g3:(x.modules.length:Int)=x.points:=by omega
    have BG:zap p k x=if !x.modules.all (fun m=>inR m p.modules.length)then(1,-1)
     else if !x.asserts.all (fun e=>zaR p e false k)then(60,-1)
     else if ¬(zco (fun _ s=>zaS p k x.points s) 0 x.steps).1=0 then zco (fun _ s=>zaS p k x.points s) 0 x.steps
     else((zco (fun _ l=>zbp p k x.points l) 0 x.loops).1,-1):=by
     rw[zap,if_neg (by simp[e1]),if_neg (by simp[A9]),if_neg Fg]
    have g2':decide (¬(x.asserts.length:Int)=x.points)=false:=by simp[g2]
    have g3':decide (¬(x.modules.length:Int)=x.points)=false:=by simp[g3]
    simp -dsimp [go_sem,g1,g2',g3'];refine zaT 18889321816290504999216 x.modules.length (fun i f=>(f 8).v=vi i/\x.modules.all (fun m=>inR m p.modules.length)=(x.modules.drop i).all (fun m=>inR m p.modules.length)) rfl rfl ⟨by simp -dsimp [go_sem],rfl⟩ ?_;rintro i f u kk bb hi ⟨h8,Aa⟩;have hw:=zan i (by omega);simp -dsimp [go_sem,h8];refine zac (fun h=> ?_) (fun h=> ?_)<;>(try rw[h])<;>(try simp only[zah]at h)<;>(try simp -dsimp [go_sem,h8])
    ·obtain⟨m,hm,_⟩:=zai ‹i<x.modules.length›;have Aj:=zej m p.modules.length;simp -dsimp [go_sem,h8,hm,Aj];refine zac (fun h=> ?_) (fun h=> ?_)<;>(try rw[h])<;>(try simp only[zah]at h)<;>(try simp -dsimp [go_sem,h8])
     ·have:zap p k x=(1,-1):=by rw[BG,Aa,za6 hm h];simp
      rw[this];simp
     ·refine⟨by omega,by simp -dsimp [go_sem,hw],?_⟩;rw[Aa,za7 hm h]
    ·have:i=x.modules.length:=by omega
     subst this;rw[zbB]at Aa;rw[Aa]at BG;simp only[Bool.not_true,zG,if_false]at BG;clear Aa h8 hw;refine zaT 1237921149819448796318270000 x.asserts.length (fun i f=>(f 9).v=vi i/\x.asserts.all (fun e=>zaR p e false k)=(x.asserts.drop i).all (fun e=>zaR p e false k)) rfl rfl ⟨by simp -dsimp [go_sem],rfl⟩ ?_;rintro i f u kk bb hi ⟨h9,Aa⟩;have hw:=zan i (by omega);simp -dsimp [go_sem,h9];refine zac (fun h=> ?_) (fun h=> ?_)<;>(try rw[h])<;>(try simp only[zah]at h)<;>(try simp -dsimp [go_sem,h9])
     ·obtain⟨e,he,_⟩:=zai ‹i<x.asserts.length›;have FS:=zfU Ez e false k (by omega);simp -dsimp [go_sem,h9,he,FS];refine zac (fun h=> ?_) (fun h=> ?_)<;>(try rw[h])<;>(try simp only[zah]at h)<;>(try simp -dsimp [go_sem,h9])
      ·have:zap p k x=(60,-1):=by rw[BG,Aa,za6 he h];simp
       rw[this];simp
      ·refine⟨by omega,by simp -dsimp [go_sem,hw],?_⟩;rw[Aa,za7 he h]
     ·have:i=x.asserts.length:=by omega
      subst this;rw[zbB]at Aa;rw[Aa]at BG;simp only[Bool.not_true,zG,if_false]at BG;clear Aa h9 hw;refine zaT 649035869376814168186037142031408 x.steps.length (fun i f=>(f 10).v=vi i/\zco (fun _ s=>zaS p k x.points s) 0 x.steps=zco (fun _ s=>zaS p k x.points s) i (x.steps.drop i)) rfl rfl ⟨by simp -dsimp [go_sem],rfl⟩ ?_;rintro i f u kk bb hi ⟨h10,hm⟩;have hw:=zan i (by omega);simp -dsimp [go_sem,h10];refine zac (fun h=> ?_) (fun h=> ?_)<;>(try rw[h])<;>(try simp only[zah]at h)<;>(try simp -dsimp [go_sem,h10])
      ·obtain⟨s,DW,F3⟩:=zai ‹i<x.steps.length›;have AE:=zrr p Ez k Mo x Dc ⟨by omega,K7⟩ s (hs.sets x C1 s F3);simp -dsimp [go_sem,h10,DW,AE];refine zac (fun h=> ?_) (fun h=> ?_)<;>(try rw[h])<;>(try simp only[zah]at h)<;>(try simp -dsimp [go_sem,h10])
       ·have h2:=hm.trans (zcC DW (by simpa using h));have:zap p k x=(zaS p k x.points s,(i:Int)):=by rw[BG,h2,if_pos (by simpa using h)]
        rw[this];simp
       ·refine⟨by omega,by simp -dsimp [go_sem,hw],?_⟩;rw[hm,zc6 DW (by simpa using h)]
      ·have:i=x.steps.length:=by omega
       subst this;rw[zel]at hm;rw[hm,if_neg (by simp)]at BG;clear hm h10 hw;refine zaT 11972621413014756705275549042294937043455087350935600 x.loops.length (fun i f=>(f 12).v=vi i/\zco (fun _ l=>zbp p k x.points l) 0 x.loops=zco (fun _ l=>zbp p k x.points l) i (x.loops.drop i)) rfl rfl ⟨by simp -dsimp [go_sem],rfl⟩ ?_;rintro i f u kk bb hi ⟨h12,hm⟩;have hw:=zan i (by omega);simp -dsimp [go_sem,h12];refine zac (fun h=> ?_) (fun h=> ?_)<;>(try rw[h])<;>(try simp only[zah]at h)<;>(try simp -dsimp [go_sem,h12])
       ·obtain⟨l,Jy,Hy⟩:=zai ‹i<x.loops.length›;have D4:=hs.loops x C1 l Hy
        have Ai: ∀k':Int,k'≠0->zbp p k x.points l=k'->zap p k x=(k',-1):=fun k' Ah h0=>by
         have h2:=hm.trans (zcC (f:=fun _ l=>zbp p k x.points l) Jy (by rw[h0];exact Ah));rw[BG,h2,h0]
        have Aj:=zej l.head x.points;have Et:=zkr l.body (by omega);simp -dsimp [go_sem,h12,Jy,Aj];refine zac (fun h=> ?_) (fun h=> ?_)<;>(try rw[h])<;>(try simp only[zah]at h)<;>(try simp -dsimp [go_sem,h12,Et])
        ·rw[Ai 1 (by decide) (by simp[zbp,h])];simp
        ·have f1:inR l.head x.points=true:=by assumption
         refine zac (fun h=> ?_) (fun h=> ?_)<;>(try rw[h])<;>(try simp only[zah]at h)<;>(try simp -dsimp [go_sem,h12])
         ·rw[Ai 1 (by decide) (by simp[zbp,h])];simp
         ·have f2:zc0 l.body=true:=by assumption
          refine zaT 730750807776415717631811585530154072011383521328 l.body.length (fun j f'=>(f' 14).v=vi j/\l.body.all (fun q=>inR q x.points&&decide (q≠l.head))=(l.body.drop j).all (fun q=>inR q x.points&&decide (q≠l.head))) rfl rfl ⟨by simp -dsimp [go_sem],rfl⟩ ?_;rintro j f' u' kk' bb' hj ⟨C0,Aa⟩;have Aw:=zan j (by omega);simp -dsimp [go_sem,C0];refine zac (fun h=> ?_) (fun h=> ?_)<;>(try rw[h])<;>(try simp only[zah]at h)<;>(try simp -dsimp [go_sem,C0])
          ·obtain⟨q,hq,_⟩:=zai ‹j<l.body.length›;have NN:=zej q x.points;simp -dsimp [go_sem,C0,hq,NN]
           repeat'(refine zac (fun h=> ?_) (fun h=> ?_)<;>(try rw[h])<;>(try simp only[zah]at h)<;>(try simp -dsimp [go_sem,C0,hq]))
           all_goals first
            | (rw[Ai 1 (by decide) (by rw[zbp,if_pos (by rw[Aa,za6 hq (by simp_all)];simp)])];simp;done)
            | (refine⟨by omega,by simp -dsimp [go_sem,Aw],?_⟩
               rw[Aa,za7 hq (by simp_all)])
          ·have:j=l.body.length:=by omega
           subst this;rw[zbB]at Aa
           have A5:zbp p k x.points l=if !l.variant.valid p.cells false || !zbE p l.variant true k then 60 else 0:=by
            rw[zbp,if_neg (by rw[Aa,f1,f2];simp)]
           have hv:=zfT l.variant p.cells false;cases Bs:l.variant.valid p.cells false
           ·rw[Bs]at hv;simp -dsimp [go_sem,h12,hv];rw[Ai 60 (by decide) (by rw[A5];simp[Bs])];simp
           ·rw[Bs]at hv;have De:=zgW Ez (zfR Bs) true k (by omega) (.inl rfl);simp -dsimp [go_sem,h12,hv,De];refine zac (fun h=> ?_) (fun h=> ?_)<;>(try rw[h])<;>(try simp only[zah]at h)<;>(try simp -dsimp [go_sem,h12])
            ·rw[Ai 60 (by decide) (by rw[A5];simp[h])];simp
            ·refine⟨by omega,by simp -dsimp [go_sem,hw],?_⟩;rw[hm,zc6 Jy (by rw[A5];simp[h,Bs])]
       ·have:i=x.loops.length:=by omega
        subst this;rw[zel]at hm;rw[BG,hm];simp
end Rg
end
section
-- FULL
namespace Rg
open Go
theorem zal {p:Prog} (h:(zaV p).1=0):(p.cells.length<=32/\p.modules.length<=6/\p.locks.length<=4/\p.threads.length<=4)/\ ∀x∈p.threads,x.points<=48/\x.steps.length<=64/\x.loops.length<=8:=by
 unfold zaV at h;split at h
 ·simp at h
 ·rename_i hb;refine⟨by omega,?_⟩
  have key: ∀(l:List Thread) (i:Nat),(zco (fun _ x=>if zaP x then 2 else 0) i l).1=0-> ∀x∈l,zaP x=false:=by
   intro l
   induction l with
   | nil=>intro i _ c hc;simp at hc
   | cons x r ih=>
     intro i h c hc;rw[zco]at h;cases hb:zaP x
     ·rw[hb,if_pos (by simp)]at h;rcases List.mem_cons.1 hc with rfl | hc
      ·exact hb
      ·exact ih _ h c hc
     ·rw[hb,if_neg (by simp)]at h;simp at h
  intro x hx;have:=key _ 0 h x hx;simp only[zaP,Bool.or_eq_false_iff,decide_eq_false_iff_not]at this;omega
theorem zhk (p:Prog) (hs:p.sane):Den Γ G 65 [(zP p)]=some (.tup [vi (zbM p).1,vi (zbM p).2.1,vi (zbM p).2.2]):=by
 (refine zag Γ65 rfl ?_;dsimp only[f65])
 have h1:=zn3 p hs;simp -dsimp [go_sem,h1];refine zac (fun h=> ?_) (fun h=> ?_)<;>(try rw[h])<;>(try simp only[zah]at h)<;>(try simp -dsimp [go_sem])
 ·have h0: ¬(zaV p).1=0:=by simpa using h
  have:zbM p=((zaV p).1,(zaV p).2,-1):=by rw[zbM,if_pos h0]
  rw[this];simp
 ·have h0:(zaV p).1=0:=by simpa using h
  obtain⟨⟨l1,l2,l3,l4⟩,l5⟩:=zal h0
  have AX:zbM p=if ¬zce p=0 then(zce p,-1,-1)else if ¬zbm p=0 then(zbm p,-1,-1)else if ¬zcT p=0 then(zcT p,-1,-1)else zep p 0 p.threads:=by
   rw[zbM,if_neg (by simpa using h0)]
  have c1:=zqS p hs;refine zaD ?_;simp -dsimp [go_sem,c1];refine zac (fun h=> ?_) (fun h=> ?_)<;>(try rw[h])<;>(try simp only[zah]at h)<;>(try simp -dsimp [go_sem])
  ·have:zbM p=(zce p,-1,-1):=by rw[AX,if_pos (by simpa using h)]
   rw[this];simp
  ·have h2:zce p=0:=by simpa using h
   have c2:=zmP p hs h2;have c3:=zqs p hs h2;rw[if_neg (by simpa using h2)]at AX;refine zaD ?_;simp -dsimp [go_sem,c2];refine zac (fun h=> ?_) (fun h=> ?_)<;>(try rw[h])<;>(try simp only[zah]at h)<;>(try simp -dsimp [go_sem])
   ·have:zbM p=(zbm p,-1,-1):=by rw[AX,if_pos (by simpa using h)]
    rw[this];simp
   ·have h3:zbm p=0:=by simpa using h
    rw[if_neg (by simpa using h3)]at AX;refine zaD ?_;simp -dsimp [go_sem,c3];refine zac (fun h=> ?_) (fun h=> ?_)<;>(try rw[h])<;>(try simp only[zah]at h)<;>(try simp -dsimp [go_sem])
    ·have:zbM p=(zcT p,-1,-1):=by rw[AX,if_pos (by simpa using h)]
     rw[this];simp
    ·have h4:zcT p=0:=by simpa using h
     rw[if_neg (by simpa using h4)]at AX;refine zaD ?_;simp -dsimp [go_sem];refine zaT 288229276640085788 p.threads.length (fun i f=>(f 8).v=vi i/\zbM p=zep p i (p.threads.drop i)) rfl rfl ⟨by simp -dsimp [go_sem],AX⟩ ?_;rintro i f u kk bb hi ⟨h8,hm⟩;have hw:=zan i (by omega);simp -dsimp [go_sem,h8];refine zac (fun h=> ?_) (fun h=> ?_)<;>(try rw[h])<;>(try simp only[zah]at h)<;>(try simp -dsimp [go_sem,h8])
     ·obtain⟨x,hx,C1⟩:=zai ‹i<p.threads.length›;have BG:=znD p hs h2 i x hx (by have:=(l5 x C1).1;omega);simp -dsimp [go_sem,h8,BG];refine zac (fun h=> ?_) (fun h=> ?_)<;>(try rw[h])<;>(try simp only[zah]at h)<;>(try simp -dsimp [go_sem,h8])
      ·rw[hm,zoJ hx (by simpa using h)];simp
      ·refine⟨by omega,by simp -dsimp [go_sem,hw],?_⟩;rw[hm,zoK hx (by simpa using h)]
     ·have:i=p.threads.length:=by omega
      subst this;rw[hm,zrl];simp
end Rg
end
section
namespace Rg
open Go
def zjR (l:List ByteArray):List (T×V):=l.map fun b=>(T.str b,V.agg [])
def ztX (l:List Int):List (T×V):=l.map fun b=>(ti b,V.agg [])
theorem zjF (a b:ByteArray):(a==b)=(a.toList==b.toList):=by
 rw[ByteArray.toList_eq,ByteArray.toList_eq];show(a.data==b.data)=_;rw[Array.beq_toList]
@[go_sem]theorem zBI (b:ByteArray):zj1 2 (.t (.str b))=some (.str b):=rfl
@[go_sem]theorem zBJ (k:IntKind) (n:Int):zj1 0 (.t (.int k n))=some (.int k n):=rfl
theorem zyM (b:ByteArray): ∀l:List ByteArray,zbo (.str b) (zjR l)=some (if l.any (fun c=>c.toList==b.toList)then some (.agg [])else none)
 | []=>rfl
 | c::l=>by
   rw[zjR,List.map_cons,zbo,zeu,zjF];rw[show(b.toList==c.toList)=(c.toList==b.toList)from Bool.beq_comm];cases h:(c.toList==b.toList)
   ·simp only[];rw[show(l.map fun b=>(T.str b,V.agg []))=zjR l from rfl,zyM b l,List.any_cons,h,Bool.false_or]
   ·simp[h]
theorem zCE (b:ByteArray): ∀l:List ByteArray,l.any (fun c=>c.toList==b.toList)=false->zbF (.str b) (.agg []) (zjR l)=some (zjR (l++[b]))
 | [],_=>rfl
 | c::l,h=>by
   rw[List.any_cons,Bool.or_eq_false_iff]at h;rw[zjR,List.map_cons,zbF,zeu,zjF,show(b.toList==c.toList)=(c.toList==b.toList)from Bool.beq_comm,h.1];simp only[];rw[show(l.map fun b=>(T.str b,V.agg []))=zjR l from rfl,zCE b l h.2];rfl
theorem zyn (b:ByteArray): ∀l:List ByteArray,∃es,zbF (.str b) (.agg []) (zjR l)=some es
 | []=>⟨_,rfl⟩
 | c::l=>by
   rw[zjR,List.map_cons,zbF,zeu];cases h:(b==c)
   ·simp only[];rw[show(l.map fun b=>(T.str b,V.agg []))=zjR l from rfl];obtain⟨es,he⟩:=zyn b l;exact⟨_,by rw[he];rfl⟩
   ·exact⟨_,rfl⟩
theorem zw1 (b:Int): ∀l:List Int,zbo (ti b) (ztX l)=some (if l.any (fun c=>decide (c=b))then some (.agg [])else none)
 | []=>rfl
 | c::l=>by
   rw[ztX,List.map_cons,zbo,zeu,if_pos rfl]
   by_cases h:c=b
   ·subst h;simp
   ·have e:(b==c)=false:=by simpa using fun h'=>h h'.symm
    rw[e];simp only[];rw[show(l.map fun b=>(ti b,V.agg []))=ztX l from rfl,zw1 b l,List.any_cons];simp[h]
theorem zBs (b:Int): ∀l:List Int,l.any (fun c=>decide (c=b))=false->zbF (ti b) (.agg []) (ztX l)=some (ztX (l++[b]))
 | [],_=>rfl
 | c::l,h=>by
   rw[List.any_cons,Bool.or_eq_false_iff]at h;have e:(b==c)=false:=by simpa using fun h'=>(by simpa using h.1: ¬c=b) h'.symm
   rw[ztX,List.map_cons,zbF,zeu,if_pos rfl,e];simp only[];rw[show(l.map fun b=>(ti b,V.agg []))=ztX l from rfl,zBs b l h.2];rfl
theorem zkb (k:Nat) (b:ByteArray) (l:List ByteArray) (H:Nat->Option O) (n:Nat) (hk:H k=some (.map (zjR l))):
 ∃r h' n',DenR Γ G 97 [.mm k,.t (.str b)] H n=some (r,h',n')/\(n<=n'/\r=vb (l.any (fun c=>c.toList==b.toList)))/\
  ∃es,h'=updC H k (some (.map es))/\(l.any (fun c=>c.toList==b.toList)=false->es=zjR (l++[b])):=by
 (refine zay Γ97 rfl ?_;dsimp only[f97])
 have h1:=zyM b l;cases ha:l.any (fun c=>c.toList==b.toList)
 ·rw[ha]at h1;have h2:=zCE b l ha;simp -dsimp only[go_sem,seval,hk,h1,h2,Option.getD_none,Option.getD_some,Option.isSome_none,zG,if_true,if_false];refine⟨⟨by simp -dsimp only[go_sem,seval];omega,by simp -dsimp only[go_sem,seval]⟩,_,by simp -dsimp only[go_sem,seval],fun _=>rfl⟩
 ·rw[ha]at h1;obtain⟨es,h2⟩:=zyn b l;simp -dsimp only[go_sem,seval,hk,h1,h2,Option.getD_none,Option.getD_some,Option.isSome_none,zG,if_true,if_false];refine⟨⟨by simp -dsimp only[go_sem,seval];omega,by simp -dsimp only[go_sem,seval]⟩,es,by simp -dsimp only[go_sem,seval],fun h=>by simp at h⟩
theorem zmg (k:Nat) (b:ByteArray) (l:List ByteArray) (H:Nat->Option O) (n:Nat) (hk:H k=some (.map (zjR l))):
 ∃r h' n',DenR Γ G 97 [.mm k,.t (.str b)] H n=some (r,h',n')/\r=vb (l.any (fun c=>c.toList==b.toList))/\(l.any (fun c=>c.toList==b.toList)=false->h' k=some (.map (zjR (l++[b])))):=by
 obtain⟨r,h',n',hd,⟨_,hr⟩,es,rfl,he⟩:=zkb k b l H n hk;exact⟨r,_,n',hd,hr,fun h=>by rw[he h,zaa,if_pos rfl]⟩
theorem zaF.toT1 {h:Nat->Option O} {x:Nat} {v:V} {l:List Int} (o:zaF h x v 1 (zae l)):Rg.toT1 h v=some (.t (ints l)):=by
 have:=zcc o (zbP _);rcases o with⟨rfl,he⟩ | ⟨k,rfl,_,_⟩
 ·have:l=[]:=by simpa[zae]using he
  subst this;rfl
 ·simp only[Rg.toT1,this,Option.map_some]
theorem zft (e:Expr) (F:T) (P:Int->Bool) (hP:IsF F P):Den Γ G 108 [(.agg [.t (ti (e).op),.t (ti (e).w),.t (ti (e).n),.t (.sl ((e).kids.map (Expr.enc)))]),.t F]=some (vb ((e.sup 3).all P&&(e.sup 2).all P)):=by
 (refine zag Γ108 rfl ?_;dsimp only[f108])
 have hn:=hP.1;simp only[T.norm]at hn;have l3:=zfp 3 e;have l2:=zfp 2 e;have h2:=zeC F P hP (e.sup 3) (by omega);have h3:=zeC F P hP (e.sup 2) (by omega);simp -dsimp only[go_sem,seval];refine zas (zfo e _ _) ?_;rintro r h' n' ⟨v3,v2,rfl,o3,o2,_,_⟩;have x3:=o3.valOf;have x2:=o2.valOf;have y3:=o3.toT1;have y2:=o2.toT1;simp only[Rg.toT1]at y3 y2;cases ha:(e.sup 3).all P
 ·rw[ha]at h2;simp -dsimp only[go_sem,seval,h2,hn,x3,x2,y3,y2];simp
 ·rw[ha]at h2;simp -dsimp only[go_sem,seval,h2,h3,hn,x3,x2,y3,y2,Bool.true_and]
theorem zpS (p:Prog) (e:Expr) (pair:Bool) (F:T) (P:Int->Bool) (hP:IsF F P):Den Γ G 99 [(zP p),(.agg [.t (ti (e).op),.t (ti (e).w),.t (ti (e).n),.t (.sl ((e).kids.map (Expr.enc)))]),vb pair,.t F]=
 some (vb (e.valid p.cells pair&&decide (e.w=1)&&((e.sup 3).all P&&(e.sup 2).all P))):=by
 (refine zag Γ99 rfl ?_;dsimp only[f99])
 have hn:=hP.1;simp only[T.norm]at hn;have h1:=zfS e p.cells pair;have h2:=zft e F P hP
 by_cases hw:e.w=1
 ·cases hv:e.valid p.cells pair
  ·rw[hv]at h1;simp -dsimp only[go_sem,seval,hw];rw[hw]at h1;simp -dsimp only[go_sem,seval,h1];simp
  ·rw[hv]at h1;rw[hw]at h1 h2;simp -dsimp only[go_sem,seval,hw,h1,h2,hn,Bool.true_and,Bool.and_true]
 ·simp -dsimp only[go_sem,seval,hw];simp
theorem zn4 (p:Prog) (hs:p.sane):Den Γ G 79 [(zP p)]=some (.tup [vi (zaV p).1,vi (zaV p).2]):=by
 (refine zag Γ79 rfl ?_;dsimp only[f79])
 simp -dsimp only[go_sem,seval]
 by_cases CH:(p.cells.length:Int)>32\/(p.modules.length:Int)>6\/(p.locks.length:Int)>4\/(p.threads.length:Int)>4
 ·have hm:zaV p=(2,-1):=by rw[zaV,if_pos CH]
  rw[hm]
  repeat'(refine zac (fun h=> ?_) (fun h=> ?_)<;>(try rw[h])<;>(try simp only[zah]at h)<;>(try simp -dsimp only[go_sem,seval]))
  all_goals omega
 ·have hm:zaV p=zco (fun _ x=>if zaP x then 2 else 0) 0 p.threads:=by rw[zaV,if_neg CH]
  have g1: ¬(p.cells.length:Int)>32:=by omega
  have g2: ¬(p.modules.length:Int)>6:=by omega
  have g3: ¬(p.locks.length:Int)>4:=by omega
  have g4: ¬(p.threads.length:Int)>4:=by omega
  simp -dsimp only[go_sem,seval,g1,g2,g3,g4];refine zaT 72057576858058860 p.threads.length (fun i f=>(f 34).v=vi i/\zaV p=zco (fun _ x=>if zaP x then 2 else 0) i (p.threads.drop i)) rfl rfl ⟨by simp -dsimp only[go_sem,seval],hm⟩ ?_;clear hm;rintro i f u kk bb hi ⟨h4,hm⟩;have hw:=zan i (by omega);simp -dsimp only[go_sem,seval,h4];refine zac (fun h=> ?_) (fun h=> ?_)<;>(try rw[h])<;>(try simp only[zah]at h)<;>(try simp -dsimp only[go_sem,seval,h4])
  ·obtain⟨x,hx,_⟩:=zai ‹i<p.threads.length›;have AU:zaP x=true->zaV p=(2,(i:Int)):=fun h0=>by rw[hm,zcC hx (by simp[h0])];simp[h0]
   simp -dsimp only[go_sem,seval,h4,hx]
   repeat'(refine zac (fun h=> ?_) (fun h=> ?_)<;>(try rw[h])<;>(try simp only[zah]at h)<;>(try simp -dsimp only[go_sem,seval,h4]))
   ·rw[AU (by simp[zaP, *])];simp
   ·rw[AU (by simp[zaP, *])];simp
   ·rw[AU (by simp[zaP, *])];simp
   ·refine⟨by omega,by simp -dsimp only[go_sem,seval,hw],?_⟩;rw[hm,zc6 hx (by simp[zaP, *])]
  ·have:i=p.threads.length:=by omega
   subst this;rw[hm,zel];simp
theorem ziH {w:Int} (h:0<=w/\w<=62):IntKind.i64.wrap (1*2^min w.toNat 64)=2^w.toNat:=by
 have:min w.toNat 64=w.toNat:=Nat.min_eq_left (by omega);rw[this,Int.one_mul];have h2:(2:Int)^w.toNat<=2^62:=zes (by omega);have h3:=zcn w.toNat;exact zaH (by omega)
theorem zvD {w:Int} (h:0<=w/\w<=62):IntKind.u64.wrap w=w:=by
 have h1:IntKind.u64.wrap w=w % 2^64:=by simp[IntKind.wrap,IntKind.signed,IntKind.bits]
 rw[h1];omega
theorem zqT (p:Prog) (hs:p.sane):Den Γ G 80 [(zP p)]=some (vi (zce p)):=by
 (refine zag Γ80 rfl ?_;dsimp only[f80])
 simp -dsimp only[go_sem,seval];have He:=hs.cells;refine zaq 4611686018427385892 p.cells.length (fun i f h x=>(f 11).v=vi i/\h 2=some (.map (zjR ((p.cells.take i).map Cell.name)))/\zce p=(zco (zci p) i (p.cells.drop i)).1) rfl ⟨by simp -dsimp only[go_sem,seval],by simp -dsimp only[go_sem,seval];rfl,rfl⟩ ?_;rintro i f u hh x bs hi ⟨h11,Bk,hm⟩;have hw:=zan i (by omega);simp -dsimp only[go_sem,seval,h11];refine zac (fun h=> ?_) (fun h=> ?_)<;>(try rw[h])<;>(try simp only[zah]at h)<;>(try simp -dsimp only[go_sem,seval,h11])
 ·obtain⟨c,hc,BI⟩:=zai ‹i<p.cells.length›;have hl:=zf2 c.name;have Cx:=zbR c.init (2^c.w.toNat);have BM:=zbR c.thread p.threads.length;have H9:=zbR c.module p.modules.length
  have AU:zcj p c=true->zce p=1:=fun h0=>by
   have:zci p i c=1:=by simp[zci,h0]
   rw[hm,zcC hc (by simp[this])];exact this
  by_cases hb:zcj p c=true
  ·rw[AU hb]
   by_cases PG:1<=c.w/\c.w<=8
   ·have s1:=ziH (w:=c.w) (by omega);have s2:=zvD (w:=c.w) (by omega);have s3: ¬c.w<0:=by omega
    simp -dsimp only[go_sem,seval,h11,hc,hl]
    repeat'(refine zac (fun h=> ?_) (fun h=> ?_)<;>(try rw[h])<;>(try simp only[zah]at h)<;>(try simp -dsimp only[go_sem,seval,h11,Cx,BM,H9,s1,s2,s3]))
    all_goals(exfalso;simp only[zcj,inR,Bool.or_eq_true,Bool.not_eq_true',decide_eq_true_eq,decide_eq_false_iff_not]at *;simp_all;(try omega);done)
   ·have s3:c.w<1\/c.w>8:=by omega
    simp -dsimp only[go_sem,seval,h11,hc,hl];refine zac (fun h=> ?_) (fun h=> ?_)<;>(try rw[h])<;>(try simp only[zah]at h)<;>(try simp -dsimp only[go_sem,seval,h11])
    refine zac (fun h=> ?_) (fun h=> ?_)<;>(try rw[h])<;>(try simp only[zah]at h)<;>(try simp -dsimp only[go_sem,seval,h11])
    refine zac (fun h=> ?_) (fun h=> ?_)<;>(try rw[h])<;>(try simp only[zah]at h)<;>(try simp -dsimp only[go_sem,seval,h11])
    all_goals(exfalso;omega)
  ·have Bf:zcj p c=false:=by simpa using hb
   obtain⟨b1,b2,b3,b4,b5,b6,b7,b8⟩:=zfc Bf;have s1:=ziH (w:=c.w) (by omega);have s2:=zvD (w:=c.w) (by omega);have s3: ¬c.w<0:=by omega
   have s4: ¬c.w<1:=by omega
   have s5: ¬c.w>8:=by omega
   have e1:inR c.init (2^c.w.toNat)=true:=by simp[inR];omega
   rw[b1]at hl;rw[e1]at Cx;rw[b8]at H9;have Ct:=fun n=>zmg 2 c.name ((p.cells.take i).map Cell.name) hh n Bk
   have A9:((p.cells.take i).map Cell.name).any (fun d=>d.toList==c.name.toList)=(p.cells.take i).any (fun d=>d.name.toList==c.name.toList):=by rw[List.any_map];rfl
   have AL: ∀Q:Prop,(c.thread= -1->Q)->(¬c.thread= -1->inR c.thread p.threads.length=true->Q)->Q:=fun Q q1 q2=>by
    by_cases h:c.thread= -1
    ·exact q1 h
    ·exact q2 h (by simp[inR];omega)
   refine AL _ (fun t1=> ?_) (fun t1 t2=> ?_)
   all_goals(
    (try rw[t2]at BM)
    simp -dsimp only[go_sem,seval,h11,hc,hl,Cx,BM,H9,s1,s2,s3,s4,s5,t1];refine zas (Ct _) ?_;rintro r h' n' ⟨rfl,Ah⟩;rw[A9]at Ah;simp -dsimp only[go_sem,seval,h11,A9];refine zac (fun h=> ?_) (fun h=> ?_)<;>(try rw[h])<;>(try simp only[zah]at h)<;>(try simp -dsimp only[go_sem,seval,h11])
    ·have:zci p i c=41:=by rw[zci,if_neg hb,if_pos h]
     rw[hm,zcC hc (by simp[this])];exact this.symm
    ·refine⟨by omega,by simp -dsimp only[go_sem,seval,hw],?_,?_⟩
     ·have AF:=Ah h;simp -dsimp only[go_sem,seval,AF];rw[zaf hc];simp
     ·rw[hm,zc6 hc (by rw[zci,if_neg hb,if_neg (by simp[h])])])
 ·have:i=p.cells.length:=by omega
  subst this;rw[hm,zel]
end Rg
end
