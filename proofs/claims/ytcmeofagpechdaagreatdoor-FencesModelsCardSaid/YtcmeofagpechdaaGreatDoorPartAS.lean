/- Part of the proof of laws of relyguardlaw31. No condition. -/
import Derived.Test.YtcmeofagpechdaaGreatDoorPartAR
set_option linter.unusedSimpArgs false
set_option linter.unusedVariables false
section
namespace Rg
open Go
theorem zec (zs:List Int) (hs:zs.Pairwise (· <= ·)) (m:Nat) (hm:m<=zs.length):(Go.Lib.compactUpTo zs.toArray m).Pairwise (· < ·):=by
 have hget: ∀i j:Nat,i<=j->j<zs.length->zs.toArray[i]! <=zs.toArray[j]! :=by
  intro i j hij hj;rw[getElem!_pos zs.toArray i (by simp;omega),getElem!_pos zs.toArray j (by simp;omega)];simp only[List.getElem_toArray];rcases Nat.lt_or_eq_of_le hij with h | h
  ·exact List.pairwise_iff_getElem.1 hs i j (by omega) hj h
  ·subst h;exact Int.le_refl _
 unfold Go.Lib.compactUpTo;rw[List.pairwise_map];have h0:=(List.pairwise_lt_range (n:=m)).filter (Go.Lib.keeps zs.toArray);refine h0.imp_of_mem ?_;intro a b ha hb hab;have hb1:=List.mem_range.1 (List.mem_filter.1 hb).1;have hk:=(List.mem_filter.1 hb).2;have h1:=hget a (b-1) (by omega) (by omega);have h2:=hget (b-1) b (by omega) (by omega);simp only[Go.Lib.keeps,Bool.or_eq_true,decide_eq_true_eq,bne_iff_ne,ne_eq]at hk;rcases hk with hk | hk
 ·omega
 ·omega
theorem sortedM_sorted (l:List Int):(sortedM l).Pairwise (· < ·):=by
 unfold sortedM Go.Lib.compact;refine zec _ ?_ _ (Nat.le_refl _);have:=List.pairwise_mergeSort (le:=fun x y:Int=>decide (x<=y)) (by intro a b c h1 h2;simp at *;omega) (by intro a b;simp;omega) l;exact this.imp (by intro a b h;simpa using h)
end Rg
end
section
namespace Rg
open Go
structure Like (p q:Prog):Prop where
 cells:p.cells=q.cells
 mods:p.modules.length=q.modules.length
 thr:p.threads.length=q.threads.length
 asl: ∀t,zbS p t=zbS q t
variable {p q:Prog}
end Rg
end
section
namespace Rg
open Go
theorem zcz {p:Prog} {t c:Int}:ofThread p t c=true<->0<=c/\ ∃x,p.cells[c.toNat]? =some x/\x.thread=t:=by
 unfold ofThread
 cases h:p.cells[c.toNat]? with
 | none=>simp
 | some x=>simp
structure KindFacts (p:Prog) (t:Int) (s:Step):Prop where
 r: ∀c∈readsM s,sees p t c=true
 w: ∀c∈writesM s,sees p t c=true
 k1:s.kind=1->(∀c∈readsM s,ofThread p t c=true)/\ ∀c∈writesM s,ofThread p t c=true
 k2:s.kind=2->(∃n∈readsM s,ofThread p (-1) n=true/\ ∀c∈readsM s,ofThread p (-1) c=true->ofThread p t c=false->c=n)/\(∀c∈writesM s,ofThread p t c=true)/\writesM s≠[]
 k3:s.kind=3->(∀c∈readsM s,ofThread p t c=true)/\ ∃n∈writesM s,ofThread p (-1) n=true/\zaJ p n Cell.ghost=false/\ ∀c∈writesM s,zaJ p c Cell.ghost=false->c=n
 k5:4<s.kind->readsM s=[]/\writesM s=[]
end Rg
end
section
set_option maxRecDepth 100000
namespace Rg
open Go
def exE:Expr:=.mk 1 1 1 []
def exP (nm:ByteArray) (fr:Int) (to as1:Expr):Prog:=
 ⟨[⟨nm,2,0,-1,false,0⟩,⟨bs [114],2,0,0,false,0⟩],
  [⟨bs [77],bs [65,110,110],.mk 0 0 0 [],exE,[0]⟩],[],
  [⟨bs [116],2,[exE,as1],[0,0],[⟨2,fr,1,exE,[⟨1,to⟩],false,0,0⟩],[],false⟩]⟩
def zpO (e:Expr):List V:=[.t (ti e.op),.t (ti e.w),.t (ti e.n),.t (.sl (e.kids.map Expr.enc))]
structure Ex7 (z:Nat->Bool) (h:Nat->Option O) (a:Nat) (nm:ByteArray) (fr:Int) (to as1:Expr):Prop where
 k7:h (a+7)=some (.rows 5 [.t (ti 1)::zpO to] (z 0))
 k13:h (a+13)=some (.rows 6 [[.t (.str nm),.t (ti 2),.t (ti 0),.t (ti (-1)),.t (tb false),.t (ti 0)],[.t (.str (bs [114])),.t (ti 2),.t (ti 0),.t (ti 0),.t (tb false),.t (ti 0)]] (z 1))
 k15:h (a+15)=some (.rows 1 [[.t (ti 0)]] (z 2))
 k17:h (a+17)=some (.rows 11 [[.t (.str (bs [77])),.t (.str (bs [65,110,110])),.t (ti 0),.t (ti 0),.t (ti 0),.t .nils,.t (ti 1),.t (ti 1),.t (ti 1),.t (.sl []),.ms (a+15) 0 1]] (z 3))
 k20:h (a+20)=some (.rows 4 [zpO exE,zpO as1] (z 4))
 k21:h (a+21)=some (.rows 1 [[.t (ti 0)],[.t (ti 0)]] (z 5))
 k23:h (a+23)=some (.rows 11 [[.t (ti 2),.t (ti fr),.t (ti 1),.t (ti 1),.t (ti 1),.t (ti 1),.t (.sl []),.ms (a+7) 0 1,.t (tb false),.t (ti 0),.t (ti 0)]] (z 6))
 k25:h (a+25)=some (.rows 7 [[.t (.str (bs [116])),.t (ti 2),.ms (a+20) 0 2,.ms (a+21) 0 2,.ms (a+23) 0 1,.t .nils,.t (tb false)]] (z 7))
theorem zc4 {h:Nat->Option O} {k i len d sz:Nat} {rs r:List (List V)} {fz:Bool} {es:List (List T)} (hk:h k=some (.rows sz rs fz)) (hr:rd rs i len=some r) (he:r.mapM (fun row=>row.mapM (toT h d))=some es):
 toT h (d+1) (.ms k i len)=some (.sl es):=by
 simp[toT,hk,hr,he]
theorem zfX (h:Nat->Option O) (d:Nat) (x:T):toT h d (.t x)=some x.norm:=by cases d<;>rfl
section
variable {z:Nat->Bool} {h:Nat->Option O} {a:Nat} {nm:ByteArray} {fr:Int} {to as1:Expr}
theorem Ex7.stree (hx:Ex7 z h a nm fr to as1) (d:Nat):toT h (d+1) (.ms (a+7) 0 1)=some (.sl [Assign.enc ⟨1,to⟩]):=by
 refine zc4 hx.k7 (by rfl) ?_;simp[zfX,zpO,Assign.enc,Expr.enc_eq,T.norm]
theorem Ex7.tree (hx:Ex7 z h a nm fr to as1):
 toT1 h (V.agg [.ms (a+13) 0 2,.ms (a+17) 0 1,.t .nils,.ms (a+25) 0 1])=some (.agg [.t (.sl ((exP nm fr to as1).cells.map (Cell.enc))),.t (.sl ((exP nm fr to as1).modules.map (Contract.enc))),.t (.sl ((exP nm fr to as1).locks.map (Lock.enc))),.t (.sl ((exP nm fr to as1).threads.map (Thread.enc)))]):=by
 have e13:toT h 1000 (.ms (a+13) 0 2)=some (.sl ((exP nm fr to as1).cells.map Cell.enc)):=by
  refine zc4 hx.k13 (by rfl) ?_;simp[zfX,exP,Cell.enc,T.norm]
 have e15:toT h 999 (.ms (a+15) 0 1)=some (ints [0]):=by
  refine zc4 hx.k15 (by rfl) ?_;simp[zfX,T.norm]
 have e17:toT h 1000 (.ms (a+17) 0 1)=some (.sl ((exP nm fr to as1).modules.map Contract.enc)):=by
  refine zc4 hx.k17 (by rfl) ?_;simp[zfX,e15,exP,Contract.enc,Expr.enc_eq,T.norm,exE,Expr.op,Expr.w,Expr.n,Expr.kids]
 have e20:toT h 999 (.ms (a+20) 0 2)=some (.sl ([exE,as1].map Expr.enc)):=by
  refine zc4 hx.k20 (by rfl) ?_;simp[zfX,zpO,Expr.enc_eq,T.norm]
 have e21:toT h 999 (.ms (a+21) 0 2)=some (ints [0,0]):=by
  refine zc4 hx.k21 (by rfl) ?_;simp[zfX,T.norm]
 have e7:=hx.stree 997
 have e23:toT h 999 (.ms (a+23) 0 1)=some (.sl ([⟨2,fr,1,exE,[⟨1,to⟩],false,0,0⟩].map Step.enc)):=by
  refine zc4 hx.k23 (by rfl) ?_;simp[zfX,e7,Step.enc,exE,Expr.enc_eq,T.norm,Expr.op,Expr.w,Expr.n,Expr.kids]
 have e25:toT h 1000 (.ms (a+25) 0 1)=some (.sl ((exP nm fr to as1).threads.map Thread.enc)):=by
  refine zc4 hx.k25 (by rfl) ?_;simp[zfX,e20,e21,e23,exP,Thread.enc,T.norm]
 simp[toT1,e13,e17,e25,zfX,T.norm,exP]
theorem zbP {h:Nat->Option O} {k sz:Nat} {rs:List (List V)} {z:Bool} (hk:h k=some (.rows sz rs z)) (l:List Nat): ∃z',hpC h (freezes h l) k=some (.rows sz rs z'):=by
 suffices hs: ∀(l:List Nat) (g:Nat->Option O) (y:Bool),g k=some (.rows sz rs y)-> ∃z',hpC g (freezes h l) k=some (.rows sz rs z')from hs l h z hk
 intro l
 induction l with
 | nil=>intro g y hg;exact⟨y,by simp only[freezes,List.filterMap_nil,zaq];exact hg⟩
 | cons q r ih=>
   intro g y hg;unfold freezes at ih⊢;rw[List.filterMap_cons];split
   ·exact ih g y hg
   ·rename_i b hb;split at hb
    ·rename_i s1 r1 y1 hq;cases hb;rw[zau]
     by_cases hkq:k=q
     ·subst hkq;rw[hk]at hq;cases hq;exact ih _ true (by rw[zac,if_pos rfl])
     ·exact ih _ y (by rw[zac,if_neg hkq];exact hg)
    ·cases hb
theorem Ex7.frz (hx: ∃z,Ex7 z h a nm fr to as1) (l:List Nat): ∃z,Ex7 z (hpC h (freezes h l)) a nm fr to as1:=by
 obtain⟨z,hx⟩:=hx;obtain⟨z0,f0⟩:=zbP hx.k7 l;obtain⟨z1,f1⟩:=zbP hx.k13 l;obtain⟨z2,f2⟩:=zbP hx.k15 l;obtain⟨z3,f3⟩:=zbP hx.k17 l;obtain⟨z4,f4⟩:=zbP hx.k20 l;obtain⟨z5,f5⟩:=zbP hx.k21 l;obtain⟨z6,f6⟩:=zbP hx.k23 l;obtain⟨z7,f7⟩:=zbP hx.k25 l;exact⟨fun i=>[z0,z1,z2,z3,z4,z5,z6,z7].getD i false,f0,f1,f2,f3,f4,f5,f6,f7⟩
theorem Ex7.upd (hx: ∃z,Ex7 z h a nm fr to as1) {k:Nat} (hk:a+26<=k) (o:Option O): ∃z,Ex7 z (updC h k o) a nm fr to as1:=by
 obtain⟨z,hx⟩:=hx;exact⟨z,by constructor<;>(rw[zac,if_neg (by omega)])<;>first | exact hx.k7 | exact hx.k13 | exact hx.k15 | exact hx.k17 | exact hx.k20 | exact hx.k21 | exact hx.k23 | exact hx.k25⟩
end
def frzK (h:Nat->Option O) (vs:List V) (r:V) (K:V->(Nat->Option O)->Prop):Prop:=K r (hpC h (freezes h (vs.flatMap (reach1 h))))
theorem znn (a:List T) (l:List (List T)) (h:Nat->Option O) (vs:List V) (K:V->(Nat->Option O)->Prop) (w:WK K):zid (some (.t (.sl (a::l)))) false h vs K w=frzK h vs (.t (.sl (a::l))) K:=by
 simp[zid,frzK,V.scalar,V.scalar2,V.scalar1,T.scalar]
theorem zjB {h:Nat->Option O} {vs:List V} {r:V} {K:V->(Nat->Option O)->Prop} {a:Nat} {nm:ByteArray} {fr:Int} {to as1:Expr} (hx: ∃z,Ex7 z h a nm fr to as1)
 (hk: ∀H,(∃z,Ex7 z H a nm fr to as1)->K r H):frzK h vs r K:=hk _ (Ex7.frz hx _)
def X7 (H:Nat->Option O):Prop:= ∃z,Ex7 z H 4 (bs [120]) 0 (.mk 2 2 0 []) exE
theorem X7.upd {H:Nat->Option O} (hx:X7 H) {k:Nat} (hk:30<=k) (o:Option O):X7 (updC H k o):=Ex7.upd hx hk o
theorem X7.frz {H:Nat->Option O} {vs:List V} {r:V} {K:V->(Nat->Option O)->Prop} (hx:X7 H) (hk: ∀H,X7 H->K r H):frzK H vs r K:=zjB hx hk
section
variable {z:Nat->Bool} {h:Nat->Option O} {a:Nat} {nm:ByteArray} {fr:Int} {to as1:Expr}
end
end Rg
end
section
set_option maxRecDepth 100000
namespace Rg
open Go
theorem Prog.ok.cell {p:Prog} (h:p.ok) {c:Nat} {x:Cell} (hx:p.cells[c]? =some x): -1<=x.thread/\x.thread<p.threads.length:=by
 have:=(cellErr_iff.1 ((ok_iff.1 h).cells c x hx)).1;simp only[zaY,Bool.or_eq_false_iff,decide_eq_false_iff_not]at this;omega
theorem Prog.ok.thr {p:Prog} (h:p.ok) {t:Nat} {x:Thread} (hx:p.threads[t]? =some x):1<=x.points/\x.points<=48:=by
 have h1:=(threadErr_iff.1 ((ok_iff.1 h).threads t x hx)).2.2.1.1;have h2:=((limits_iff.1 (ok_iff.1 h).lim).2 x (List.mem_of_getElem? hx)).1;exact⟨h1,h2⟩
theorem Prog.ok.step {p:Prog} (h:p.ok) {t s:Nat} {x:Thread} {y:Step} (hx:p.threads[t]? =some x) (hy:x.steps[s]? =some y):0<=y.fr/\y.fr<x.points-1:=by
 have h1:=(threadErr_iff.1 ((ok_iff.1 h).threads t x hx)).2.2.2.2.2.1 s y hy;have h2:=(stepErr_iff.1 h1).1;simp only[zbl,Bool.or_eq_false_iff,decide_eq_false_iff_not,Bool.not_eq_false',inR,decide_eq_true_eq]at h2;omega
end Rg
end
section
set_option maxRecDepth 100000
namespace Rg
open Go
end Rg
end
section
namespace Rg
open Go
structure Gr.Ok (g:Gr):Prop where
 cl_len:g.cls.length=g.all.length
 msk_len:g.msk.length=g.nt*g.sz
 ld_len:g.ld.length=g.nt
 qk_len:g.qk.length=g.nt
 ld_lt: ∀t i,g.ldAt t i<2^64
 qk_lt: ∀t i,g.qkAt t i<2^64
 ld_row: ∀t,t<g.nt->(g.ld.getD t []).length=64
 qk_row: ∀t,t<g.nt->(g.qk.getD t []).length=64
 th_lt: ∀i,i<g.all.length->(g.ac i).th<g.nt
 st_lt: ∀i,i<g.all.length->(g.ac i).st<64
 thr_cl: ∀i,i<g.all.length->g.thr (g.cl i)=(g.ac i).th
 cl_lt: ∀i,i<g.all.length->g.cl i<g.msk.length
 mk_bit: ∀c j,(g.mks c).testBit j=true<-> ∃i,i<g.all.length/\g.cl i=c/\(g.ac i).st=j
theorem zg2 {p:Prog} {t:Nat} {l:List Step} {i:Nat} {a:Acc}:a∈accsT p t l i<-> ∃k s,k<i/\l[k]? =some s/\a∈accsS p t k s:=by
 simp only[accsT,List.mem_flatMap];constructor
 ·rintro⟨⟨s,k⟩,h1,h2⟩;rw[List.mem_zipIdx_iff_getElem?]at h1;simp only at h1 h2;rw[List.getElem?_take]at h1;split at h1
  ·exact⟨k,s,by assumption,h1,h2⟩
  ·cases h1
 ·rintro⟨k,s,h1,h2,h3⟩;refine⟨(s,k),?_,h3⟩;rw[List.mem_zipIdx_iff_getElem?];simp only;rw[List.getElem?_take,if_pos h1,h2]
theorem zk2 {p:Prog} {k:Nat} {a:Acc}:a∈accsN p k<-> ∃t x i s,t<k/\p.threads[t]? =some x/\x.steps[i]? =some s/\a∈accsS p t i s:=by
 simp only[accsN,List.mem_flatMap];constructor
 ·rintro⟨⟨x,t⟩,h1,h2⟩;rw[List.mem_zipIdx_iff_getElem?]at h1;simp only at h1 h2;rw[List.getElem?_take]at h1;split at h1
  ·obtain⟨i,s,_,h4,h5⟩:=zg2.1 h2;exact⟨t,x,i,s,by assumption,h1,h4,h5⟩
  ·cases h1
 ·rintro⟨t,x,i,s,h1,h2,h3,h4⟩;refine⟨(x,t),?_,zg2.2 ⟨i,s,(zH.1 h3).1,h3,h4⟩⟩;rw[List.mem_zipIdx_iff_getElem?];simp only;rw[List.getElem?_take,if_pos h1,h2]
theorem zg3 {p:Prog} {t i:Nat} {s:Step} {a:Acc}:a∈accsS p t i s<->a.th=t/\a.st=i/\
 (((s.kind=6\/s.kind=7)/\a.wr=true/\a.ce=p.cells.length+s.target.toNat)\/
  (¬(s.kind=6\/s.kind=7)/\ ∃c,c∈ofM p (-1)/\a.ce=c.toNat/\c∈(if a.wr then writesM s else readsM s))):=by
 obtain⟨th,st,ce,w⟩:=a;unfold accsS;split
 ·rename_i h;simp only[List.mem_singleton,Acc.mk.injEq];constructor
  ·rintro⟨rfl,rfl,rfl,rfl⟩;exact⟨rfl,rfl,.inl ⟨h,rfl,rfl⟩⟩
  ·rintro⟨rfl,rfl,h1⟩;rcases h1 with⟨_,rfl,rfl⟩ | ⟨hn,_⟩
   ·exact⟨rfl,rfl,rfl,rfl⟩
   ·exact absurd h hn
 ·rename_i h;simp only[accsC,List.mem_flatMap,List.mem_append];constructor
  ·rintro⟨c,hc,h1 | h1⟩
   ·split at h1
    ·simp only[List.mem_singleton,Acc.mk.injEq]at h1;obtain⟨rfl,rfl,rfl,rfl⟩:=h1;exact⟨rfl,rfl,.inr ⟨h,c,hc,rfl,by simpa⟩⟩
    ·cases h1
   ·split at h1
    ·simp only[List.mem_singleton,Acc.mk.injEq]at h1;obtain⟨rfl,rfl,rfl,rfl⟩:=h1;exact⟨rfl,rfl,.inr ⟨h,c,hc,rfl,by simpa⟩⟩
    ·cases h1
  ·rintro⟨rfl,rfl,h1⟩;rcases h1 with⟨h2,_⟩ | ⟨_,c,hc,rfl,h3⟩
   ·exact absurd h2 h
   ·cases w
    ·exact⟨c,hc,.inl (by simp only[zG,if_false]at h3;rw[if_pos h3];simp)⟩
    ·exact⟨c,hc,.inr (by simp only[if_true]at h3;rw[if_pos h3];simp)⟩
theorem zet {p:Prog} {t i:Nat} {x:Thread} {s:Step} (h1:p.threads[t]? =some x) (h2:x.steps[i]? =some s):p.stepAt t i=s:=by
 unfold Prog.stepAt;rw[List.getD_eq_getElem?_getD,List.getD_eq_getElem?_getD,h1];simp[h2]
theorem zel {p:Prog} {a:Acc}:a∈accsM p<-> ∃x s,p.threads[a.th]? =some x/\x.steps[a.st]? =some s/\a∈accsS p a.th a.st s:=by
 unfold accsM;rw[zk2];constructor
 ·rintro⟨t,x,i,s,_,h1,h2,h3⟩;obtain⟨rfl,rfl,_⟩:=zg3.1 h3;exact⟨x,s,h1,h2,h3⟩
 ·rintro⟨x,s,h1,h2,h3⟩;exact⟨a.th,x,a.st,s,(zH.1 h1).1,h1,h2,h3⟩
theorem zk1 {p:Prog} {t c:Int}:c∈ofM p t<->ofThread p t c=true:=by
 rw[zcz];simp only[ofM,zsT,idxN,List.take_length,List.mem_map,List.mem_filter,decide_eq_true_eq];constructor
 ·rintro⟨⟨x,i⟩,⟨h1,h2⟩,rfl⟩;rw[List.mem_zipIdx_iff_getElem?]at h1;exact⟨by simp,x,by simpa using h1,h2⟩
 ·rintro⟨h0,x,h1,h2⟩;exact⟨(x,c.toNat),⟨by rw[List.mem_zipIdx_iff_getElem?];exact h1,h2⟩,by simp;omega⟩
theorem ok_acc {p:Prog} (h:p.ok) {a:Acc} (ha:a∈accsM p):a.th<p.threads.length/\a.st<64/\a.ce<p.cells.length+p.threads.length:=by
 obtain⟨x,s,h1,h2,h3⟩:=zel.1 ha;have hp:=ok_iff.1 h;have hi1:=(zH.1 h1).1;have hi2:=(zH.1 h2).1;have hl:=(limits_iff.1 hp.lim).2 x (List.mem_of_getElem? h1);refine⟨hi1,by omega,?_⟩;obtain⟨_,_,h4 | h4⟩:=zg3.1 h3
 ·obtain⟨hk,_,hc⟩:=h4;have ht:=hp.threads _ x h1;rw[threadErr_iff]at ht;have hs:=ht.2.2.2.2.2.1 _ s h2;obtain⟨hb,_,hset,hko⟩:=stepErr_iff.1 hs
  have hj:joinOk p a.th s=true:=by
   unfold kindOk at hko;rcases hk with hk | hk<;>rw[hk]at hko<;>simp at hko
   ·exact hko.1
   ·exact hko
  simp only[joinOk,inR,zF,decide_eq_true_eq]at hj;rw[hc];omega
 ·obtain⟨_,c,hc,he,_⟩:=h4;rw[zk1,zcz]at hc;obtain⟨h0,y,hy,_⟩:=hc;have:=(zH.1 hy).1;omega
theorem clsM_bounds {p:Prog} (h:p.ok) {a:Acc} (ha:a∈accsM p):clsM p a/ (2*(p.cells.length+p.threads.length))=a.th/\clsM p a<p.threads.length*(2*(p.cells.length+p.threads.length)):=by
 obtain⟨h1,_,h2⟩:=ok_acc h ha;unfold clsM
 generalize hb:(if(a.wr&&decide (a.ce<p.cells.length))||decide ((p.stepAt a.th a.st).kind=7)then 1 else 0)=b
 have hb1:b<=1:=by rw[<- hb];split<;>omega
 generalize hS:p.cells.length+p.threads.length=S at h2⊢
 constructor
 ·rw[Nat.add_assoc,Nat.mul_comm,Nat.mul_add_div (by omega)];rw[Nat.div_eq_of_lt (by omega)];rfl
 ·have:(a.th+1)*(2*S)<=p.threads.length*(2*S):=Nat.mul_le_mul_right _ h1;rw[Nat.add_mul]at this;omega
theorem zkr {p:Prog} (h:p.ok) (inner:Step->Bool) (t i:Nat):((p.threads.map fun x=>reachM inner x.steps).getD t []).getD i 0<2^64:=by
 have hp:=(limits_iff.1 (ok_iff.1 h).lim).2;rw[List.getD_eq_getElem?_getD,List.getD_eq_getElem?_getD,zJ]
 cases hx:p.threads[t]? with
 | none=>simp
 | some x=>
   simp only[Option.map_some,Option.getD_some]
   cases hy:(reachM inner x.steps)[i]? with
   | none=>simp
   | some y=>exact zkA inner (hp x (List.mem_of_getElem? hx)).2.1 y (List.mem_of_getElem? hy)
theorem ziD {p:Prog} (h:p.ok) (inner:Step->Bool) {t:Nat} (ht:t<p.threads.length):((p.threads.map fun x=>reachM inner x.steps).getD t []).length=64:=by
 have hp:=(limits_iff.1 (ok_iff.1 h).lim).2;rw[List.getD_eq_getElem?_getD,zJ,zI ht];exact reachM_len inner (hp _ (List.getElem_mem ht)).2.1
theorem zn0 {p:Prog} (h:p.ok) (model:Int):(grM p model).Ok:=by
 have hac: ∀i,i<(accsM p).length->(grM p model).ac i∈accsM p:=fun i hi=>Gr.ac_mem (g:=grM p model) hi
 have hcl: ∀i,i<(accsM p).length->(grM p model).cl i=clsM p ((grM p model).ac i):=by
  intro i hi;simp only[Gr.cl,Gr.ac,grM,List.getD_eq_getElem?_getD,zJ,zI hi];rfl
 refine⟨by simp[grM],by simp[grM,Gr.sz],by simp[grM],by simp[grM],zkr h _,zkr h _,fun t ht=>ziD h _ ht,fun t ht=>ziD h _ ht,fun i hi=>(ok_acc h (hac i hi)).1,fun i hi=>(ok_acc h (hac i hi)).2.1,fun i hi=> ?_,fun i hi=> ?_,fun c j=> ?_⟩
 ·rw[hcl i hi];exact(clsM_bounds h (hac i hi)).1
 ·rw[hcl i hi];simpa[grM]using(clsM_bounds h (hac i hi)).2
 ·have e:(grM p model).mks c=if c<p.threads.length*(2*(p.cells.length+p.threads.length))then(accsM p).foldl (fun m a=>if decide (clsM p a=c)then m ||| 1<<< a.st else m) 0 else 0:=by
   simp only[Gr.mks,grM,List.getD_eq_getElem?_getD,zJ];split
   ·rename_i h1;rw[List.getElem?_range h1];simp
   ·rename_i h1;rw[List.getElem?_eq_none (by simpa using h1)];rfl
  rw[e];constructor
  ·intro hj;split at hj
   ·rw[zcE (fun a:Acc=>decide (clsM p a=c)) (fun a=>a.st)]at hj;simp only[Nat.zero_testBit,Bool.false_or,List.any_eq_true,zF,decide_eq_true_eq]at hj;obtain⟨a,h1,h2,h3⟩:=hj;obtain⟨i,hi,rfl⟩:=List.mem_iff_getElem.1 h1
    have e2:(grM p model).ac i=(accsM p)[i]:=by
     simp[Gr.ac,grM,List.getD_eq_getElem?_getD,zI hi]
    exact⟨i,hi,by rw[hcl i hi,e2];exact h2,by rw[e2];exact h3⟩
   ·simp at hj
  ·rintro⟨i,hi,h1,h2⟩;rw[hcl i hi]at h1;have hb:=(clsM_bounds h (hac i hi)).2;rw[h1]at hb;rw[if_pos hb,zcE (fun a:Acc=>decide (clsM p a=c)) (fun a=>a.st)];simp only[Nat.zero_testBit,Bool.false_or,List.any_eq_true,zF,decide_eq_true_eq];exact⟨_,hac i hi,h1,h2⟩
theorem Gr.Ok.alone {g:Gr} (ho:g.Ok) {t:Nat} (h: ∀i,i<g.all.length->(g.ac i).th=t):g.shortest=none:=by
 rw[Gr.shortest_none];intro r h1 _;cases hr:g.atRest r
 ·rfl
 ·obtain⟨c,d,_,_,k3,k4⟩:=Gr.atRest_iff.1 hr;obtain⟨i1,i2,i3,_⟩:=Gr.isPair_iff.1 k3
  have hthr: ∀f c,g.maskF f c g.all.length≠0->g.thr c=t:=by
   intro f c hc;obtain⟨j,hj⟩:=za8.1 hc;obtain⟨⟨a,c'⟩,hq,_,rfl,_⟩:=(Gr.maskF_bit f c _ j).1 hj;obtain⟨n,hn,he⟩:=List.mem_iff_getElem.1 (List.mem_of_mem_take hq);have hn1:n<g.all.length:=by rw[List.length_zip]at hn;omega
   have hn2:n<g.cls.length:=by rw[ho.cl_len];exact hn1
   have e:g.cl n=c':=by
    rw[List.getElem_zip]at he;simp only[Gr.cl,List.getD_eq_getElem?_getD,zI hn2,Option.getD_some];exact(Prod.mk.inj he).2
   rw[<- e,ho.thr_cl n hn1,h n hn1]
  obtain⟨r,rfl⟩: ∃k,r=k+1:=⟨r-1,by omega⟩
  rw[Gr.ends_succ,List.any_eq_true]at k4;obtain⟨e,_,h5⟩:=k4;simp only[Gr.ok,zF,decide_eq_true_eq,Bool.not_eq_true']at h5;obtain⟨⟨h6,h7,_⟩,_⟩:=h5;obtain⟨j,hj⟩:=za8.1 h6;obtain⟨n,hn,h8,_⟩:=(ho.mk_bit e j).1 hj;rw[hthr g.lat d i2,zl1]at h7;rw[<- h8,ho.thr_cl n hn,h n hn]at h7;simp at h7
theorem Gr.Ok.mk_lt {g:Gr} (h:g.Ok) (c:Nat):g.mks c<2^64:=by
 refine Nat.lt_pow_two_of_testBit _ fun i hi=> ?_
 cases hb:(g.mks c).testBit i
 ·rfl
 ·obtain⟨n,h1,_,h2⟩:=(h.mk_bit c i).1 hb;have:=h.st_lt n h1;omega
def rowsT (f:Nat->Nat->Nat):List T:=(List.range 256).map fun j=> .int .u64 (f (j/ 64) (j % 64):Nat)
def restT (g:Gr):List T:=rowsT g.ldAt++rowsT g.qkAt++[.opq]
abbrev zpz (l:List Nat):T:=.sl (l.map fun m:Nat=>[.int .u64 m])
theorem zb0 (f:Nat->Nat->Nat):(rowsT f).length=256:=by simp[rowsT]
theorem zf3 (f:Nat->Nat->Nat) {t i:Nat} (ht:t<4) (hi:i<64):(rowsT f)[t*64+i]? =some (.int .u64 (f t i)):=by
 simp only[rowsT,zJ];rw[List.getElem?_range (by omega)];simp only[Option.map_some];rw[show(t*64+i)/ 64=t by omega,show(t*64+i) % 64=i by omega]
theorem zmp {α:Type} {l:List α} {i:Nat} {x:α} (h:l[i]? =some x):List.take 1 (List.drop i l)=[x]:=by
 have hi:=(zH.1 h).1;rw[zba h];rfl
theorem zoo (g:Gr) {t i:Nat} (ht:t<4) (hi:i<64):List.take 1 (List.drop i (List.drop (t*64) (restT g)))=[.int .u64 (g.ldAt t i)]:=by
 rw[List.drop_drop];refine zmp ?_;rw[restT,List.append_assoc,List.getElem?_append_left (by rw[zb0];omega),zf3 _ ht hi]
theorem zeg (g:Gr):(restT g).length=513:=by simp[restT,zb0]
theorem zoH (a b:Nat):((a:Int)=(b:Int))=(a=b):=propext Int.ofNat_inj
abbrev grT (cs ms ls ts:List (List T)) (model:Int) (g:Gr):T:=.ip (.sl cs:: .sl ms:: .sl ls:: .sl ts:: .int .i64 model:: .sl (g.all.map Acc.enc)::ints (g.cls.map fun c:Nat=>(c:Int))::zpz g.msk::restT g)
theorem zsr {a b:Nat} (ha:a<2^64) (hb:b<2^64):IntKind.u64.wrap ((BitVec.ofInt IntKind.u64.bits (a:Int)&&& ~~~BitVec.ofInt IntKind.u64.bits (b:Int)).toNat:Int)=((a&&& (2^64-1-b):Nat):Int):=by
 show IntKind.u64.wrap ((BitVec.ofInt 64 (a:Int)&&& ~~~BitVec.ofInt 64 (b:Int)).toNat:Int)=_;rw[BitVec.toNat_and,BitVec.toNat_not,zqV ha,zqV hb,zj2 (Nat.and_lt_two_pow _ (by omega))]
theorem znT {l:List Nat} (h:l.length=64):l=(List.range 64).map fun i=>l.getD i 0:=by
 refine List.ext_getElem (by simp[h]) fun i h1 h2=> ?_
 simp only[List.getElem_map,List.getElem_range,List.getD_eq_getElem?_getD,zI h1,Option.getD_some]
theorem zmG (g:Gr) {t:Nat} (ht:t<4) (hl:(g.ld.getD t []).length=64):(List.take 64 (List.drop (t*64) (restT g))).map V.t=arr (g.ld.getD t []):=by
 rw[znT hl,arr,List.map_map];refine List.ext_getElem ?_ fun i h1 h2=> ?_
 ·simp only[List.length_map,List.length_take,List.length_drop,zeg,List.length_range];omega
 ·have hi:i<64:=by simpa using h2
  have:=zoo g ht hi
  have hr:(restT g)[t*64+i]? =some (.int .u64 (g.ldAt t i)):=by
   rw[restT,List.append_assoc,List.getElem?_append_left (by rw[zb0];omega),zf3 _ ht hi]
  obtain⟨h3,h4⟩:=zH.1 hr;simp only[List.getElem_map,List.getElem_take,List.getElem_drop,List.getElem_range,Function.comp,h4];rfl
theorem zku (g:Gr) {t:Nat} (ht:t<4) (hl:(g.qk.getD t []).length=64):(List.take 64 (List.drop (t*64) (List.drop 256 (restT g)))).map V.t=arr (g.qk.getD t []):=by
 rw[znT hl,arr,List.map_map];refine List.ext_getElem ?_ fun i h1 h2=> ?_
 ·simp only[List.length_map,List.length_take,List.length_drop,zeg,List.length_range];omega
 ·have hi:i<64:=by simpa using h2
  have hr:(restT g)[256+(t*64+i)]? =some (.int .u64 (g.qkAt t i)):=by
   rw[restT,List.append_assoc,List.getElem?_append_right (by rw[zb0];omega),zb0,show 256+(t*64+i)-256=t*64+i by omega,List.getElem?_append_left (by rw[zb0];omega),zf3 _ ht hi]
  obtain⟨h3,h4⟩:=zH.1 hr;simp only[List.getElem_map,List.getElem_take,List.getElem_drop,List.getElem_range,Function.comp,h4];rfl
def rowN (same:Bool) (r:List Nat) (i:Nat):List Nat:=(r.mapIdx fun i m=>Gr.rowC same i m).take i++r.drop i
theorem zmC {same:Bool} {r:List Nat} {i:Nat} (h:i<=r.length):(rowN same r i).length=r.length:=by simp[rowN];omega
theorem rowN_at {same:Bool} {r:List Nat} {i x:Nat} (h:r[i]? =some x):(rowN same r i)[i]? =some x:=by
 have hi:=(zH.1 h).1;have hl:((r.mapIdx fun i m=>Gr.rowC same i m).take i).length=i:=by simp;omega
 rw[rowN,List.getElem?_append_right (by omega),hl,Nat.sub_self,List.getElem?_drop];simpa using h
theorem zkq {same:Bool} {r:List Nat} {i x:Nat} (hx:r[i]? =some x):rowN same r (i+1)=(rowN same r i).set i (Gr.rowC same i x):=by
 have hi:=(zH.1 hx).1;have hl:((r.mapIdx fun i m=>Gr.rowC same i m).take i).length=i:=by simp;omega
 have he:(r.mapIdx fun i m=>Gr.rowC same i m)[i]? =some (Gr.rowC same i x):=by simp[List.getElem?_mapIdx,hx]
 rw[rowN,zae he,rowN,List.set_append_right _ _ (by omega),hl,Nat.sub_self,zba hx];simp
theorem zkp (same:Bool) (r:List Nat):rowN same r 0=r:=by simp[rowN]
theorem zmD (same:Bool) (r:List Nat):rowN same r r.length=r.mapIdx fun i m=>Gr.rowC same i m:=by
 simp[rowN];exact List.take_of_length_le (by simp)
theorem zon {same:Bool} {i m:Nat} (hi:i<64) (hm:m<2^64):Gr.rowC same i m<2^64:=by
 unfold Gr.rowC;split
 ·exact Nat.and_lt_two_pow _ (Nat.lt_of_le_of_lt (Nat.sub_le _ _) (by decide))
 ·exact Nat.or_lt_two_pow hm (one_lt hi)
set_option maxHeartbeats 1000000
theorem zjJ (cs ms ls ts:List (List T)) (model:Int) (g:Gr) (hg:g.Ok) (hn:g.nt<=4) (hcs:g.nc=cs.length) (hcl:cs.length<2^20) (hts:g.nt=ts.length) (c d:Nat) (hc:c<g.msk.length) (hd:d<g.msk.length):
 Den Γ G 325 [.t (grT cs ms ls ts model g),vi c,vi d]=some (vb (g.couple c d)):=by
 (refine den_ofY Γ325 rfl ?_;dsimp only[zrv])
 have hml:=hg.msk_len;have hsz:g.sz=2*(cs.length+ts.length):=by unfold Gr.sz;rw[hcs,hts]
 have h0:0<cs.length+ts.length:=by
  apply Classical.byContradiction;intro h;have:g.sz=0:=by omega
  rw[this]at hml;omega
 have hbig:g.msk.length<=4*g.sz:=by rw[hml];exact Nat.mul_le_mul_right _ hn
 have hth:=zbL cs ms ls ts (.int .i64 model:: .sl (g.all.map Acc.enc)::ints (g.cls.map fun c:Nat=>(c:Int))::zpz g.msk::restT g) c (by omega) (by omega) h0 (by omega);have hthr:c/ (2*(cs.length+ts.length))=g.thr c:=by unfold Gr.thr;rw[hsz]
 rw[hthr]at hth
 have ht:g.thr c<g.nt:=by
  rw[Gr.thr,Nat.div_lt_iff_lt_mul (by omega)];omega
 have ht':((g.thr c:Int)<4)=True:=by simp;omega
 have hrow:=zmG g (t:=g.thr c) (by omega) (hg.ld_row _ ht);have hrl:=hg.ld_row _ ht;have hl:=zeg g;have hc1:(64<=(List.drop (g.thr c*64) (restT g)).length)=True:=by simp[hl];omega
 have hal:(arr (g.ld.getD (g.thr c) [])).length=64:=by rw[zbb,hrl]
 have hRb: ∀x∈g.ld.getD (g.thr c) [],x<2^64:=by
  intro x hx;obtain⟨i,hi,rfl⟩:=List.mem_iff_getElem.1 hx;have:=hg.ld_lt (g.thr c) i;rw[Gr.ldAt,List.getD_eq_getElem?_getD,zI hi]at this;exact this
 have hxc:g.msk[c]? =some (g.mks c):=by simp[Gr.mks,List.getD_eq_getElem?_getD,zI hc]
 have hxd:g.msk[d]? =some (g.mks d):=by simp[Gr.mks,List.getD_eq_getElem?_getD,zI hd]
 have hgoal:g.couple c d=meetsM (g.mks c) (g.mks d) ((g.ld.getD (g.thr c) []).mapIdx fun i m=>Gr.rowC (decide (c=d)) i m):=rfl;rw[hgoal];have hcd:((c:Int)=(d:Int))=(decide (c=d)=true):=by rw[decide_eq_true_eq];exact propext Int.ofNat_inj
 have hkc:=hg.mk_lt c;have hkd:=hg.mk_lt d;simp -dsimp only[go_sem,seval,hth,ht',hc1,hrow,hal]
 generalize g.ld.getD (g.thr c) []=R at hrow hrl hal hRb⊢
 generalize decide (c=d)=sm at hcd⊢
 refine zaz 274877776256 64 (fun i f=>(f 17).v=vi i/\(f 7).v= .lb/\(f 7).box=some (arr (rowN sm R i))) rfl rfl ⟨by simp -dsimp only[go_sem,seval],by simp -dsimp only[go_sem,seval],by simp -dsimp only[go_sem,seval];rw[zkp]⟩ ?_;rintro i f u kk bb hi ⟨h17,h7,h7b⟩;have hw:=zah i (by omega);simp -dsimp only[go_sem,seval,h17];refine csplit (fun h=> ?_) (fun h=> ?_)<;>(try rw[h])<;>(try simp only[zab]at h)<;>(try simp -dsimp only[go_sem,seval,h17])
 ·obtain⟨x,hx,hxm⟩:=zaf (show i<R.length by omega);have hsucc:=zkq (same:=sm) hx;have hat:=zhq (rowN_at (same:=sm) hx);have hrN:=zmC (same:=sm) (r:=R) (i:=i) (by omega);have hal2:(arr (rowN sm R i)).length=64:=by rw[zbb,hrN,hrl]
  have hs1:=zmo (i:=i) (by omega);have ho:=zpd (hRb x hxm) (one_lt (i:=i) (by omega));have hwr:=zi8 (l:=rowN sm R i) (i:=i) (by omega) (x ||| 1<<< i);have hi64:((i:Int)<64)=True:=by simp;omega
  have hi63:(i<=63)=True:=by simp;omega
  have hm1:i*1=i:=by omega
  simp -dsimp only[go_sem,seval,h17,h7,h7b,hat,hs1,ho,hal2,hi64,hi63,hm1,hcd,hwr];cases sm
  ·have hrc:Gr.rowC false i x=x ||| 1<<< i:=rfl;rw[hrc]at hsucc;simp -dsimp only[go_sem,seval,h17];refine⟨by omega,by simp -dsimp only[go_sem,seval,h17,hw],by simp -dsimp only[go_sem,seval,h7],?_⟩;simp -dsimp only[go_sem,seval,hsucc]
  ·have hy:x ||| 1<<< i<2^64:=Nat.or_lt_two_pow (hRb x hxm) (one_lt (by omega));have hat2:=zhq (set_at (y:=x ||| 1<<< i) (rowN_at (same:=true) hx));have hal3:(arr ((rowN true R i).set i (x ||| 1<<< i))).length=64:=by rw[zbb,List.length_set,hrN,hrl]
   have hno:=zsr hy (one_lt (i:=i) (by omega));have hwr2:=zi8 (l:=(rowN true R i).set i (x ||| 1<<< i)) (i:=i) (by rw[List.length_set];omega) ((x ||| 1<<< i)&&& (2^64-1-1<<< i));rw[List.set_set]at hwr2;have hrc:Gr.rowC true i x=(x ||| 1<<< i)&&& (2^64-1-1<<< i):=rfl;rw[hrc]at hsucc;simp -dsimp only[go_sem,seval,h17,h7,hat2,hs1,hno,hal3,hi64,hi63,hm1];refine⟨by omega,by simp -dsimp only[go_sem,seval,h17,hw],by simp -dsimp only[go_sem,seval,h7],?_⟩;simp -dsimp only[go_sem,seval,hsucc];exact hwr2
 ·have hi6:i=64:=by omega
  subst hi6;have htk: ∀l:List Nat,l.length=64->List.take 64 (arr l)=arr l:=fun l hl=>List.take_of_length_le (by rw[zbb];omega)
  rw[<- hrl,zmD]at h7b
  generalize hR2:(R.mapIdx fun i m=>Gr.rowC sm i m)=R2 at h7b⊢
  have hR2l:R2.length=64:=by rw[<- hR2];simp[hrl]
  have hR2b: ∀x∈R2,x<2^64:=by
   intro x hx;rw[<- hR2]at hx;obtain⟨i,hi,rfl⟩:=List.mem_iff_getElem.1 hx;rw[List.getElem_mapIdx];exact zon (by simp at hi;omega) (hRb _ (List.getElem_mem _))
  have hmd:=zg4 (g.mks c) (g.mks d) R2 hR2l hkc hkd hR2b;have hal2:(arr R2).length=64:=by rw[zbb,hR2l]
  have ht2:=htk R2 hR2l;have hmd':Den Γ G 320 [.t (.int .u64 (g.mks c)),.t (.int .u64 (g.mks d)),.agg (arr R2)]=some (vb (meetsM (g.mks c) (g.mks d) R2)):=hmd;have htt:=zij (fun _=>none) 1000 R2;rw[show arr R2=List.map V.t (List.map (fun x:Nat=>T.int .u64 x) R2)by simp[arr]]at hmd';simp -dsimp only[go_sem,seval,h7,h7b,hxc,hxd,hal2,ht2,htt,hmd']
end Rg
end
section
namespace Rg
open Go
def rowsU (l:List Nat):List (List V):=l.map fun x:Nat=>[.t (.int .u64 x)]
theorem zbJ (l:List Nat):(rowsU l).length=l.length:=by simp[rowsU]
theorem zcS {l:List Nat} {i x:Nat} (h:l[i]? =some x):(rowsU l)[i]? =some [.t (.int .u64 x)]:=by simp[rowsU,h]
theorem zbI (l:List Nat) (i x:Nat):(rowsU l).set i [.t (.int .u64 x)]=rowsU (l.set i x):=by simp[rowsU,List.map_set]
theorem zfp (n:Nat):List.replicate n [V.t (.int .u64 0)]=rowsU (List.replicate n 0):=by simp[rowsU]
namespace Gr
variable {g:Gr}
theorem zfA (ho:g.Ok) (f:Acc->Bool) (c:Nat) {i:Nat} (hi:i<g.all.length):g.maskF f c (i+1)=if f (g.ac i)&&decide (g.cl i=c)then g.maskF f c i ||| 1<<< (g.ac i).st else g.maskF f c i:=by
 have h1:g.all[i]? =some (g.ac i):=by simp[Gr.ac,List.getD_eq_getElem?_getD,zI hi]
 have hi2:i<g.cls.length:=by rw[ho.cl_len];exact hi
 have h2:g.cls[i]? =some (g.cl i):=by simp[Gr.cl,List.getD_eq_getElem?_getD,zI hi2]
 have h3:(g.all.zip g.cls)[i]? =some (g.ac i,g.cl i):=by rw[List.getElem?_zip_eq_some];exact⟨h1,h2⟩
 unfold maskF;rw[zae h3,List.foldl_append];rfl
theorem maskF_lt (ho:g.Ok) (f:Acc->Bool) (c:Nat): ∀i,i<=g.all.length->g.maskF f c i<2^64
 | 0,_=>by simp[maskF]
 | i+1,h=>by
   rw[zfA ho f c (by omega)];have:=maskF_lt ho f c i (by omega);split
   ·exact Nat.or_lt_two_pow this (one_lt (ho.st_lt i (by omega)))
   ·exact this
def maskL (g:Gr) (f:Acc->Bool) (i:Nat):List Nat:=(List.range g.msk.length).map fun c=>g.maskF f c i
theorem maskL_len (f:Acc->Bool) (i:Nat):(g.maskL f i).length=g.msk.length:=by simp[maskL]
theorem maskL_at (f:Acc->Bool) (i:Nat) {c:Nat} (h:c<g.msk.length):(g.maskL f i)[c]? =some (g.maskF f c i):=by
 simp only[maskL,zJ,List.getElem?_range h,Option.map_some]
theorem maskL_zero (f:Acc->Bool):g.maskL f 0=List.replicate g.msk.length 0:=by
 refine List.ext_getElem (by simp[maskL]) fun i h1 h2=> ?_
 simp[maskL,maskF]
theorem maskL_succ (ho:g.Ok) (f:Acc->Bool) {i:Nat} (hi:i<g.all.length):g.maskL f (i+1)=if f (g.ac i)then(g.maskL f i).set (g.cl i) (g.maskF f (g.cl i) i ||| 1<<< (g.ac i).st)else g.maskL f i:=by
 refine List.ext_getElem? fun c=> ?_
 by_cases hc:c<g.msk.length
 ·rw[maskL_at f (i+1) hc,zfA ho f c hi];cases hf:f (g.ac i)
  ·simp only[Bool.false_and,zG,if_false];rw[maskL_at f i hc]
  ·simp only[Bool.true_and,decide_eq_true_eq,if_true];rw[List.getElem?_set]
   by_cases h:g.cl i=c
   ·subst h;simp[maskL_len,hc]
   ·rw[if_neg h,if_neg h,maskL_at f i hc]
 ·rw[List.getElem?_eq_none (by rw[maskL_len];omega)];split
  ·rw[List.getElem?_eq_none (by rw[List.length_set,maskL_len];omega)]
  ·rw[List.getElem?_eq_none (by rw[maskL_len];omega)]
def pairsI (g:Gr) (c j:Nat):List (Nat×Nat):=((List.range j).filter fun d=>g.isPair c d).map fun d=>(c,d)
def pairsN (g:Gr) (i:Nat):List (Nat×Nat):=(List.range i).flatMap fun c=>g.pairsI c g.msk.length
theorem pairsI_succ (c j:Nat):g.pairsI c (j+1)=g.pairsI c j++if g.isPair c j then [(c,j)]else []:=by
 unfold pairsI;rw[List.range_succ,List.filter_append,List.map_append];cases h:g.isPair c j<;>simp[h]
theorem pairsN_succ (i:Nat):g.pairsN (i+1)=g.pairsN i++g.pairsI i g.msk.length:=by
 unfold pairsN;rw[List.range_succ,List.flatMap_append];simp
theorem pairsI_len (c j:Nat):(g.pairsI c j).length<=j:=by
 unfold pairsI;rw[List.length_map];exact Nat.le_trans (List.length_filter_le _ _) (by simp)
theorem pairsN_len: ∀i,(g.pairsN i).length<=i*g.msk.length
 | 0=>by simp[pairsN]
 | i+1=>by
   rw[pairsN_succ,List.length_append,Nat.succ_mul];have:=pairsN_len i;have:=pairsI_len (g:=g) i g.msk.length;omega
theorem pairsN_all:g.pairsN g.msk.length=g.pairs:=rfl
end Gr
def pairT (x:Nat×Nat):List T:=[ti x.1,ti x.2]
def rowsP (l:List (Nat×Nat)):List (List V):=(l.map pairT).map (·.map V.t)
theorem zkm (l:List (Nat×Nat)):(rowsP l).length=l.length:=by simp[rowsP]
theorem zkn (l m:List (Nat×Nat)):rowsP l++rowsP m=rowsP (l++m):=by simp[rowsP]
theorem rowsP_all (l:List (Nat×Nat)):((rowsP l).all fun r=>decide (r.length=2))=true:=by simp[rowsP,pairT]
theorem pair_norm (l:List (Nat×Nat)): ∀e∈l.map pairT,∀t∈e,T.norm t=t:=by
 intro e he t ht;obtain⟨x,_,rfl⟩:=List.mem_map.1 he;simp only[pairT,List.mem_cons,List.not_mem_nil,or_false]at ht;rcases ht with rfl | rfl<;>rfl
theorem OwnB.offR {h:Nat->Option O} {x k sz sz':Nat} {v:V} {rows rs:List (List V)} {f:Bool} (o:OwnB h x v sz rows) (hk:h k=some (.rows sz' rs f)) (hne:sz≠sz'):zc1 v k:=by
 rcases o with⟨rfl,_⟩ | ⟨q,rfl,_,hq⟩
 ·intro i n he;cases he
 ·refine offK_ms ?_ _ _;rintro rfl;rw[hq]at hk;cases hk;exact hne rfl
structure AskT (cs ms ls ts:List (List T)) (model:Int) (g:Gr):Prop where
 ok:g.Ok
 nt4:g.nt<=4
 nc:g.nc=cs.length
 cl:cs.length<=32
 nt:g.nt=ts.length
 al:g.all.length<2^20
 ear: ∀i,i<g.all.length->Den Γ G 318 [.t (grT cs ms ls ts model g),.agg [vi (g.ac i).th,vi (g.ac i).st,vi (g.ac i).ce,vb (g.ac i).wr]]=some (vb (g.ear (g.ac i)))
 lat: ∀i,i<g.all.length->Den Γ G 319 [.t (grT cs ms ls ts model g),.agg [vi (g.ac i).th,vi (g.ac i).st,vi (g.ac i).ce,vb (g.ac i).wr]]=some (vb (g.lat (g.ac i)))
set_option maxHeartbeats 2000000
theorem zkL {cs ms ls ts:List (List T)} {model:Int} {g:Gr} (ha:AskT cs ms ls ts model g):
 Den Γ G 314 [.t (grT cs ms ls ts model g)]=some (.t (.sl (g.pairs.map pairT))):=by
 have hg:=ha.ok;have hml:=hg.msk_len;have hsz:g.sz<=72:=by have:=ha.nt4;have:=ha.cl;have:=ha.nc;unfold Gr.sz;omega
 have hbig:g.msk.length<=4*72:=by rw[hml];exact Nat.mul_le_mul ha.nt4 hsz
 have hal:=ha.al;have hncl:=hg.cl_len
 (refine den_ofY Γ314 rfl ?_;dsimp only[zrC])
 have hc1:((g.msk.length:Int)<0)=False:=by simp
 have hc2:((g.msk.length:Int)<=g.msk.length)=True:=by simp
 have hc3:((g.msk.length:Int)<=4294967296)=True:=by simp;omega
 simp -dsimp only[go_sem,seval,hc1,hc2,hc3];rw[zfp];refine zaj 590295810358571434080 g.all.length (fun i f h x=>(f 27).v=vi i/\h 6=some (.rows 1 (rowsU (g.maskL g.ear i)) false)/\h 12=some (.rows 1 (rowsU (g.maskL g.lat i)) false)/\13<=x) rfl ⟨by simp -dsimp only[go_sem,seval],by rw[Gr.maskL_zero];simp -dsimp only[go_sem,seval],by rw[Gr.maskL_zero];simp -dsimp only[go_sem,seval],by simp -dsimp only[go_sem,seval]⟩ ?_;rintro i f u H z bs hi ⟨h27,hE,hL,hz⟩;have hw:=zah i (by omega);simp -dsimp only[go_sem,seval,h27];refine csplit (fun h=> ?_) (fun h=> ?_)<;>(try rw[h])<;>(try simp only[zab]at h)<;>(try simp -dsimp only[go_sem,seval,h27])
 ·have hi2:i<g.all.length:=by assumption
  have hxa:g.all[i]? =some (g.ac i):=by simp[Gr.ac,List.getD_eq_getElem?_getD,zI hi2]
  have hxc:g.cls[i]? =some (g.cl i):=by simp[Gr.cl,List.getD_eq_getElem?_getD,zI (show i<g.cls.length by omega)]
  have hce:=ha.ear i hi2;have hcl:=ha.lat i hi2;have hclt:=hg.cl_lt i hi2;have hst:=hg.st_lt i hi2;have hse:=Gr.maskL_succ hg g.ear hi2;have hsl:=Gr.maskL_succ hg g.lat hi2;have hs1:=zmo (i:=(g.ac i).st) (by omega);have hre:=zcS (Gr.maskL_at (g:=g) g.ear i hclt);have hrl:=zcS (Gr.maskL_at (g:=g) g.lat i hclt);have hle:(rowsU (g.maskL g.ear i)).length=g.msk.length:=by rw[zbJ,Gr.maskL_len]
  have hll:(rowsU (g.maskL g.lat i)).length=g.msk.length:=by rw[zbJ,Gr.maskL_len]
  have hoe:=zpd (Gr.maskF_lt hg g.ear (g.cl i) i hi) (one_lt (i:=(g.ac i).st) hst);have hol:=zpd (Gr.maskF_lt hg g.lat (g.cl i) i hi) (one_lt (i:=(g.ac i).st) hst);have hci:((g.cl i:Int)<g.msk.length)=True:=by simp;omega
  simp -dsimp only[go_sem,seval,h27,hxa,hce];cases he:g.ear (g.ac i)
  ·rw[he]at hse;simp only[zG,if_false]at hse;simp -dsimp only[go_sem,seval,h27,hxa,hcl];cases hl:g.lat (g.ac i)
   ·rw[hl]at hsl;simp only[zG,if_false]at hsl;simp -dsimp only[go_sem,seval,h27];exact⟨by omega,by simp -dsimp only[go_sem,seval,h27,hw],by simp -dsimp only[go_sem,seval,hE,hse],by simp -dsimp only[go_sem,seval,hL,hsl],by(try simp -dsimp only[go_sem,seval])<;>omega⟩
   ·rw[hl,if_pos rfl]at hsl;simp -dsimp only[go_sem,seval,h27,hxc,hL,hrl,hll,hci,hs1,hol];exact⟨by omega,by simp -dsimp only[go_sem,seval,h27,hw],by simp -dsimp only[go_sem,seval,hE,hse],by simp -dsimp only[go_sem,seval,zbI,hsl],by(try simp -dsimp only[go_sem,seval])<;>omega⟩
  ·rw[he,if_pos rfl]at hse;simp -dsimp only[go_sem,seval,h27,hxc,hE,hre,hle,hci,hs1,hoe,hxa,hcl];cases hl:g.lat (g.ac i)
   ·rw[hl]at hsl;simp only[zG,if_false]at hsl;simp -dsimp only[go_sem,seval,h27];exact⟨by omega,by simp -dsimp only[go_sem,seval,h27,hw],by simp -dsimp only[go_sem,seval,zbI,hse],by simp -dsimp only[go_sem,seval,hL,hsl],by(try simp -dsimp only[go_sem,seval])<;>omega⟩
   ·rw[hl,if_pos rfl]at hsl;simp -dsimp only[go_sem,seval,h27,hxc,hL,hrl,hll,hci,hs1,hol];exact⟨by omega,by simp -dsimp only[go_sem,seval,h27,hw],by simp -dsimp only[go_sem,seval,zbI,hse],by simp -dsimp only[go_sem,seval,zbI,hsl],by(try simp -dsimp only[go_sem,seval])<;>omega⟩
 ·have hia:i=g.all.length:=by omega
  subst hia;have hle:(rowsU (g.maskL g.ear g.all.length)).length=g.msk.length:=by rw[zbJ,Gr.maskL_len]
  have hll:(rowsU (g.maskL g.lat g.all.length)).length=g.msk.length:=by rw[zbJ,Gr.maskL_len]
  have hth: ∀c,c<g.msk.length->Den Γ G 316 [.t (grT cs ms ls ts model g),vi c]=some (vi (g.thr c)):=by
   intro c hc
   have h0:0<cs.length+ts.length:=by
    have e:g.sz=2*(cs.length+ts.length):=by unfold Gr.sz;rw[ha.nc,ha.nt]
    apply Classical.byContradiction;intro h;have:g.sz=0:=by omega
    rw[this]at hml;omega
   have:=zbL cs ms ls ts (.int .i64 model:: .sl (g.all.map Acc.enc)::ints (g.cls.map fun c:Nat=>(c:Int))::zpz g.msk::restT g) c (by have:=ha.cl;omega) (by have:=ha.nt;have:=ha.nt4;omega) h0 (by omega);rw[<- ha.nc,<- ha.nt]at this;exact this
  have hz0: ∀m:Nat,(((m:Nat):Int)=0)=(m=0):=fun m=>by simp
  have hdv: ∀c:Nat,c<g.msk.length->IntKind.i64.wrap (((c:Nat):Int).tdiv 2)=((c/ 2:Nat):Int):=by
   intro c hc;rw[Int.tdiv_eq_ediv_of_nonneg (by omega),zan (by omega)];push_cast;rfl
  simp -dsimp only[go_sem,seval,hE,hle];refine zaj 5444517870735015413052810477473468777344 g.msk.length (fun i f h x=>(f 71).v=vi i/\h 6=some (.rows 1 (rowsU (g.maskL g.ear g.all.length)) false)/\h 12=some (.rows 1 (rowsU (g.maskL g.lat g.all.length)) false)/\OwnB h x (f 7).v 2 (rowsP (g.pairsN i))/\13<=x) rfl ⟨by simp -dsimp only[go_sem,seval],by simp -dsimp only[go_sem,seval,hE],by simp -dsimp only[go_sem,seval,hL],.inl ⟨by simp -dsimp only[go_sem,seval],rfl⟩,by(try simp -dsimp only[go_sem,seval])<;>omega⟩ ?_;clear hE hL hz h27;rintro i f u H z bs hi ⟨h71,hE,hL,hO,hz⟩;have hw:=zah i (by omega);simp -dsimp only[go_sem,seval,h71];refine csplit (fun h=> ?_) (fun h=> ?_)<;>(try rw[h])<;>(try simp only[zab]at h)<;>(try simp -dsimp only[go_sem,seval,h71])
  ·have hic:i<g.msk.length:=by assumption
   simp -dsimp only[go_sem,seval,h71,hL,hll];refine zaj 2722258935367507632149133133539822273152 g.msk.length (fun j f h x=>(f 76).v=vi j/\h 6=some (.rows 1 (rowsU (g.maskL g.ear g.all.length)) false)/\h 12=some (.rows 1 (rowsU (g.maskL g.lat g.all.length)) false)/\OwnB h x (f 7).v 2 (rowsP (g.pairsN i++g.pairsI i j))/\13<=x) rfl ⟨by simp -dsimp only[go_sem,seval],by simp -dsimp only[go_sem,seval,hE],by simp -dsimp only[go_sem,seval,hL],by rw[show g.pairsI i 0=[]from rfl,List.append_nil];(try simp -dsimp only[go_sem,seval]);exact hO.le (by(try simp -dsimp only[go_sem,seval])<;>omega),by(try simp -dsimp only[go_sem,seval])<;>omega⟩ ?_;rintro j f2 u2 H2 z2 bs2 hj ⟨h76,hE2,hL2,hO2,hz2⟩;have hw2:=zah j (by omega);simp -dsimp only[go_sem,seval,h76];refine csplit (fun h=> ?_) (fun h=> ?_)<;>(try rw[h])<;>(try simp only[zab]at h)<;>(try simp -dsimp only[go_sem,seval,h76])
   ·have hjc:j<g.msk.length:=by assumption
    have hre:=zcS (Gr.maskL_at (g:=g) g.ear g.all.length hic);have hrl:=zcS (Gr.maskL_at (g:=g) g.lat g.all.length hjc);have hci:(i<g.msk.length)=True:=by simp[hic]
    have hcj:(j<g.msk.length)=True:=by simp[hjc]
    have hsucc:=Gr.pairsI_succ (g:=g) i j;have ht1:=hth i hic;have ht2:=hth j hjc;have hd1:=hdv i hic;have hd2:=hdv j hjc;simp -dsimp only[go_sem,seval,h71,h76,hE2,hre,hle,hci,hL2,hrl,hll,hcj,hz0,ht1,ht2,hd1,hd2,zoH];refine csplit (fun h=> ?_) (fun h=> ?_)<;>(try rw[h])<;>(try simp only[zab]at h)<;>(try simp -dsimp only[go_sem,seval,h71,h76,hE2,hre,hle,hci,hL2,hrl,hll,hcj,hz0,ht1,ht2,hd1,hd2,zoH])
    ·have hnp:g.isPair i j=false:=by
      cases hp:g.isPair i j
      ·rfl
      ·obtain⟨k1,k2,k3,k4,k5⟩:=Gr.isPair_iff.1 hp;exact absurd h (k1)
     rw[hnp]at hsucc;simp only[zG,if_false,List.append_nil]at hsucc;rw[hsucc];exact⟨by omega,by simp -dsimp only[go_sem,seval,h76,hw2],by simp -dsimp only[go_sem,seval,hE2],by simp -dsimp only[go_sem,seval,hL2],by(try simp -dsimp only[go_sem,seval]);exact hO2.le (by(try simp -dsimp only[go_sem,seval])<;>omega),by(try simp -dsimp only[go_sem,seval])<;>omega⟩
    ·refine csplit (fun h=> ?_) (fun h=> ?_)<;>(try rw[h])<;>(try simp only[zab]at h)<;>(try simp -dsimp only[go_sem,seval,h71,h76,hE2,hre,hle,hci,hL2,hrl,hll,hcj,hz0,ht1,ht2,hd1,hd2,zoH])
     ·have hnp:g.isPair i j=false:=by
       cases hp:g.isPair i j
       ·rfl
       ·obtain⟨k1,k2,k3,k4,k5⟩:=Gr.isPair_iff.1 hp;exact absurd h (k2)
      rw[hnp]at hsucc;simp only[zG,if_false,List.append_nil]at hsucc;rw[hsucc];exact⟨by omega,by simp -dsimp only[go_sem,seval,h76,hw2],by simp -dsimp only[go_sem,seval,hE2],by simp -dsimp only[go_sem,seval,hL2],by(try simp -dsimp only[go_sem,seval]);exact hO2.le (by(try simp -dsimp only[go_sem,seval])<;>omega),by(try simp -dsimp only[go_sem,seval])<;>omega⟩
     ·refine csplit (fun h=> ?_) (fun h=> ?_)<;>(try rw[h])<;>(try simp only[zab]at h)<;>(try simp -dsimp only[go_sem,seval,h71,h76,hE2,hre,hle,hci,hL2,hrl,hll,hcj,hz0,ht1,ht2,hd1,hd2,zoH])
      ·have hnp:g.isPair i j=false:=by
        cases hp:g.isPair i j
        ·rfl
        ·obtain⟨k1,k2,k3,k4,k5⟩:=Gr.isPair_iff.1 hp;exact absurd h (fun h=>h k3)
       rw[hnp]at hsucc;simp only[zG,if_false,List.append_nil]at hsucc;rw[hsucc];exact⟨by omega,by simp -dsimp only[go_sem,seval,h76,hw2],by simp -dsimp only[go_sem,seval,hE2],by simp -dsimp only[go_sem,seval,hL2],by(try simp -dsimp only[go_sem,seval]);exact hO2.le (by(try simp -dsimp only[go_sem,seval])<;>omega),by(try simp -dsimp only[go_sem,seval])<;>omega⟩
      ·refine csplit (fun h=> ?_) (fun h=> ?_)<;>(try rw[h])<;>(try simp only[zab]at h)<;>(try simp -dsimp only[go_sem,seval,h71,h76,hE2,hre,hle,hci,hL2,hrl,hll,hcj,hz0,ht1,ht2,hd1,hd2,zoH])
       ·have hnp:g.isPair i j=false:=by
         cases hp:g.isPair i j
         ·rfl
         ·obtain⟨k1,k2,k3,k4,k5⟩:=Gr.isPair_iff.1 hp;exact absurd h (k4)
        rw[hnp]at hsucc;simp only[zG,if_false,List.append_nil]at hsucc;rw[hsucc];exact⟨by omega,by simp -dsimp only[go_sem,seval,h76,hw2],by simp -dsimp only[go_sem,seval,hE2],by simp -dsimp only[go_sem,seval,hL2],by(try simp -dsimp only[go_sem,seval]);exact hO2.le (by(try simp -dsimp only[go_sem,seval])<;>omega),by(try simp -dsimp only[go_sem,seval])<;>omega⟩
       ·have hti:g.thr i<g.nt:=by
         have hszp:0<g.sz:=by
          apply Classical.byContradiction;intro h;have:g.sz=0:=by omega
          rw[this]at hml;omega
         rw[Gr.thr,Nat.div_lt_iff_lt_mul hszp,<- hml];exact hic
        have ht4:((g.thr i:Int)<4)=True:=by have:=ha.nt4;simp;omega
        have hqr:=zku g (t:=g.thr i) (by have:=ha.nt4;omega) (hg.qk_row _ hti);have hql:=hg.qk_row _ hti;have hl:=zeg g;have hc1:(64<=(List.drop (g.thr i*64) (List.drop 256 (restT g))).length)=True:=by have:=ha.nt4;simp[hl];omega
        have hqb: ∀x∈g.qk.getD (g.thr i) [],x<2^64:=by
         intro x hx;obtain⟨n,hn,rfl⟩:=List.mem_iff_getElem.1 hx;have:=hg.qk_lt (g.thr i) n;rw[Gr.qkAt,List.getD_eq_getElem?_getD,zI hn]at this;exact this
        have hmd:=zg4 (g.maskF g.ear i g.all.length) (g.maskF g.lat j g.all.length) _ hql (Gr.maskF_lt hg _ _ _ (Nat.le_refl _)) (Gr.maskF_lt hg _ _ _ (Nat.le_refl _)) hqb;have htt:=zij H2 1000 (g.qk.getD (g.thr i) []);have hlr:(arr (g.qk.getD (g.thr i) [])).length=64:=by rw[zbb,hql]
        have hpr:g.isPair i j=meetsM (g.maskF g.ear i g.all.length) (g.maskF g.lat j g.all.length) (g.qk.getD (g.thr i) []):=by
         unfold Gr.isPair Gr.eaM Gr.laM
         simp_all
        have ear:arr (g.qk.getD (g.thr i) [])=List.map V.t (List.map (fun x:Nat=>T.int .u64 x) (g.qk.getD (g.thr i) [])):=by simp[arr]
        have hmd2:Den Γ G 320 [.t (.int .u64 (g.maskF g.ear i g.all.length)),.t (.int .u64 (g.maskF g.lat j g.all.length)),.agg (List.map V.t (List.map (fun x:Nat=>T.int .u64 x) (g.qk.getD (g.thr i) [])))]=some (vb (g.isPair i j)):=by
         rw[hpr,<- ear];exact hmd
        simp -dsimp only[go_sem,seval,ht4,hc1,hqr,htt,hlr,hmd2];cases hp:g.isPair i j
        ·rw[hp]at hsucc;simp only[zG,if_false,List.append_nil]at hsucc;rw[hsucc];simp -dsimp only[go_sem,seval,h76];exact⟨by omega,by simp -dsimp only[go_sem,seval,h76,hw2],by simp -dsimp only[go_sem,seval,hE2],by simp -dsimp only[go_sem,seval,hL2],by(try simp -dsimp only[go_sem,seval]);exact hO2.le (by(try simp -dsimp only[go_sem,seval])<;>omega),by(try simp -dsimp only[go_sem,seval])<;>omega⟩
        ·rw[hp,if_pos rfl]at hsucc;have v1:=hO2.valOf;have v3:=hO2.r5
         have hln:(rowsP (g.pairsN i++g.pairsI i j)).length<2^32:=by
          rw[zkm,List.length_append];have h1:=Gr.pairsN_len (g:=g) i;have h2:=Gr.pairsI_len (g:=g) i j;have h3:i*g.msk.length<=288*288:=Nat.mul_le_mul (by omega) (by omega);omega
         simp -dsimp only[go_sem,seval,h71,h76,v1,v3];refine zas (hO2.upd (by omega) _) (by omega) hln (by decide) rfl (rowsP_all _) ?_;intro v hp hO hoffs hkeep;have w1:=hO.valOf;have y6:=hkeep 6 (by omega) (hO2.offR hE2 (by decide));have y12:=hkeep 12 (by omega) (hO2.offR hL2 (by decide));rw[zac,if_neg (by omega),hE2]at y6;rw[zac,if_neg (by omega),hL2]at y12;rw[show [[V.t (T.int IntKind.i64 (i:Int)),V.t (T.int IntKind.i64 (j:Int))]]=rowsP [(i,j)]from rfl,zkn,List.append_assoc,<- hsucc]at hO;simp -dsimp only[go_sem,seval,w1,h76];exact⟨by omega,by simp -dsimp only[go_sem,seval,h76,hw2],by simp -dsimp only[go_sem,seval,y6],by simp -dsimp only[go_sem,seval,y12],by(try simp -dsimp only[go_sem,seval]);exact hO.le (by(try simp -dsimp only[go_sem,seval])<;>omega),by(try simp -dsimp only[go_sem,seval])<;>omega⟩
   ·have hjn:j=g.msk.length:=by omega
    subst hjn;rw[<- Gr.pairsN_succ]at hO2;simp -dsimp only[go_sem,seval,h71];exact⟨by omega,by simp -dsimp only[go_sem,seval,hw],by simp -dsimp only[go_sem,seval,hE2],by simp -dsimp only[go_sem,seval,hL2],by(try simp -dsimp only[go_sem,seval]);exact hO2.le (by(try simp -dsimp only[go_sem,seval])<;>omega),by(try simp -dsimp only[go_sem,seval])<;>omega⟩
  ·have hin:i=g.msk.length:=by omega
   subst hin;rw[Gr.pairsN_all]at hO;have v1:=hO.valOf;have hre:=hO.reify (pair_norm _);have v5:=hO.resVal;simp only[Rg.resVal]at v5;simp -dsimp only[go_sem,seval,v1,v5];exact hre
end Rg
end
section
namespace Rg
open Go
def idxC (l:List Int) (v:Int):Int:=match l.findIdx? (fun x=>decide (x=v))with
 | some i=>i
 | none=> -1
theorem zen {l:List Int} {v:Int} {i:Nat} (h:l[i]? =some v) (hn: ∀j,j<i->l[j]? ≠some v):idxC l v=i:=by
 have hi:=(zH.1 h).1
 have:l.findIdx? (fun x=>decide (x=v))=some i:=by
  rw[List.findIdx?_eq_some_iff_getElem];refine⟨hi,by simpa using(zH.1 h).2,fun j hj=> ?_⟩;have:=hn j hj;rw[zI (by omega)]at this;simpa using this
 rw[idxC,this]
theorem zhb {l:List Int} {v:Int} (hn: ∀j,j<l.length->l[j]? ≠some v):idxC l v= -1:=by
 have:l.findIdx? (fun x=>decide (x=v))=none:=by
  rw[List.findIdx?_eq_none_iff];intro x hx;obtain⟨j,hj⟩:=List.getElem?_of_mem hx;have:=hn j (zH.1 hj).1;rw[hj]at this;simpa using this
 rw[idxC,this]
theorem znb (l:List Int) (v:Int):decide (idxC l v>=0)=l.contains v:=by
 unfold idxC
 cases h:l.findIdx? (fun x=>decide (x=v))with
 | some i=>
   have hm:v∈l:=by
    rw[List.findIdx?_eq_some_iff_getElem]at h;obtain⟨h1,h2,_⟩:=h;exact(by simpa using h2:l[i]=v)▸List.getElem_mem h1
   simp[hm]
 | none=>
   have hm:v∉ l:=by
    intro hm;rw[List.findIdx?_eq_none_iff]at h;have:=h v hm;simp at this
   simp[hm]
theorem zjx (l:List Int) (v:Int) (hl:l.length<2^40):Den Γ G 207 [.t (ints l),vi v]=some (vi (idxC l v)):=by
 (refine den_ofY Γ207 rfl ?_;dsimp only[f207])
 simp -dsimp only[go_sem,seval];refine zaz 524080 l.length (fun i f=>(f 8).v=vi i/\ ∀j,j<i->l[j]? ≠some v) rfl rfl ⟨by simp -dsimp only[go_sem,seval],fun j hj=>by omega⟩ ?_;rintro i f u kk bb hi ⟨h8,hn⟩;have hw:=zah i (by omega);simp -dsimp only[go_sem,seval,h8];refine csplit (fun h=> ?_) (fun h=> ?_)<;>(try rw[h])<;>(try simp only[zab]at h)<;>(try simp -dsimp only[go_sem,seval,h8])
 ·obtain⟨y,hy,_⟩:=zaf ‹i<l.length›;simp -dsimp only[go_sem,seval,h8,hy];refine csplit (fun h=> ?_) (fun h=> ?_)<;>(try rw[h])<;>(try simp only[zab]at h)<;>(try simp -dsimp only[go_sem,seval,h8])
  ·rw[zen (by rw[hy,h]) hn]
  ·refine⟨by omega,by simp -dsimp only[go_sem,seval,hw],fun j hj=> ?_⟩;rcases Nat.lt_or_ge j i with h1 | h1
   ·exact hn j h1
   ·have:j=i:=by omega
    subst this;rw[hy];intro he;cases he;exact absurd rfl h
 ·have:i=l.length:=by omega
  subst this;rw[zhb hn]
theorem zbB (l:List Int) (v:Int) (hl:l.length<2^40):Den Γ G 206 [.t (ints l),vi v]=some (vb (l.contains v)):=by
 (refine den_ofY Γ206 rfl ?_;dsimp only[f206])
 have h1:=zjx l v hl;have h2:=znb l v;simp -dsimp only[go_sem,seval,h1,h2]
theorem zht (t i:Nat) (s:Step) (l:List Int):(accsC t i s l).length<=2*l.length:=by
 induction l with
 | nil=>simp[accsC]
 | cons c l ih=>
   have e:accsC t i s (c::l)=((if c∈readsM s then [⟨t,i,c.toNat,false⟩]else [])++(if c∈writesM s then [⟨t,i,c.toNat,true⟩]else []))++accsC t i s l:=rfl;rw[e,List.length_append,List.length_append,List.length_cons];have h1:(if c∈readsM s then [(⟨t,i,c.toNat,false⟩:Acc)]else []).length<=1:=by split<;>simp
   have h2:(if c∈writesM s then [(⟨t,i,c.toNat,true⟩:Acc)]else []).length<=1:=by split<;>simp
   omega
theorem zkQ (p:Prog) (t:Int):(ofM p t).length<=p.cells.length:=by unfold ofM zsT;exact ziT _ _ _
theorem zjV (t i:Nat) (s:Step) {l:List Int} {j:Nat} {c:Int} (h:l[j]? =some c):accsC t i s (l.take (j+1))=accsC t i s (l.take j)++((if c∈readsM s then [⟨t,i,c.toNat,false⟩]else [])++(if c∈writesM s then [⟨t,i,c.toNat,true⟩]else [])):=by
 rw[zae h];simp[accsC]
theorem zfT (p:Prog) (t:Nat) {l:List Step} {i:Nat} {s:Step} (h:l[i]? =some s):accsT p t l (i+1)=accsT p t l i++accsS p t i s:=by
 have hi:=(zH.1 h).1;unfold accsT;rw[zae h,List.zipIdx_append,List.flatMap_append];have:(l.take i).length=i:=by simp;omega
 simp[this]
theorem zfU (p:Prog) {k:Nat} {x:Thread} (h:p.threads[k]? =some x):accsN p (k+1)=accsN p k++accsT p k x.steps x.steps.length:=by
 have hi:=(zH.1 h).1;unfold accsN;rw[zae h,List.zipIdx_append,List.flatMap_append];have:(p.threads.take k).length=k:=by simp;omega
 simp[this]
theorem zl5 (p:Prog) (hc:p.cells.length<=32) (t i:Nat) (s:Step):(accsS p t i s).length<=64:=by
 unfold accsS;split
 ·simp
 ·have h1:=zht t i s (ofM p (-1));have h2:=zkQ p (-1);omega
theorem zdH (p:Prog) (hc:p.cells.length<=32) (t:Nat) (l:List Step): ∀i,i<=l.length->(accsT p t l i).length<=64*i
 | 0,_=>by simp[accsT]
 | i+1,h=>by
   obtain⟨s,hs,_⟩:=zaf (show i<l.length by omega);rw[zfT p t hs,List.length_append];have h1:=zdH p hc t l i (by omega);have h2:=zl5 p hc t i s;omega
theorem zb9 (p:Prog) (hc:p.cells.length<=32) (hs: ∀x∈p.threads,x.steps.length<=64): ∀k,k<=p.threads.length->(accsN p k).length<=4096*k
 | 0,_=>by simp[accsN]
 | k+1,h=>by
   obtain⟨x,hx,hxm⟩:=zaf (show k<p.threads.length by omega);rw[zfU p hx,List.length_append];have h1:=zb9 p hc hs k (by omega);have h2:=zdH p hc k x.steps _ (Nat.le_refl _);have h3:=hs x hxm;omega
def rowsA (l:List Acc):List (List V):=(l.map Acc.enc).map (·.map V.t)
theorem zgJ (l:List Acc):(rowsA l).length=l.length:=by simp[rowsA]
theorem rowsA_all (l:List Acc):((rowsA l).all fun r=>decide (r.length=4))=true:=by simp[rowsA,Acc.enc]
theorem zb1 (l:List Acc) (t k:Nat) (c:Int) (w:Bool) (hc:0<=c):rowsA l++[[V.t (T.int .i64 t),V.t (T.int .i64 k),V.t (T.int .i64 c),V.t (T.bool w)]]=rowsA (l++[⟨t,k,c.toNat,w⟩]):=by
 have:((c.toNat:Nat):Int)=c:=by omega
 simp[rowsA,Acc.enc,this]
theorem acc_norm (l:List Acc): ∀e∈l.map Acc.enc,∀t∈e,T.norm t=t:=by
 intro e he t ht;obtain⟨x,_,rfl⟩:=List.mem_map.1 he;simp only[Acc.enc,List.mem_cons,List.not_mem_nil,or_false]at ht;rcases ht with rfl | rfl | rfl | rfl<;>rfl
set_option maxHeartbeats 2000000
theorem znL (p:Prog) (hp:p.ok) (hset: ∀x∈p.threads,∀s∈x.steps,s.set.length<2^20):
 Den Γ G 307 [(.agg [.t (.sl ((p).cells.map (Cell.enc))),.t (.sl ((p).modules.map (Contract.enc))),.t (.sl ((p).locks.map (Lock.enc))),.t (.sl ((p).threads.map (Thread.enc)))])]=some (.t (.sl ((accsM p).map Acc.enc))):=by
 have hr:=ok_iff.1 hp;obtain⟨⟨l1,l2,l3,l4⟩,l5⟩:=limits_iff.1 hr.lim
 (refine den_ofY Γ307 rfl ?_;dsimp only[zrH])
 simp -dsimp only[go_sem,seval];refine zaj 4835703278458516698795000 p.threads.length (fun i f h x=>(f 15).v=vi i/\OwnB h x (f 3).v 4 (rowsA (accsN p i))) rfl ⟨by simp -dsimp only[go_sem,seval],.inl ⟨by simp -dsimp only[go_sem,seval],rfl⟩⟩ ?_;rintro i f u H z bs hi ⟨h15,hO⟩;have hw:=zah i (by omega);simp -dsimp only[go_sem,seval,h15];refine csplit (fun h=> ?_) (fun h=> ?_)<;>(try rw[h])<;>(try simp only[zab]at h)<;>(try simp -dsimp only[go_sem,seval,h15])
 ·obtain⟨x,hx,hxm⟩:=zaf ‹i<p.threads.length›;have hxs:=(l5 x hxm).2.1;simp -dsimp only[go_sem,seval,h15,hx];refine zaj 2417851639229258341026760 x.steps.length (fun j f h y=>(f 23).v=vi j/\OwnB h y (f 3).v 4 (rowsA (accsN p i++accsT p i x.steps j))) rfl ⟨by simp -dsimp only[go_sem,seval],by rw[show accsT p i x.steps 0=[]from rfl,List.append_nil];(try simp -dsimp only[go_sem,seval]);exact hO.le (by(try simp -dsimp only[go_sem,seval])<;>omega)⟩ ?_;rintro j f2 u2 H2 z2 bs2 hj ⟨h23,hO2⟩;have hw2:=zah j (by omega);simp -dsimp only[go_sem,seval,h23];refine csplit (fun h=> ?_) (fun h=> ?_)<;>(try rw[h])<;>(try simp only[zab]at h)<;>(try simp -dsimp only[go_sem,seval,h23])
  ·obtain⟨s,hs,hsm⟩:=zaf ‹j<x.steps.length›;have hsl:=hset x hxm s hsm;have hrd:=zkz s hsl;have hwd:=zjc s (by omega);have hsucc:=zfT p i hs
   have htg:s.kind=6\/s.kind=7->0<=s.target/\s.target<p.threads.length:=by
    intro hk;have ht:=hr.threads _ x hx;rw[threadErr_iff]at ht;obtain⟨hb,_,hset,hko⟩:=stepErr_iff.1 (ht.2.2.2.2.2.1 _ s hs)
    have hj:joinOk p i s=true:=by
     unfold kindOk at hko;rcases hk with hk | hk<;>rw[hk]at hko<;>simp at hko
     ·exact hko.1
     ·exact hko
    simp only[joinOk,inR,zF,decide_eq_true_eq]at hj;omega
   have v1:=hO2.valOf;have v2:=hO2.r2;have v3:=hO2.r3;have v4:=hO2.r4;have v5:=hO2.r5
   have hln:(rowsA (accsN p i++accsT p i x.steps j)).length<2^32:=by
    rw[zgJ,List.length_append];have h1:=zb9 p l1 (fun x hx=>(l5 x hx).2.1) i hi;have h2:=zdH p l1 i x.steps j hj;omega
   simp -dsimp only[go_sem,seval,h23,hs];refine csplit (fun h=> ?_) (fun h=> ?_)<;>(try rw[h])<;>(try simp only[zab]at h)<;>(try simp -dsimp only[go_sem,seval,h23])
   ·have hk67:s.kind=6\/s.kind=7:=by omega
    obtain⟨t0,t1⟩:=htg hk67;have hac:accsS p i j s=[⟨i,j,p.cells.length+s.target.toNat,true⟩]:=by unfold accsS;rw[if_pos hk67]
    have hadd:IntKind.i64.wrap ((p.cells.length:Int)+s.target)=((p.cells.length+s.target.toNat:Nat):Int):=by rw[zan (by omega)];omega
    simp -dsimp only[go_sem,seval,h15,h23,v1,v2,v3,v4,v5,hadd];refine zas (hO2.upd (by omega) _) (by omega) hln (by decide) rfl (rowsA_all _) ?_;intro v hp hO hoffs hkeep;have w1:=hO.valOf;rw[zb1 _ i j _ true (by omega),show((p.cells.length+s.target.toNat:Nat):Int).toNat=p.cells.length+s.target.toNat by omega,List.append_assoc,<- hac,<- hsucc]at hO;simp -dsimp only[go_sem,seval,w1,h23];refine⟨by omega,by simp -dsimp only[go_sem,seval,h23,hw2],?_⟩;simp -dsimp only[go_sem,seval];refine hO.le ?_;omega
   ·refine csplit (fun h=> ?_) (fun h=> ?_)<;>(try rw[h])<;>(try simp only[zab]at h)<;>(try simp -dsimp only[go_sem,seval,h23])
    ·have hk67:s.kind=6\/s.kind=7:=by omega
     obtain⟨t0,t1⟩:=htg hk67;have hac:accsS p i j s=[⟨i,j,p.cells.length+s.target.toNat,true⟩]:=by unfold accsS;rw[if_pos hk67]
     have hadd:IntKind.i64.wrap ((p.cells.length:Int)+s.target)=((p.cells.length+s.target.toNat:Nat):Int):=by rw[zan (by omega)];omega
     simp -dsimp only[go_sem,seval,h15,h23,v1,v2,v3,v4,v5,hadd];refine zas (hO2.upd (by omega) _) (by omega) hln (by decide) rfl (rowsA_all _) ?_;intro v hp hO hoffs hkeep;have w1:=hO.valOf;rw[zb1 _ i j _ true (by omega),show((p.cells.length+s.target.toNat:Nat):Int).toNat=p.cells.length+s.target.toNat by omega,List.append_assoc,<- hac,<- hsucc]at hO;simp -dsimp only[go_sem,seval,w1,h23];refine⟨by omega,by simp -dsimp only[go_sem,seval,h23,hw2],?_⟩;simp -dsimp only[go_sem,seval];refine hO.le ?_;omega
    ·have hk67: ¬(s.kind=6\/s.kind=7):=by omega
     have hac:accsS p i j s=accsC i j s (ofM p (-1)):=by unfold accsS;rw[if_neg hk67]
     have hsh:=zgF p (by omega);have hLl:=zkQ p (-1)
     have hL0: ∀c∈ofM p (-1),0<=c:=by
      intro c hc;rw[zk1,zcz]at hc;exact hc.1
     rw[hac]at hsucc;simp -dsimp only[go_sem,seval,hrd,hwd,hsh]
     generalize ofM p (-1)=L at hLl hL0 hsucc
     have hln3: ∀(k:Nat) (l:List Acc),l.length<=1->(rowsA (accsN p i++accsT p i x.steps j++accsC i j s (L.take k)++l)).length<2^32:=by
      intro k l hl;rw[zgJ,List.length_append,List.length_append,List.length_append];have h1:=zb9 p l1 (fun x hx=>(l5 x hx).2.1) i hi;have h2:=zdH p l1 i x.steps j hj;have h3:=zht i j s (L.take k);have h4:(L.take k).length<=L.length:=by simp;omega
      omega
     refine zaj 1208925783585832155744264 L.length (fun k f h y=>(f 55).v=vi k/\OwnB h y (f 3).v 4 (rowsA (accsN p i++accsT p i x.steps j++accsC i j s (L.take k)))) rfl ⟨by simp -dsimp only[go_sem,seval],by rw[show accsC i j s (L.take 0)=[]by simp[accsC],List.append_nil];(try simp -dsimp only[go_sem,seval]);exact hO2.le (by(try simp -dsimp only[go_sem,seval])<;>omega)⟩ ?_;rintro k f3 u3 H3 z3 bs3 hk ⟨h55,hO3⟩;have hw3:=zah k (by omega);simp -dsimp only[go_sem,seval,h55];refine csplit (fun h=> ?_) (fun h=> ?_)<;>(try rw[h])<;>(try simp only[zab]at h)<;>(try simp -dsimp only[go_sem,seval,h55])
     ·obtain⟨c,hc,hcm⟩:=zaf ‹k<L.length›;have hc0:=hL0 c hcm;have hcs:=zjV i j s hc;have hcn:((c.toNat:Nat):Int)=c:=by omega
      have hc1:=zbB (readsM s) c (by have h1:=zeu (readsL s s.set.length);have h2:=zdO s s.set.length;simp only[readsL,List.take_length]at h1 h2;unfold readsM;omega);have hc2:=zbB (writesM s) c (by have:=zeu (s.set.map Assign.cell);simp at this;unfold writesM;omega);have hlnk:(rowsA (accsN p i++accsT p i x.steps j++accsC i j s (L.take k))).length<2^32:=by simpa using hln3 k [] (by simp)
      have v1:=hO3.valOf;have v2:=hO3.r2;have v3:=hO3.r3;have v4:=hO3.r4;have v5:=hO3.r5;simp -dsimp only[go_sem,seval,h55,hc,hc1];cases hr1:(readsM s).contains c
      ·have hm1: ¬c∈readsM s:=by simpa using hr1
       rw[if_neg hm1,List.nil_append]at hcs;simp -dsimp only[go_sem,seval,h55,hc2];cases hr2:(writesM s).contains c
       ·have hm2: ¬c∈writesM s:=by simpa using hr2
        rw[if_neg hm2,List.append_nil]at hcs;simp -dsimp only[go_sem,seval,h55];refine⟨by omega,by simp -dsimp only[go_sem,seval,h55,hw3],?_⟩;rw[hcs]
        (try simp -dsimp only[go_sem,seval])
        refine hO3.le ?_;omega
       ·have hm2:c∈writesM s:=by simpa using hr2
        rw[if_pos hm2]at hcs;simp -dsimp only[go_sem,seval,h55,v1,v2,v3,v4,v5,h15,h23];refine zas (hO3.upd (by omega) _) (by omega) hlnk (by decide) rfl (rowsA_all _) ?_;intro v hp hO4 hoffs hkeep;have w1:=hO4.valOf;rw[zb1 _ i j _ true hc0,List.append_assoc,<- hcs]at hO4;simp -dsimp only[go_sem,seval,w1,h55];refine⟨by omega,by simp -dsimp only[go_sem,seval,h55,hw3],?_⟩;simp -dsimp only[go_sem,seval];refine hO4.le ?_;omega
      ·have hm1:c∈readsM s:=by simpa using hr1
       rw[if_pos hm1]at hcs;simp -dsimp only[go_sem,seval,h55,v1,v2,v3,v4,v5,h15,h23];refine zas (hO3.upd (by omega) _) (by omega) hlnk (by decide) rfl (rowsA_all _) ?_;intro v hp hO4 hoffs hkeep;have w1:=hO4.valOf;rw[zb1 _ i j _ false hc0]at hO4;simp -dsimp only[go_sem,seval,w1,h55,hc2];cases hr2:(writesM s).contains c
       ·have hm2: ¬c∈writesM s:=by simpa using hr2
        rw[if_neg hm2,List.append_nil]at hcs;simp -dsimp only[go_sem,seval,h55];refine⟨by omega,by simp -dsimp only[go_sem,seval,h55,hw3],?_⟩;rw[hcs];simp -dsimp only[go_sem,seval];rw[List.append_assoc]at hO4;refine hO4.le ?_;omega
       ·have hm2:c∈writesM s:=by simpa using hr2
        rw[if_pos hm2]at hcs;have hO5:=hO4.le (y:=z3+1+3+3+8) (by omega);have q2:=hO5.r2;simp -dsimp only[go_sem,seval,h55,w1,q2,h15,h23];refine zas (hO5.upd (by omega) _) (by omega) (hln3 k [_] (by simp)) (by decide) rfl (rowsA_all _) ?_;intro v' hp' hO6 hoffs' hkeep';have w2:=hO6.valOf;rw[zb1 _ i j _ true hc0,List.append_assoc,List.append_assoc,<- hcs]at hO6;simp -dsimp only[go_sem,seval,w2,h55];refine⟨by omega,by simp -dsimp only[go_sem,seval,h55,hw3],?_⟩;simp -dsimp only[go_sem,seval];refine hO6.le ?_;omega
     ·have:k=L.length:=by omega
      subst this;rw[List.take_length,List.append_assoc,<- hsucc]at hO3;simp -dsimp only[go_sem,seval,h23];refine⟨by omega,by simp -dsimp only[go_sem,seval,h23,hw2],?_⟩;simp -dsimp only[go_sem,seval];refine hO3.le ?_;omega
  ·have:j=x.steps.length:=by omega
   subst this;rw[<- zfU p hx]at hO2;simp -dsimp only[go_sem,seval,h15];exact⟨by omega,by simp -dsimp only[go_sem,seval,hw],by(try simp -dsimp only[go_sem,seval]);exact hO2.le (by(try simp -dsimp only[go_sem,seval])<;>omega)⟩
 ·have:i=p.threads.length:=by omega
  subst this;have v1:=hO.valOf;have hre:=hO.reify (acc_norm _);have v5:=hO.resVal;simp only[Rg.resVal]at v5;simp -dsimp only[go_sem,seval,v1,v5];exact hre
end Rg
end
