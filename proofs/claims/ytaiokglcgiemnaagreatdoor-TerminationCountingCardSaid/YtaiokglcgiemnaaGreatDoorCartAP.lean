/- Part of the proof of laws of relyguardlaw36. No condition. -/
import Derived.Test.YtaiokglcgiemnaaGreatDoorCartAN
import Derived.Test.YtaiokglcgiemnaaGreatDoorCartAO
import Derived.Lib.ItoaLen
import Derived.Test.YtaiokglcgiemnaaGreatDoorCartAL
set_option linter.unusedSimpArgs false
set_option linter.unusedVariables false
section
namespace Rg
open Go
def zAo (h:Nat->Option O) (lo x:Nat) (v:V) (l:List Int) (room:Nat):Prop:= ∃k,v= .ms k 0 l.length/\lo<=k/\k<x/\h k=some (.rows 1 (zw5 l++List.replicate room [zi]) false)
theorem zAo.valOf {h:Nat->Option O} {lo x:Nat} {v:V} {l:List Int} {room:Nat} (o:zAo h lo x v l room):valOf v=some v:=by obtain⟨k,rfl,_,_,_⟩:=o;rfl
theorem zAo.rows {h:Nat->Option O} {lo x:Nat} {v:V} {l:List Int} {room:Nat} (o:zAo h lo x v l room):Rg.rowsS h v=some (zw5 l):=by
 obtain⟨k,rfl,_,_,hk⟩:=o;unfold Rg.rowsS;simp only[hk,rd,Nat.zero_add,List.drop_zero];rw[if_pos (by simp[zw2]),List.take_append_of_le_length (by rw[zw2];exact Nat.le_refl _),List.take_of_length_le (by rw[zw2];exact Nat.le_refl _)]
theorem zAo.resVal {h:Nat->Option O} {lo x:Nat} {v:V} {l:List Int} {room:Nat} (o:zAo h lo x v l room):Rg.resVal v=some v:=by obtain⟨k,rfl,_,_,_⟩:=o;rfl
theorem zAo.reify {h:Nat->Option O} {lo x:Nat} {v:V} {l:List Int} {room:Nat} (o:zAo h lo x v l room):Rg.reify h v=some (.t (ints l)):=by
 obtain⟨k,rfl,_,_,hk⟩:=o;have h1:=zdD h 999 (l.map fun n=>[ti n]) (zxU _)
 have h2:toT h 1000 (.ms k 0 l.length)=some (ints l):=by
  rw[toT,hk];simp only[rd,Nat.zero_add,List.drop_zero];rw[if_pos (by simp[zw2]),List.take_append_of_le_length (by rw[zw2];exact Nat.le_refl _),List.take_of_length_le (by rw[zw2];exact Nat.le_refl _)];simp only[zC,zD];rw[show zw5 l=(l.map fun n=>[ti n]).map (·.map V.t)from rfl,h1];rfl
 simp only[Rg.reify,toT1,h2,Option.map_some]
theorem zhd {h:Nat->Option O} {lo x q room:Nat} {v:V} {l m:List Int} {K:V->List (Nat×O)->Prop} {w:WK K} (hv:zAo h lo x v l (m.length+room)) (hx:x<=q) (hl:l.length+m.length<=2^32)
 (hK: ∀v' hp,zAo (Av h hp) lo (q+1) v' (l++m) room->(∀j,j<lo->Av h hp j=h j)->K v' hp):zfo false (zyh h q 1 8 v (zw5 l) (zw5 m)) K w:=by
 unfold zyh;rw[if_pos ⟨⟨by rw[zw2,zw2];exact hl,by decide⟩,zxw _,zxw _⟩]
 cases m with
 | nil=>
   simp only[zw5,List.map_nil,List.isEmpty_nil,if_true,zbz];refine hK v [] ?_ (fun j _=>by rw[zar]);rw[List.append_nil];obtain⟨k,rfl,CK,hk,hh⟩:=hv
   exact⟨k,rfl,CK,by omega,by simpa[zar]using hh⟩
 | cons y m=>
   obtain⟨k,rfl,CK,hk,hh⟩:=hv;have he:(zw5 (y::m)).isEmpty=false:=rfl;simp only[he,hh,zG,if_false,and_self,if_true,zbz]
   have Np:zxY (zw5 l) (zw5 (y::m)) (zw5 l++List.replicate ((y::m).length+room) [zi])=zw5 (l++y::m)++List.replicate room [zi]:=by
    have e1:zw5 (l++y::m)=zw5 l++zw5 (y::m):=by simp[zw5]
    rw[e1];unfold zxY;split
    ·rename_i A4;simp only[zM,zw2,List.length_replicate]at A4;have:room=0:=by omega
     subst this;simp
    ·rw[List.drop_append,List.drop_of_length_le (by rw[zw2,zw2];omega),List.drop_replicate,zw2,zw2];rw[show(y::m).length+room-(l.length+(y::m).length-l.length)=room by omega,List.nil_append]
   refine hK _ [(k,.dead),(q,.rows 1 (zxY (zw5 l) (zw5 (y::m)) (zw5 l++List.replicate ((y::m).length+room) [zi])) false)] ⟨q,?_,by omega,by omega,?_⟩ (fun j hj=> ?_)
   ·rw[zw2,zw2,zM]
   ·rw[Np];have:q≠k:=by omega
    simp[zav,zar,zae]
   ·have h1:j≠q:=by omega
    have h2:j≠k:=by omega
    simp[zav,zar,zae,h1,h2]
theorem zCE (m:Nat) (h0:0<m) (h1:m<=2^31) (H:Nat->Option O) (n:Nat): ∃r h' n',DenR Γ G 368 [.t .nils,vi m] H n=some (r,h',n')/\(zAo h' n n' r [] m/\ ∀j,j<n->h' j=H j):=by
 have e1: ¬((m:Int)<0):=by omega
 have e2:(0:Int)<m:=by omega
 have e3:(m:Int)<=4294967296:=by omega
 have hw:IntKind.i64.wrap ((m:Int)-0)=m:=by rw[Int.sub_zero];exact zaj (by omega)
 have e4:(1:Int)<=m:=by omega
 (refine zxC Γ368 rfl ?_;dsimp only[zpP])
 simp -dsimp only[go_sem,seval,e1,e2,e3,e4,hw];refine⟨⟨_,rfl,by omega,by simp -dsimp only[go_sem];omega,by simp[zav,zar,zae,zw5]⟩,fun j hj=> ?_⟩;have:j≠n+1+2+8+2+5:=by omega
 simp[zav,zar,zae,this]
theorem zCg (n:Nat) (H:Nat->Option O): ∃r h' n',DenR Γ G 368 [.t .nils,vi 0] H n=some (r,h',n')/\(r= .t .nils/\h'=H):=by
 have hw:IntKind.i64.wrap (0-0)=0:=rfl
 (refine zxC Γ368 rfl ?_;dsimp only[zpP])
 simp -dsimp only[go_sem,seval,hw];exact⟨rfl,rfl⟩
theorem zBW (a b:List Int) (ha:a.length<2^20) (hb:b.length<2^20) (H:Nat->Option O) (n k:Nat) (va vb:V) (hk:H k=some (.rows 1 [[va],[vb]] false)) (G2:k<n)
 (oa:za0 H n va 1 (zw5 a)) (ob:za0 H n vb 1 (zw5 b)): ∃r h' n',DenR Γ G 350 [.ms k 0 2] H n=some (r,h',n')/\za0 h' n' r 1 (zw5 (a++b)):=by
 have w1:IntKind.i64.wrap (0+(a.length:Int))=a.length:=by rw[Int.zero_add];exact zaj (by omega)
 have w2:IntKind.i64.wrap ((a.length:Int)+b.length)=((a.length+b.length:Nat):Int):=by rw[Int.natCast_add];exact zaj (by omega)
 have e1: ¬((a.length:Int)<0):=by omega
 have e2: ¬(((a.length+b.length:Nat):Int)<0):=by omega
 have v1:=oa.valOf;have v2:=ob.valOf
 have l1:zBo H va=some a.length:=by rcases oa with⟨rfl,he⟩ | ⟨q,rfl,_,hq⟩
                                    ·have:a=[]:=by simpa[zw5]using he
                                     subst this;rfl
                                    ·simp[zBo,hq,zw2]
 have l2:zBo H vb=some b.length:=by rcases ob with⟨rfl,he⟩ | ⟨q,rfl,_,hq⟩
                                    ·have:b=[]:=by simpa[zw5]using he
                                     subst this;rfl
                                    ·simp[zBo,hq,zw2]
 (refine zxC Γ350 rfl ?_;dsimp only[zqV])
 simp -dsimp only[go_sem,seval,hk];refine zai ?_;simp -dsimp only[go_sem,seval,hk,v1,l1,w1,e1];refine zai ?_;simp -dsimp only[go_sem,seval,hk,v2,l2,w2,e2];refine zai ?_;simp -dsimp only[go_sem,seval]
 by_cases h0:a.length+b.length=0
 ·rw[h0];have Ja:a=[]:=List.eq_nil_of_length_eq_zero (by omega);have Cc:b=[]:=List.eq_nil_of_length_eq_zero (by omega);subst Ja Cc;refine zas (zCg _ _) ?_;rintro r h' n' ⟨rfl,rfl⟩;have r1:=oa.rowsS;have r2:=ob.rowsS;have e3:zw5 []=[]:=rfl;simp -dsimp only[go_sem,seval,hk];refine zai ?_;simp -dsimp only[go_sem,seval,hk,v1,r1,e3,zyh];refine zai ?_;simp -dsimp only[go_sem,seval,hk,v2,r2,e3,zyh];refine zai ?_;simp -dsimp only[go_sem,seval];exact .inl ⟨rfl,rfl⟩
 ·refine zas (zCE _ (by omega) (by omega) _ _) ?_;rintro r h' n' ⟨hP,As⟩;have q1:=hP.valOf;have q2:=hP.rows;have Ba:h' k=some (.rows 1 [[va],[vb]] false):=by rw[As k (by omega)];exact hk
  have oa1:za0 h' n va 1 (zw5 a):=oa.keep (Nat.le_refl _) fun j hj _=>As j (by omega)
  have ob1:za0 h' n vb 1 (zw5 b):=ob.keep (Nat.le_refl _) fun j hj _=>As j (by omega)
  have r1:=oa1.rowsS;simp -dsimp only[go_sem,seval,q1,Ba];refine zai ?_;simp -dsimp only[go_sem,seval,Ba,v1,q1,q2,r1];refine zhd hP (by omega) (by simp;omega) ?_;rintro v' hp L8 Ga;rw[List.nil_append]at L8;have q3:=L8.valOf;have q4:=L8.rows;have AX:Av h' hp k=some (.rows 1 [[va],[vb]] false):=by rw[Ga k (by omega)];exact Ba
  have ob2:za0 (Av h' hp) n vb 1 (zw5 b):=ob1.keep (Nat.le_refl _) fun j hj _=>Ga j (by omega)
  have r2:=ob2.rowsS;simp -dsimp only[go_sem,seval,q3,AX];refine zai ?_;simp -dsimp only[go_sem,seval,AX,v2,q3,q4,r2];refine zhd (room:=0) L8 (by omega) (by omega) ?_;rintro v' FL Nu MF;have q5:=Nu.valOf;have q6:=Nu.resVal;simp only[Rg.resVal]at q6;simp -dsimp only[go_sem,seval,q5];refine zai ?_;simp -dsimp only[go_sem,seval,q5,q6];obtain⟨kk,rfl,h1,h2,h3⟩:=Nu;exact .inr ⟨kk,by rw[zw2];rfl,by simp -dsimp only[go_sem];omega,by simpa using h3⟩
end Rg
end
section
namespace Rg
open Go
def wOf (p:Prog) (c:Int):Nat:=match p.cells[c.toNat]? with
 | some x=>x.w.toNat
 | none=>0
def stM (p:Prog):List Int->Int->List Int->List Int
 | [],_,s=>s
 | c::r,n,s=>stM p r (n/ 2^wOf p c) (s.set c.toNat (n % 2^wOf p c))
def zxf (p:Prog) (l:List Int):Nat:=(l.map (wOf p)).sum
theorem zgc {p:Prog}: ∀(l:List Int) (n:Int) (s:List Int),(stM p l n s).length=s.length
 | [],_,_=>rfl
 | c::r,n,s=>by rw[stM,zgc r];simp
def zA2 (p:Prog) (l:List Int) (A V:Expr) (x:List Int×Int) (n:Nat):List Int×Int:=
 (stM p l n x.1,if A.eval (stM p l n x.1) (stM p l n x.1)=1 then(if V.eval (stM p l n x.1) (stM p l n x.1)>x.2 then V.eval (stM p l n x.1) (stM p l n x.1)else x.2)else x.2)
def zxN (p:Prog) (l:List Int) (A V:Expr) (k:Nat):List Int×Int:=(List.range k).foldl (zA2 p l A V) (List.replicate p.cells.length 0,0)
def zoN (p:Prog) (l:List Int) (A V:Expr):Int:=(zxN p l A V (2^zxf p l)).2
theorem zc6 (p:Prog) (l:List Int) (A V:Expr) (k:Nat):zxN p l A V (k+1)=zA2 p l A V (zxN p l A V k) k:=by
 rw[zxN,List.range_succ,List.foldl_append];rfl
theorem ze5 (p:Prog) (l:List Int) (A V:Expr): ∀k,(zxN p l A V k).1.length=p.cells.length
 | 0=>by simp[zxN]
 | k+1=>by rw[zc6,zA2];simp only[zgc];exact ze5 p l A V k
def zxj (l:Loop) (a:Int):Bool:=decide (a=l.head)||l.body.contains a
def zA5 (t:Int) (x:Choice):Bool:=decide (x.thread=t)&&decide (x.step≠ -1)
structure It where
 c:Config
 best:Int
 arr:Int
def It.see (l:Loop) (s:It) (c':Config) (a:Int) (mv:Bool):It:=
 ⟨c',if(if !zxj l a then 0 else if mv&&decide (a=l.head)then s.arr+1 else s.arr)-1>s.best then(if !zxj l a then 0 else if mv&&decide (a=l.head)then s.arr+1 else s.arr)-1 else s.best,
   if !zxj l a then 0 else if mv&&decide (a=l.head)then s.arr+1 else s.arr⟩
def itS (nx:Config->Choice->Config) (t:Int) (l:Loop) (s:It) (x:Choice):It:=
 s.see l (nx s.c x) (atI (nx s.c x).at_ t) (zA5 t x||decide (atI s.c.at_ t= -1))
def it0 (t:Int) (l:Loop) (c:Config):It:=⟨c,0,if atI c.at_ t=l.head then 1 else 0⟩
def itM (nx:Config->Choice->Config) (t:Int) (l:Loop) (c:Config) (run:List Choice):It:=run.foldl (itS nx t l) (it0 t l c)
theorem zgq (nx:Config->Choice->Config) (t:Int) (l:Loop) (c:Config) (run:List Choice) (x:Choice):itM nx t l c (run++[x])=itS nx t l (itM nx t l c run) x:=by
 rw[itM,List.foldl_append];rfl
structure It.Ok (t:Int) (s:It) (n:Int):Prop where
 b0:0<=s.best
 a0:0<=s.arr
 ab:s.arr<=s.best+1
 bn:s.best<=n
 an:s.arr<=n+1
 az:atI s.c.at_ t= -1->s.arr=0
theorem It.Ok.init {t:Int} {l:Loop} {c:Config} (hl:l.head≠ -1):(it0 t l c).Ok t 0:=by
 refine⟨Int.le_refl _,?_,?_,Int.le_refl _,?_,fun h=> ?_⟩<;>simp only[it0]at * <;>(try split)<;>(try omega)
theorem It.Ok.step {nx:Config->Choice->Config} {t:Int} {l:Loop} {s:It} {n:Int} (h:s.Ok t n) (hl:zxj l (-1)=false) (x:Choice):
 (itS nx t l s x).Ok t (n+if zA5 t x then 1 else 0)/\s.best<=(itS nx t l s x).best/\(itS nx t l s x).best<=s.best+1:=by
 obtain⟨h1,h2,h3,h4,h5,h6⟩:=h
 generalize Bp:nx s.c x=c'
 generalize ha:atI c'.at_ t=a
 have Ab:(0:Int)<=(if zA5 t x=true then 1 else 0):=by split<;>omega
 have Fx:(zA5 t x||decide (atI s.c.at_ t= -1))=true->(zA5 t x=true\/s.arr=0):=by
  intro h;simp only[Bool.or_eq_true,decide_eq_true_eq]at h;exact h.imp id h6
 have FV:zxj l a=true->a≠ -1:=fun h e=>by rw[e,hl]at h;cases h
 simp only[itS,It.see,Bp,ha];cases hi:zxj l a
 ·simp only[Bool.not_false,if_true];refine⟨⟨?_,?_,?_,?_,?_,?_⟩,?_,?_⟩<;>(try dsimp only)<;>(try split)<;>(try omega)
 ·simp only[Bool.not_true,if_false,zG];cases hm:(zA5 t x||decide (atI s.c.at_ t= -1))&&decide (a=l.head)
  ·simp only[if_false,zG];refine⟨⟨?_,?_,?_,?_,?_,fun e=>absurd (ha.symm.trans e) (FV hi)⟩,?_,?_⟩<;>(try dsimp only)<;>(try split)<;>(try omega)
  ·simp only[if_true];simp only[zF]at hm;have GP:=Fx hm.1;refine⟨⟨?_,?_,?_,?_,?_,fun e=>absurd (ha.symm.trans e) (FV hi)⟩,?_,?_⟩<;>(try dsimp only)
   all_goals(rcases GP with GP | GP<;>(try rw[GP])<;>(try simp only[if_true])<;>(try split)<;>omega)
def zyr (p:Prog) (t j:Int):Bool:=zw6 p&&(decide (0<=t)&&(decide (0<=j)&&match p.threads[t.toNat]? with
 | some x=>decide (j<x.loops.length)
 | none=>false))
theorem zjS {p:Prog} {t j:Int} (h:zyr p t j=true):zw6 p=true/\ ∃(tn jn:Nat) (x:Thread) (l:Loop),t=tn/\j=jn/\p.threads[tn]? =some x/\x.loops[jn]? =some l:=by
 simp only[zyr,zF,decide_eq_true_eq]at h;obtain⟨h1,h2,h3,h4⟩:=h;refine⟨h1,t.toNat,j.toNat,?_⟩
 cases hx:p.threads[t.toNat]? with
 | none=>rw[hx]at h4;cases h4
 | some x=>
   rw[hx]at h4;have hj:j.toNat<x.loops.length:=by simp only[decide_eq_true_eq]at h4;omega
   exact⟨x,x.loops[j.toNat],by omega,by omega,rfl,zI hj⟩
theorem zm6 (p:Prog) (hs:p.sane) (t j:Int):Den Γ G 348 [(zP p),vi t,vi j]=some (vb (zyr p t j)):=by
 have h1:=ze4 p hs
 (refine zw3 Γ348 rfl ?_;dsimp only[zqX])
 cases hf:zw6 p
 ·rw[hf]at h1;have:zyr p t j=false:=by simp[zyr,hf]
  rw[this];simp -dsimp only[go_sem,seval,h1]
 ·rw[hf]at h1
  by_cases ht:0<=t
  ·obtain⟨n,rfl⟩: ∃n:Nat,t=n:=⟨t.toNat,by omega⟩
   have e0:((n:Int)>=0):=by omega
   by_cases hn:n<p.threads.length
   ·have Kl:((n:Int)<(p.threads.length:Int)):=by omega
    have hx:=zI hn
    generalize p.threads[n]=x at hx
    have:zyr p n j=(decide (0<=j)&&decide (j<x.loops.length)):=by simp[zyr,hf,hx]
    rw[this]
    by_cases hj:j>=0
    ·have Dz:0<=j:=hj;simp -dsimp only[go_sem,seval,h1,e0,Kl,hj,Dz,hx]
    ·have Dz: ¬0<=j:=hj;simp -dsimp only[go_sem,seval,h1,e0,Kl,hj,Dz,Bool.false_and]
   ·have Kl: ¬((n:Int)<(p.threads.length:Int)):=by omega
    have hx:p.threads[n]? =none:=List.getElem?_eq_none (by omega);have:zyr p n j=false:=by simp[zyr,hf,hx]
    rw[this];simp -dsimp only[go_sem,seval,h1,e0,Kl]
  ·have e0: ¬(t>=0):=ht;have:zyr p t j=false:=by simp[zyr,ht]
   rw[this];simp -dsimp only[go_sem,seval,h1,e0]
theorem zjT (p:Prog) (hl:p.lite) (t j:Int):Den Γ G 335 [(zP p),vi t,vi j]=some (vb (zBT p&&zyr p t j)):=by
 have h1:=zna p hl.steps
 (refine zw3 Γ335 rfl ?_;dsimp only[zq0])
 cases hf:zBT p
 ·rw[hf]at h1;simp -dsimp only[go_sem,seval,h1,Bool.false_and]
 ·rw[hf]at h1;have h2:=zm6 p (zBC hl hf) t j;simp -dsimp only[go_sem,seval,h1,h2,Bool.true_and]
theorem zeE (p:Prog) (hs:p.sane) (hf:zw6 p=true) {t j:Nat} {x:Thread} {l:Loop} (hx:p.threads[t]? =some x) (hl:x.loops[j]? =some l):Den Γ G 349 [(zP p),vi t,vi j]=some (vb true):=by
 have h1:=zbM p hs;have h0:(zxL p).1=0:=by simpa[zw6]using hf
 have e1:((t:Int)>=0):=by omega
 have e2:((j:Int)>=0):=by omega
 have e3:((t:Int)<(p.threads.length:Int)):=by have:=(zH.1 hx).1;omega
 have e4:((j:Int)<(x.loops.length:Int)):=by have:=(zH.1 hl).1;omega
 (refine zw3 Γ349 rfl ?_;dsimp only[zqW])
 simp -dsimp only[go_sem,seval,h1,h0,e1,e2,e3,e4,hx]
theorem zmS (a b:Entry) (ha:a.cells.length<2^20) (hb:b.cells.length<2^20):
 Den Γ G 384 [.agg [.t (ints a.cells),.t (ints a.values)],.agg [.t (ints b.cells),.t (ints b.values)]]=some (vb (zAr a b)):=by
 (refine zw3 Γ384 rfl ?_;dsimp only[zqL])
 simp -dsimp only[go_sem,seval];refine zaq 4294967280 a.cells.length (fun i f=>(f 5).v=vi i/\ ∀c∈a.cells.take i,c∉ b.cells) rfl rfl ⟨by simp -dsimp only[go_sem,seval],by simp⟩ ?_;rintro i f u x bs hi ⟨h5,Bs⟩;have hw:=zag i (by omega);simp -dsimp only[go_sem,seval,h5];refine zw1 (fun h=> ?_) (fun h=> ?_)<;>(try rw[h])<;>(try simp only[zab]at h)<;>(try simp -dsimp only[go_sem,seval,h5])
 ·obtain⟨c,hc,B9⟩:=zad ‹i<a.cells.length›;refine zaq 4294950992 b.cells.length (fun k f=>(f 6).v=vi k/\ ∀d∈b.cells.take k,d≠c) rfl rfl ⟨by simp -dsimp only[go_sem,seval],by simp⟩ ?_;rintro k f2 u2 x2 bs2 hk ⟨h6,Io⟩;have C4:=zag k (by omega);simp -dsimp only[go_sem,seval,h6];refine zw1 (fun h=> ?_) (fun h=> ?_)<;>(try rw[h])<;>(try simp only[zab]at h)<;>(try simp -dsimp only[go_sem,seval,h6,h5])
  ·obtain⟨d,hd,IP⟩:=zad ‹k<b.cells.length›
   by_cases KK:c=d
   ·have hm:zAr a b=true:=by
     simp only[zAr,List.any_eq_true];exact⟨d,IP,by simpa[KK]using KK▸B9⟩
    rw[hm];simp -dsimp only[go_sem,seval,h5,h6,hc,hd,KK]
   ·simp -dsimp only[go_sem,seval,h5,h6,hc,hd,KK];refine⟨by omega,by simp -dsimp only[go_sem,seval,C4],?_⟩;intro e he;rw[zac hd,List.mem_append]at he;rcases he with he | he
    ·exact Io e he
    ·simp only[List.mem_singleton]at he;subst he;exact Ne.symm KK
  ·have:k=b.cells.length:=by omega
   subst this;rw[List.take_length]at Io;refine⟨by omega,by simp -dsimp only[go_sem,seval,hw],?_⟩;intro e he;rw[zac hc,List.mem_append]at he;rcases he with he | he
   ·exact Bs e he
   ·simp only[List.mem_singleton]at he;subst he;exact fun Bi=>Io e Bi rfl
 ·have:i=a.cells.length:=by omega
  subst this;rw[List.take_length]at Bs
  have hm:zAr a b=false:=by
   simp only[zAr,List.any_eq_false];intro d hd;simp only[List.contains_eq_mem,decide_eq_true_eq];exact fun h=>Bs d h hd
  rw[hm]
def zC3 (l:List Int) (v:Int):Int:=match l.findIdx? (fun x=>decide (x=v))with
 | some i=>i
 | none=> -1
theorem zoy {l:List Int} {v:Int} {i:Nat} (h:l[i]? =some v) (hn: ∀j,j<i->l[j]? ≠some v):zC3 l v=i:=by
 have hi:=(zH.1 h).1
 have:l.findIdx? (fun x=>decide (x=v))=some i:=by
  rw[List.findIdx?_eq_some_iff_getElem];refine⟨hi,by simpa using(zH.1 h).2,fun j hj=> ?_⟩;have:=hn j hj;rw[zI (by omega)]at this;simpa using this
 rw[zC3,this]
theorem zm5 {l:List Int} {v:Int} (hn: ∀j,j<l.length->l[j]? ≠some v):zC3 l v= -1:=by
 have:l.findIdx? (fun x=>decide (x=v))=none:=by
  rw[List.findIdx?_eq_none_iff];intro x hx;obtain⟨j,hj⟩:=List.getElem?_of_mem hx;have:=hn j (zH.1 hj).1;rw[hj]at this;simpa using this
 rw[zC3,this]
theorem zoz (l:List Int) (v:Int):decide (zC3 l v>=0)=l.contains v:=by
 unfold zC3
 cases h:l.findIdx? (fun x=>decide (x=v))with
 | some i=>
   have hm:v∈l:=by
    rw[List.findIdx?_eq_some_iff_getElem]at h;obtain⟨h1,h2,_⟩:=h;exact(by simpa using h2:l[i]=v)▸List.getElem_mem h1
   simp[hm]
 | none=>
   have hm:v∉ l:=by
    intro hm;rw[List.findIdx?_eq_none_iff]at h;have:=h v hm;simp at this
   simp[hm]
theorem zkd (l:List Int) (v:Int) (hl:l.length<2^40):Den Γ G 207 [.t (ints l),vi v]=some (vi (zC3 l v)):=by
 (refine zw3 Γ207 rfl ?_;dsimp only[f207])
 simp -dsimp only[go_sem,seval];refine zaq 524080 l.length (fun i f=>(f 8).v=vi i/\ ∀j,j<i->l[j]? ≠some v) rfl rfl ⟨by simp -dsimp only[go_sem,seval],fun j hj=>by omega⟩ ?_;rintro i f u kk bb hi ⟨h8,hn⟩;have hw:=zag i (by omega);simp -dsimp only[go_sem,seval,h8];refine zw1 (fun h=> ?_) (fun h=> ?_)<;>(try rw[h])<;>(try simp only[zab]at h)<;>(try simp -dsimp only[go_sem,seval,h8])
 ·obtain⟨y,hy,_⟩:=zad ‹i<l.length›;simp -dsimp only[go_sem,seval,h8,hy];refine zw1 (fun h=> ?_) (fun h=> ?_)<;>(try rw[h])<;>(try simp only[zab]at h)<;>(try simp -dsimp only[go_sem,seval,h8])
  ·rw[zoy (by rw[hy,h]) hn]
  ·refine⟨by omega,by simp -dsimp only[go_sem,seval,hw],fun j hj=> ?_⟩;rcases Nat.lt_or_ge j i with h1 | h1
   ·exact hn j h1
   ·have:j=i:=by omega
    subst this;rw[hy];intro he;cases he;exact absurd rfl h
 ·have:i=l.length:=by omega
  subst this;rw[zm5 hn]
theorem zcx (l:List Int) (v:Int) (hl:l.length<2^40):Den Γ G 206 [.t (ints l),vi v]=some (vb (l.contains v)):=by
 (refine zw3 Γ206 rfl ?_;dsimp only[f206])
 have h1:=zkd l v hl;have h2:=zoz l v;simp -dsimp only[go_sem,seval,h1,h2]
theorem ziz (l:List Entry) (e:Entry) (hl:l.length<2^40) (he:e.cells.length<2^40) (hc: ∀o∈l,o.cells.length<2^40):
 Den Γ G 201 [.t (.sl (l.map Entry.enc)),.agg [.t (ints e.cells),.t (ints e.values)]]=some (vb (zyb l e)):=by
 (refine zw3 Γ201 rfl ?_;dsimp only[f201])
 simp -dsimp only[go_sem,seval];refine zaq 268433744 l.length (fun i f=>(f 11).v=vi i/\zyb l e=(l.drop i).any fun o=>zAr o e) rfl rfl ⟨by simp -dsimp only[go_sem,seval],rfl⟩ ?_;rintro i f u kk bb hi ⟨Bf,A3⟩;have hw:=zag i (by omega);simp -dsimp only[go_sem,seval,Bf];refine zw1 (fun h=> ?_) (fun h=> ?_)<;>(try rw[h])<;>(try simp only[zab]at h)<;>(try simp -dsimp only[go_sem,seval,Bf])
 ·obtain⟨y,hy,GD⟩:=zad ‹i<l.length›;have J5:=hc y GD;simp -dsimp only[go_sem,seval,Bf,hy,Entry.enc];refine zaq 133955856 e.cells.length (fun j f'=>(f' 18).v=vi j/\(e.cells.take j).any (fun n=>y.cells.contains n)=false) rfl rfl ⟨by simp -dsimp only[go_sem,seval],by simp⟩ ?_;rintro j f' u' kk' bb' hj ⟨HH,Bs⟩;have Ay:=zag j (by omega);simp -dsimp only[go_sem,seval,HH];refine zw1 (fun h=> ?_) (fun h=> ?_)<;>(try rw[h])<;>(try simp only[zab]at h)<;>(try simp -dsimp only[go_sem,seval,HH,Bf])
  ·obtain⟨n,hn,Jp⟩:=zad ‹j<e.cells.length›;have Pp:=zcx y.cells n J5;simp -dsimp only[go_sem,seval,HH,Bf,hn,Pp];refine zw1 (fun h=> ?_) (fun h=> ?_)<;>(try rw[h])<;>(try simp only[zab]at h)<;>(try simp -dsimp only[go_sem,seval,HH,Bf])
   ·rw[A3,zgG hy (by rw[zAr,List.any_eq_true];exact⟨n,Jp,by simpa using h⟩)]
   ·refine⟨by omega,by simp -dsimp only[go_sem,seval,Ay],?_⟩;rw[zac hn,List.any_append,Bs];simpa using h
  ·have:j=e.cells.length:=by omega
   subst this;refine⟨by omega,by simp -dsimp only[go_sem,seval,hw],?_⟩;rw[A3,zgH hy (by rw[List.take_length]at Bs;exact Bs)]
 ·have:i=l.length:=by omega
  subst this;rw[A3,ziE]
def zsI (h:Nat->Option O) (x:Nat) (v:V) (rows:List (List V)):Prop:=
 (v= .t (.sl [])/\rows=[])\/ ∃k,v= .ms k 0 rows.length/\k<x/\h k=some (.rows 1 rows false)
theorem zik (l:List Int):zyR (zw5 l)=some l:=by
 induction l with
 | nil=>rfl
 | cons n l ih=>
   show(zyR (zw5 l)).map (n:: ·)=_;rw[ih];rfl
theorem zic (l:List Int):zxs l=zw5 l:=by simp[zxs,zw5]
theorem zhG {h:Nat->Option O} {key:Nat} {l:List Int} {K:V->List (Nat×O)->Prop} {w:WK K} (hl:l.length<2^40)
 (hK: ∀v hp,zsI (Av h hp) (key+1) v (zw5 l)->(∀j,j≠key->Av h hp j=h j)->(∀j,j≠key->zdc v j)->(Rg.valOf v=some v/\V.cells v=some [v])->K v hp):zpM (Γ:=Γ) (G:=G) false h key 198 [.t (ints l)] K w:=by
 refine⟨rfl,rfl,[.t (ints l)],rfl,?_⟩
 cases l with
 | nil=>
   refine⟨.t (.sl []),fun _=>none,0,zc7 Γ198 rfl rfl rfl,{ val:=.t (.sl []) },rfl,hK _ _ (.inl ⟨rfl,rfl⟩) (fun j _=>by rw[zar]) (fun j _ i n h=>by cases h) ⟨rfl,rfl⟩⟩
 | cons a l=>
   have hd:zyL .cloneI [.t (ints (a::l))] (fun _=>none) 0=some (.ms 0 0 (a::l).length,upd (fun _=>none) 0 (some (.rows 1 (zxs (a::l)) false)),1):=by
    show((zyR (zw5 (a::l))).bind fun zs=>if zs.length<1099511627776 then some (V.ms 0 0 zs.length,upd (fun _=>none) 0 (some (O.rows 1 (zxs zs) false)),0+1)else none)=_;rw[zik,zD,if_pos hl]
   rw[zic]at hd;have Aa:(zw5 (a::l)).all (fun row=>row.all V.isTr)=true:=by simp[zw5,V.isTr]
   refine⟨_,_,_,zc7 Γ198 rfl rfl hd,{ val:=.ms key 0 (zw5 (a::l)).length,hp:=[(key,.rows 1 (zw5 (a::l)) false)] },?_,hK _ _ (.inr ⟨key,rfl,by omega,by simp[zav,zar,zae]⟩) (fun j hj=>by simp[zav,zar,zae,hj]) (fun j hj=>zyp (by omega) _ _) ⟨rfl,rfl⟩⟩;simp only[zBy,zxg];rw[if_pos ⟨trivial,by rw[zw2],Aa⟩,zw2]
theorem zsI.reify {h:Nat->Option O} {x:Nat} {v:V} {l:List Int} (o:zsI h x v (zw5 l)):Rg.reify h v=some (.t (ints l)):=by
 rcases o with⟨rfl,he⟩ | ⟨k,rfl,_,hh⟩
 ·have:l=[]:=by
   have:=congrArg List.length he;rw[zw2]at this;exact List.eq_nil_of_length_eq_zero this
  subst this;rfl
 ·have:toT h 1000 (.ms k 0 (zw5 l).length)=some (.sl (l.map fun n=>[ti n])):=zbS (h:=h) (x:=k+1) (es:=l.map fun n=>[ti n]) (.inr ⟨k,rfl,by omega,hh⟩) (zxU _);simp only[Rg.reify,toT1,this,Option.map_some]
def zzX (m:List Int) (e:Entry) (i:Nat):List Int:=((e.cells.zip e.values).take i).foldl (fun m q=>m.set q.1.toNat q.2) m
theorem ziY (m:List Int) (e:Entry) (i:Nat):(zzX m e i).length=m.length:=zbG _ m
theorem zhb {m:List Int} {e:Entry} {i:Nat} {c v:Int} (hc:e.cells[i]? =some c) (hv:e.values[i]? =some v):zzX m e (i+1)=(zzX m e i).set c.toNat v:=by
 have hz:(e.cells.zip e.values)[i]? =some (c,v):=by rw[List.getElem?_zip_eq_some];exact⟨hc,hv⟩
 unfold zzX;rw[zac hz,List.foldl_append];rfl
theorem ziZ {m:List Int} {e:Entry} (hl:e.values.length=e.cells.length):zzX m e e.cells.length=zz2 m e:=by
 unfold zzX zz2;rw[List.take_of_length_le (by rw[List.length_zip];omega)]
theorem zju (m:List Int) (e:Entry) (hl:e.values.length=e.cells.length) (hs:e.cells.length<2^40) (hc: ∀n∈e.cells,0<=n/\n.toNat<m.length) (H:Nat->Option O) (nx k:Nat) (hk:H k=some (.rows 1 (zw5 m) false)):
 ∃r h' n',DenR Γ G 199 [.ms k 0 m.length,.agg [.t (ints e.cells),.t (ints e.values)]] H nx=some (r,h',n')/\(r= .tup []/\h' k=some (.rows 1 (zw5 (zz2 m e)) false)/\(∀j,j≠k->h' j=H j)/\nx<=n'):=by
 (refine zxC Γ199 rfl ?_;dsimp only[f199])
 simp -dsimp only[go_sem,seval];refine zap 8388144 e.cells.length (fun i f h x=>(f 9).v=vi i/\h k=some (.rows 1 (zw5 (zzX m e i)) false)/\(∀j,j≠k->h j=H j)/\nx<=x) rfl ⟨by simp -dsimp only[go_sem,seval],by simp -dsimp only[go_sem,seval,hk,zzX,List.take_zero,List.foldl_nil],fun j _=>rfl,by simp -dsimp only[go_sem,seval];omega⟩ ?_;rintro i f u h x bs hi ⟨h9,hh,hj,hx⟩;have hw:=zag i (by omega);simp -dsimp only[go_sem,seval,h9];refine zw1 (fun h=> ?_) (fun h=> ?_)<;>(try rw[h])<;>(try simp only[zab]at h)<;>(try simp -dsimp only[go_sem,seval,h9])
 ·obtain⟨c,EL,B9⟩:=zad ‹i<e.cells.length›;obtain⟨v,hv,_⟩:=zad (show i<e.values.length by omega);obtain⟨c0,c1⟩:=hc c B9;have AR:=zhb (m:=m) EL hv;have Ac:=ziY m e i;have Bu:=zaE (l:=zzX m e i) (i:=c.toNat) (by omega);have AB:=zaD (zzX m e i) c.toNat v;have c2:c<(m.length:Int):=by omega
  simp -dsimp only[go_sem,seval,h9,EL,hv,hh,c0,c2,Bu];refine⟨by omega,by simp -dsimp only[go_sem,seval,hw],?_,?_,by simp -dsimp only[go_sem,seval];omega⟩
  ·rw[AR];simp -dsimp only[go_sem,seval,AB]
  ·intro j MI;simp -dsimp only[go_sem,seval,MI,hj]
 ·have:i=e.cells.length:=by omega
  subst this;rw[ziZ hl]at hh;refine⟨rfl,hh,hj,by simp -dsimp only[go_sem,seval];omega⟩
theorem zml (p:Prog) (hf:zw6 p=true) (c:Config) (hc:IsB p c) (t:Nat) (ht:t<p.threads.length):Den Γ G 188 [(.agg [.t (ints (c).mem),.t (ints (c).at_),.t (.sl ((c).buf.map (fun b=>[.sl (b.map Entry.enc)])))]),vi t]=some (.t (ints (zxd c t))):=by
 obtain⟨⟨m1,m2,m3,m4⟩,_⟩:=zw8 (zw9 hf).1;have l1:=hc.lm;have l3:=hc.lb;have Ae:=zx4 (c:=c) (t:=t) (by omega);obtain⟨b1,b2,_⟩:=hc.buf t _ Ae
 (refine zw3 Γ188 rfl ?_;dsimp only[f188])
 simp -dsimp only[go_sem,seval];refine zhG (by omega) ?_;rintro v hp ho Lz GO ⟨AY,_⟩;simp -dsimp only[go_sem,seval,Ae,AY];rcases ho with⟨rfl,he⟩ | ⟨k,rfl,hk,hh⟩
 ·have hm:c.mem=[]:=by
   have:=congrArg List.length he;rw[zw2]at this;exact List.eq_nil_of_length_eq_zero this
  have hb:zxq c t=[]:=by
   cases Nm:zxq c t with
   | nil=>rfl
   | cons e r=>
     have hp:=b2 e (by rw[Nm];exact List.mem_cons_self);have:=zyw hp (zz3 hp);have hl:p.cells.length=0:=by rw[<- l1,hm];rfl
     omega
  have JF:zxd c t=[]:=by rw[zxd,hb,hm];rfl
  refine zap 33423488 (zxq c t).length (fun i f h x=>(f 17).v=vi i) rfl (by simp -dsimp only[go_sem,seval]) ?_;rintro i f u h x bs hi Jg;simp -dsimp only[go_sem,seval,Jg];refine zw1 (fun h=> ?_) (fun h=> ?_)<;>(try rw[h])<;>(try simp only[zab]at h)<;>(try simp -dsimp only[go_sem,seval,Jg])
  ·have:(zxq c t).length=0:=by rw[hb];rfl
   omega
  ·rw[JF];rfl
 ·rw[zw2]at *;refine zap 33423488 (zxq c t).length (fun i f h x=>(f 17).v=vi i/\h k=some (.rows 1 (zw5 (((zxq c t).take i).foldl zz2 c.mem)) false)) rfl ⟨by simp -dsimp only[go_sem,seval],by simp -dsimp only[go_sem,seval,hh,List.take_zero,List.foldl_nil]⟩ ?_;rintro i f u H2 x bs hi ⟨Jg,MM⟩;have hw:=zag i (by omega);simp -dsimp only[go_sem,seval,Jg];refine zw1 (fun h=> ?_) (fun h=> ?_)<;>(try rw[h])<;>(try simp only[zab]at h)<;>(try simp -dsimp only[go_sem,seval,Jg])
  ·obtain⟨e,he,CX⟩:=zad ‹i<(zxq c t).length›;have Cr:=b2 e CX;have Ac:(((zxq c t).take i).foldl zz2 c.mem).length=c.mem.length:=zbs _ _;simp -dsimp only[go_sem,seval,Jg,he,Entry.enc];refine zas (by rw[<- Ac];exact zju _ e Cr.len (by have:=zaW Cr;omega) (fun n hn=>by have:=zyw Cr hn;omega) _ _ k (by simp -dsimp only[go_sem,seval,MM])) ?_;rintro r h' n' ⟨rfl,g1,g2,g3⟩;simp -dsimp only[go_sem,seval,Jg];refine⟨by omega,by simp -dsimp only[go_sem,seval,hw],?_⟩;rw[zac he,List.foldl_append];simp -dsimp only[go_sem,seval,g1,List.foldl_cons,List.foldl_nil]
  ·have:i=(zxq c t).length:=by omega
   subst this;rw[List.take_length]at MM;have Dm:H2 k=some (.rows 1 (zw5 (zxd c t)) false):=MM;have Hv:(zw5 (zxd c t)).length=c.mem.length:=by rw[zw2,zmk]
   have Cu:List.take c.mem.length (zw5 (zxd c t))=zw5 (zxd c t):=zaC Hv.symm;simp -dsimp only[go_sem,seval,Dm,Hv,Cu,Nat.le_refl,zaL]
abbrev num (z:Int):List UInt8:=Go.Lib.itoa z
def zpz (op:Int):List UInt8:=
 if op=4 then [110,111,116]else if op=5 then [97,110,100]else if op=6 then [111,114]else if op=7 then [120,111,114]else if op=8 then [97,100,100]
 else if op=9 then [115,117,98]else if op=10 then [109,117,108]else if op=11 then [101,113]else if op=12 then [108,116]else if op=13 then [108,101]else [105,116,101]
def zpF (op:Int):List UInt8:=if op=2 then [99]else if op=3 then [111]else []
def znV:List (List UInt8)->List UInt8
 | []=>[]
 | [x]=>x
 | x::r=>x++44::znV r
namespace Expr
mutual
def txt:Expr->List UInt8
 | .mk op w n ks=>if op=1\/op=2\/op=3 then zpF op++num n++[58]++num w else zpz op++[40]++znV (zDJ ks)++[41]
def zDJ:List Expr->List (List UInt8)
 | []=>[]
 | e::r=>txt e::zDJ r
end
end Expr
theorem zzk {α:Type} {f:Nat->α->Int}: ∀{l:List α} {i:Nat},(zx7 f i l).1=0<-> ∀(j:Nat) (x:α),l[j]? =some x->f (i+j) x=0
 | [],i=>by simp[zx7]
 | y::r,i=>by
   rw[zx7];constructor
   ·intro h j x hj;split at h
    ·rename_i h0
     cases j with
     | zero=>simp at hj;subst hj;exact h0
     | succ j=>
       have:=(zzk (l:=r) (i:=i+1)).1 h j x (by simpa using hj);rwa[show i+1+j=i+(j+1)by omega]at this
    ·rename_i h0;exact absurd h h0
   ·intro h;have h0:f i y=0:=h 0 y rfl;rw[if_pos h0];refine(zzk (l:=r) (i:=i+1)).2 fun j x hj=> ?_
    have:=h (j+1) x (by simpa using hj);rwa[show i+(j+1)=i+1+j by omega]at this
theorem zAI {p:Prog}: ∀{l:List Thread} {i:Nat},(zyW p i l).1=0<-> ∀(j:Nat) (x:Thread),l[j]? =some x->(zxa p (i+j) x).1=0
 | [],i=>by simp[zyW]
 | y::r,i=>by
   rw[zyW];constructor
   ·intro h j x hj;split at h
    ·rename_i h0
     cases j with
     | zero=>simp at hj;subst hj;exact h0
     | succ j=>
       have:=(zAI (l:=r) (i:=i+1)).1 h j x (by simpa using hj);rwa[show i+1+j=i+(j+1)by omega]at this
    ·rename_i h0;exact absurd h h0
   ·intro h;have h0:(zxa p i y).1=0:=h 0 y rfl;rw[if_pos h0];refine(zAI (l:=r) (i:=i+1)).2 fun j x hj=> ?_
    have:=h (j+1) x (by simpa using hj);rwa[show i+(j+1)=i+1+j by omega]at this
abbrev Prog.ok (p:Prog):Prop:=(zxL p).1=0
structure Rules (p:Prog):Prop where
 lim:(zxn p).1=0
 cells: ∀(i:Nat) (c:Cell),p.cells[i]? =some c->zx3 p i c=0
 modules: ∀(i:Nat) (m:Contract),p.modules[i]? =some m->zyK p i m=0
 locks: ∀(i:Nat) (l:Lock),p.locks[i]? =some l->zyq p i l=0
 threads: ∀(i:Nat) (x:Thread),p.threads[i]? =some x->(zxa p i x).1=0
theorem zi5 {p:Prog}:p.ok<->Rules p:=by
 unfold Prog.ok zxL;constructor
 ·intro h;split at h
  ·rename_i h0;exact absurd h h0
  ·rename_i h0;split at h
   ·rename_i h1;exact absurd h h1
   ·rename_i h1;split at h
    ·rename_i h2;exact absurd h h2
    ·rename_i h2;split at h
     ·rename_i h3;exact absurd h h3
     ·rename_i h3;simp only[Decidable.not_not]at h0 h1 h2 h3;exact⟨h0,by simpa[zx2,zzk]using h1,by simpa[zxB,zzk]using h2,by simpa[zys,zzk]using h3,by simpa[zAI]using h⟩
 ·rintro⟨h0,h1,h2,h3,h4⟩;have g1:zx2 p=0:=by unfold zx2;rw[zzk];simpa using h1
  have g2:zxB p=0:=by unfold zxB;rw[zzk];simpa using h2
  have g3:zys p=0:=by unfold zys;rw[zzk];simpa using h3
  rw[if_neg (by simpa using h0),if_neg (by simpa using g1),if_neg (by simpa using g2),if_neg (by simpa using g3),zAI];simpa using h4
theorem zAk {p:Prog} {i:Nat} {c:Cell}:zx3 p i c=0<->za6 p c=false/\(p.cells.take i).any (fun d=>d.name.toList==c.name.toList)=false:=by
 unfold zx3;cases za6 p c<;>cases(p.cells.take i).any (fun d=>d.name.toList==c.name.toList)<;>simp
theorem zeY {p:Prog} {t n:Int} {l:Loop}:zaF p t n l=0<->(inR l.head n=true/\zyv l.body=true/\l.body.all (fun k=>inR k n&&decide (k≠l.head))=true)/\l.variant.valid p.cells false=true/\zxI p l.variant true t=true:=by
 unfold zaF;cases inR l.head n<;>cases zyv l.body<;>cases l.body.all (fun k=>inR k n&&decide (k≠l.head))<;>cases l.variant.valid p.cells false<;>cases zxI p l.variant true t<;>simp
theorem zdA {p:Prog} {i:Nat} {x:Thread}:(zxa p i x).1=0<->zxG x.name=true/\(p.threads.take i).any (fun d=>d.name.toList==x.name.toList)=false/\(1<=x.points/\(x.asserts.length:Int)=x.points/\(x.modules.length:Int)=x.points)/\
 x.modules.all (fun m=>inR m p.modules.length)=true/\x.asserts.all (fun e=>zxl p e false i)=true/\(∀(j:Nat) (s:Step),x.steps[j]? =some s->zxm p i x.points s=0)/\(∀(j:Nat) (l:Loop),x.loops[j]? =some l->zaF p i x.points l=0):=by
 unfold zxa;have hs:(zx7 (fun _ s=>zxm p i x.points s) 0 x.steps).1=0<-> ∀(j:Nat) (s:Step),x.steps[j]? =some s->zxm p i x.points s=0:=by rw[zzk]
 have hl:(zx7 (fun _ l=>zaF p i x.points l) 0 x.loops).1=0<-> ∀(j:Nat) (l:Loop),x.loops[j]? =some l->zaF p i x.points l=0:=by rw[zzk]
 rw[<- hs,<- hl];cases zxG x.name
 ·simp
 ·cases(p.threads.take i).any (fun d=>d.name.toList==x.name.toList)
  ·by_cases h1:x.points<1\/ ¬(x.asserts.length:Int)=x.points\/ ¬(x.modules.length:Int)=x.points
   ·simp only[Bool.not_true,zG,if_false,if_pos h1];constructor
    ·intro h;cases h
    ·rintro⟨_,_,h,_⟩;omega
   ·have HI:1<=x.points/\(x.asserts.length:Int)=x.points/\(x.modules.length:Int)=x.points:=by omega
    simp only[Bool.not_true,zG,if_false,if_neg h1];cases x.modules.all (fun m=>inR m p.modules.length)
    ·simp
    ·cases x.asserts.all (fun e=>zxl p e false i)
     ·simp
     ·by_cases h0:(zx7 (fun _ s=>zxm p i x.points s) 0 x.steps).1=0
      ·simp[h0,HI]
      ·simp[h0,HI]
  ·simp
theorem zAB {p:Prog}:(zxn p).1=0<->(p.cells.length<=32/\p.modules.length<=6/\p.locks.length<=4/\p.threads.length<=4)/\ ∀x∈p.threads,x.points<=48/\x.steps.length<=64/\x.loops.length<=8:=by
 unfold zxn;split
 ·rename_i h;constructor
  ·intro h;cases h
  ·rintro⟨h',_⟩;omega
 ·rename_i h;rw[zzk];constructor
  ·intro h2;refine⟨by omega,fun x hx=> ?_⟩;obtain⟨j,hj,rfl⟩:=List.mem_iff_getElem.1 hx;have:=h2 j _ (zI hj);cases hb:zao p.threads[j]
   ·simp only[zao,Bool.or_eq_false_iff,decide_eq_false_iff_not]at hb;omega
   ·simp[hb]at this
  ·rintro⟨_,h2⟩ j x hx;have:=h2 x (zL hx)
   have hb:zao x=false:=by
    simp only[zao,Bool.or_eq_false_iff,decide_eq_false_iff_not];omega
   simp[hb]
end Rg
end
section
set_option maxRecDepth 100000
namespace Rg
open Go
def Expr.text (e:Expr):List UInt8:=if e.formed then e.txt else []
end Rg
end
section
set_option maxRecDepth 100000
namespace Rg
open Go
end Rg
end
section
set_option maxRecDepth 100000
namespace Rg
open Go
def zrT (ws:List (List UInt8)):List UInt8:=Go.Lib.join ws [32]++[10]
end Rg
end
section
set_option maxRecDepth 100000
namespace Rg
open Go
def zDF (l:Loop):List (List UInt8):=[[108,111,111,112],num l.head,l.variant.text]
def loopX (l:Loop):List UInt8:=zrT (zDF l++l.body.map num)
end Rg
end
section
set_option maxRecDepth 100000
namespace Rg
open Go
end Rg
end
section
set_option maxRecDepth 100000
namespace Rg
open Go
end Rg
end
section
namespace Rg
open Go
end Rg
end
section
set_option maxRecDepth 100000
namespace Rg
open Go
end Rg
end
section
namespace Rg
open Go
theorem zew (zs:List Int) (hs:zs.Pairwise (· <= ·)) (m:Nat) (hm:m<=zs.length):(Go.Lib.compactUpTo zs.toArray m).Pairwise (· < ·):=by
 have Ae: ∀i j:Nat,i<=j->j<zs.length->zs.toArray[i]! <=zs.toArray[j]! :=by
  intro i j At hj;rw[getElem!_pos zs.toArray i (by simp;omega),getElem!_pos zs.toArray j (by simp;omega)];simp only[List.getElem_toArray];rcases Nat.lt_or_eq_of_le At with h | h
  ·exact List.pairwise_iff_getElem.1 hs i j (by omega) hj h
  ·subst h;exact Int.le_refl _
 unfold Go.Lib.compactUpTo;rw[List.pairwise_map];have h0:=(List.pairwise_lt_range (n:=m)).filter (Go.Lib.keeps zs.toArray);refine h0.imp_of_mem ?_;intro a b ha hb DV;have Ci:=List.mem_range.1 (List.mem_filter.1 hb).1;have hk:=(List.mem_filter.1 hb).2;have h1:=Ae a (b-1) (by omega) (by omega);have h2:=Ae (b-1) b (by omega) (by omega);simp only[Go.Lib.keeps,Bool.or_eq_true,decide_eq_true_eq,bne_iff_ne,ne_eq]at hk;rcases hk with hk | hk
 ·omega
 ·omega
theorem zyD (l:List Int):(zzs l).Pairwise (· < ·):=by
 unfold zzs Go.Lib.compact;refine zew _ ?_ _ (Nat.le_refl _);have:=List.pairwise_mergeSort (le:=fun x y:Int=>decide (x<=y)) (by intro a b c h1 h2;simp at *;omega) (by intro a b;simp;omega) l;exact this.imp (by intro a b h;simpa using h)
structure LoopF (p:Prog) (x:Thread) (l:Loop) (A:Expr):Prop where
 h0:0<=l.head
 hA:x.asserts[l.head.toNat]? =some A
 vA:A.valid p.cells false=true
 wA:A.w=1
 vV:l.variant.valid p.cells false=true
 nb:zxj l (-1)=false
theorem zi6 {p:Prog} (hf:zw6 p=true) {t j:Nat} {x:Thread} {l:Loop} (hx:p.threads[t]? =some x) (hl:x.loops[j]? =some l): ∃A,LoopF p x l A:=by
 have hr:=zi5.1 (show p.ok by simpa[zw6]using hf);obtain⟨_,_,⟨h1,h2,_⟩,_,h3,_,h4⟩:=zdA.1 (hr.threads t x hx);obtain⟨⟨g1,g2,g3⟩,g4,_⟩:=zeY.1 (h4 j l hl);have hb:=(zAB.1 hr.lim).2 x (zL hx);simp only[inR,decide_eq_true_eq]at g1;have Ai:l.head.toNat<x.asserts.length:=by omega
 have hA:=zI Ai;have ht:=zN.1 h3 _ (zL hA);simp only[zxl,zF,decide_eq_true_eq]at ht
 have Gp: ∀k∈l.body,0<=k/\k<x.points:=fun k hk=>by
  have:=zN.1 g3 k hk;simp only[inR,zF,decide_eq_true_eq]at this;exact this.1
 refine⟨_,g1.1,hA,ht.1.1,ht.1.2,g4,?_⟩
 ·simp only[zxj,Bool.or_eq_false_iff,decide_eq_false_iff_not];refine⟨by omega,?_⟩;cases hc:l.body.contains (-1)
  ·rfl
  ·have:=Gp (-1) (by simpa using hc);omega
theorem zop {w:Int} (h:1<=w/\w<=12):IntKind.i64.wrap (1*2^min w.toNat IntKind.i64.bits)=2^w.toNat:=by
 have:(2:Int)^w.toNat<=2^12:=zcn (i:=w.toNat) (k:=12) (by omega);have:=zxD w.toNat;rw[show min w.toNat IntKind.i64.bits=w.toNat from Nat.min_eq_left (by show w.toNat<=64;omega),Int.one_mul];exact zaj (by omega)
theorem zoo {w:Int} (h:1<=w/\w<=12):IntKind.i64.wrap (2^w.toNat-1)=2^w.toNat-1:=by
 have:(2:Int)^w.toNat<=2^12:=zcn (i:=w.toNat) (k:=12) (by omega);have:=zxD w.toNat;exact zaj (by omega)
theorem zn4 {a:Int} {w:Int} (h:1<=w/\w<=12):a.fdiv (2^min w.toNat IntKind.i64.bits)=a/ 2^w.toNat:=by
 have:=zxD w.toNat;rw[show min w.toNat IntKind.i64.bits=w.toNat from Nat.min_eq_left (by show w.toNat<=64;omega),Int.fdiv_eq_ediv_of_nonneg _ (by omega)]
theorem zd6 (p:Prog) (l:List Int) (c:Int):zxf p (l++[c])=zxf p l+wOf p c:=by simp[zxf]
theorem ziN (p:Prog) (c:Int): ∀(l:List Int) (n:Int) (s:List Int),stM p (l++[c]) n s=(stM p l n s).set c.toNat (n/ 2^zxf p l % 2^wOf p c)
 | [],n,s=>by simp[stM,zxf]
 | x::l,n,s=>by
   rw[List.cons_append,stM,ziN p c l,stM];have:zxf p (x::l)=wOf p x+zxf p l:=by simp[zxf]
   rw[this,Int.pow_add,<- Int.ediv_ediv_of_nonneg (Int.le_of_lt (zxD _))]
end Rg
end
section
namespace Rg
open Go
structure Vis where
 c:Config
 fr:Int
 x:Choice
 deriving Inhabited
def v0 (p:Prog):Vis:=⟨zxz p,-1,⟨0,0,0⟩⟩
theorem zxV {p:Prog} (hf:zw6 p=true):p.cells.length<=32/\(∀y∈p.cells,y.w<=8)/\(∀x∈p.threads,x.points<=48):=by
 have hr:=zi5.1 (show p.ok by simpa[zw6]using hf);obtain⟨⟨b1,_⟩,b5⟩:=zAB.1 hr.lim;refine⟨b1,fun y hy=> ?_,fun x hx=>(b5 x hx).1⟩;obtain⟨i,hi⟩:=List.getElem?_of_mem hy;have:=(zAk.1 (hr.cells i y hi)).1;simp only[za6,Bool.or_eq_false_iff,decide_eq_false_iff_not]at this;omega
def zxE (A V:Expr):List Int:=zzs (A.sup 2++V.sup 2)
theorem zy5 {p:Prog} (hf:zw6 p=true) {y:Cell} (hy:y∈p.cells):1<=y.w/\y.w<=8:=by
 have hr:=zi5.1 (show p.ok by simpa[zw6]using hf);obtain⟨i,hi⟩:=List.getElem?_of_mem hy;have:=(zAk.1 (hr.cells i y hi)).1;simp only[za6,Bool.or_eq_false_iff,decide_eq_false_iff_not]at this;omega
theorem zlU {p:Prog} {A V:Expr} (hA:A.valid p.cells false=true) (hV:V.valid p.cells false=true): ∀c∈zxE A V,0<=c/\c<p.cells.length:=by
 intro c hc;rw[zxE,zeH,List.mem_append]at hc;rcases hc with hc | hc
 ·exact zzm hA 2 (.inl rfl) c hc
 ·exact zzm hV 2 (.inl rfl) c hc
theorem zj9 (A V:Expr):(zxE A V).length<=64:=by
 have h1:=zh1 (A.sup 2++V.sup 2);have h2:=zcD 2 A;have h3:=zcD 2 V;rw[zM]at h1;rw[zxE];omega
def zBJ (l:List Int):List Int:=l.mergeSort fun x y=>decide (x<=y)
theorem zB6 (H:Nat->Option O) (x n:Nat) (v:V) (l:List Int) (ho:za0 H x v 1 (zw5 l)) (hl:l.length<2^40):
 ∃r h' n',DenR Γ G 74 [v] H n=some (r,h',n')/\r= .tup []/\za0 h' x v 1 (zw5 (zBJ l))/\n'=n:=by
 rcases ho with⟨rfl,hr⟩ | ⟨k,rfl,hk,hh⟩
 ·have F0:l=[]:=by
   have:=congrArg List.length hr;rw[zw2]at this;exact List.eq_nil_of_length_eq_zero this
  subst F0;exact⟨_,_,_,zc7 Γ74 rfl rfl rfl,rfl,.inl ⟨rfl,by rw[zBJ,List.mergeSort_nil];rfl⟩,rfl⟩
 ·rw[zw2]
  refine⟨_,upd H k (some (.rows 1 (zw5 (zBJ l)) false)),n,zc7 Γ74 rfl rfl (by
   simp only[zyL,hh,zcK,zD,zee]
   rw[if_pos (by exact⟨trivial,by omega⟩)];rfl),rfl,.inr ⟨k,by rw[zw2,zBJ,List.length_mergeSort],hk,by rw[zxg]⟩,rfl⟩
theorem zBg (H:Nat->Option O) (x n:Nat) (v:V) (l:List Int) (ho:za0 H x v 1 (zw5 l)) (hl:l.length<2^40):
 ∃r h' n',DenR Γ G 75 [v] H n=some (r,h',n')/\r= .t (ints (Go.Lib.compact l))/\n'=n:=by
 rcases ho with⟨rfl,hr⟩ | ⟨k,rfl,hk,hh⟩
 ·have F0:l=[]:=by
   have:=congrArg List.length hr;rw[zw2]at this;exact List.eq_nil_of_length_eq_zero this
  subst F0;exact⟨_,_,_,zc7 Γ75 rfl rfl rfl,rfl,rfl⟩
 ·rw[zw2]
  exact⟨_,_,_,zc7 Γ75 rfl rfl (by
   simp only[zyL,hh,zcK,zD,zee]
   rw[if_pos ⟨trivial,by omega⟩]),rfl,rfl⟩
theorem za0.cellsV {h:Nat->Option O} {x:Nat} {v:V} {sz:Nat} {rows:List (List V)} (o:za0 h x v sz rows):V.cells v=some [v]:=by
 rcases o with⟨rfl,_⟩ | ⟨k,rfl,_,_⟩<;>rfl
theorem za0.upd' {h:Nat->Option O} {x k:Nat} {v:V} {sz:Nat} {rows:List (List V)} {o':Option O} (o:za0 h x v sz rows) (hk:x<=k):za0 (updC h k o') (k+3) v sz rows:=by
 rcases o with o | ⟨q,h1,h2,h3⟩
 ·exact .inl o
 ·exact .inr ⟨q,h1,by omega,by rw[zae,if_neg (by omega)];exact h3⟩
theorem zmB {s:List Int} {c:Nat} (h:c<s.length):(zw5 s)[c]? =some [vi s[c]]:=by simp[zw5,h]
theorem zmA (s:List Int) (c:Nat) (v:Int):(zw5 s).set c [.t (.int .i64 v)]=zw5 (s.set c v):=by simp[zw5,List.map_set]
theorem zjy {h:Nat->Option O} {k len:Nat} {s:List Int} {fz:Bool} (hk:h k=some (.rows 1 (zw5 s) fz)) (hl:len=s.length):toT1 h (.ms k 0 len)=some (.t (ints s)):=by
 have h1:=zdD h 999 (s.map fun n=>[ti n]) (zxU _)
 have h2:toT h 1000 (.ms k 0 len)=some (ints s):=by
  rw[toT,hk];simp only[rd,Nat.zero_add,List.drop_zero];rw[if_pos (by rw[zw2];omega),List.take_of_length_le (by rw[zw2];omega)];simp only[zC,zD];rw[show zw5 s=(s.map fun n=>[ti n]).map (·.map V.t)from rfl,h1];rfl
 simp only[toT1,h2,Option.map_some]
theorem zlW (p:Prog) (hs:p.sane) (hf:zw6 p=true) {t j:Nat} {x:Thread} {l:Loop} {A:Expr} (hx:p.threads[t]? =some x) (hl:x.loops[j]? =some l) (hL:LoopF p x l A):
 Den Γ G 336 [(zP p),vi t,vi j]=some (.tup [vi (if zxf p (zxE A l.variant)>12 then 0 else zoN p (zxE A l.variant) A l.variant),vi (if zxf p (zxE A l.variant)>12 then 2 else 0)]):=by
 have hv:=zeE p hs hf hx hl;obtain⟨hd,NZ⟩: ∃n:Nat,l.head=n:=⟨l.head.toNat,by have:=hL.h0;omega⟩
 have hA:=hL.hA;rw[NZ,Int.toNat_natCast]at hA
 (refine zw3 Γ336 rfl ?_;dsimp only[zqZ])
 simp -dsimp only[go_sem,seval,hv,hx,hl,NZ,hA];refine zas (zzf A _ _) ?_;rintro r1 h1 n1 ⟨a3,a2,rfl,oa3,oa2,EY,Ba⟩;have q1:=oa3.valOf;have q2:=oa2.valOf;simp -dsimp only[go_sem,seval,q1,q2];refine zas (zzf l.variant _ _) ?_;rintro r2 h2 n2 ⟨b3,b2,rfl,ob3,ob2,Ir,AX⟩;have q3:=ob3.valOf;have q4:=ob2.valOf;have oa2':za0 h2 n2 a2 1 (zw5 (A.sup 2)):=oa2.keep (by omega) fun k hk _=>(AX k (by omega)).1
 have c2:=oa2.cellsV;have c4:=ob2.cellsV;unfold V.cells at c2 c4;simp -dsimp only[go_sem,seval,q2,q3,q4,c2,c4];have PJ:=zcD 2 A;have PI:=zcD 2 l.variant;refine zas (zBW (A.sup 2) (l.variant.sup 2) (by omega) (by omega) _ _ (n2+2) a2 b2 (by rw[zae,if_pos rfl]) (by omega) (oa2'.upd' (by omega)) (ob2.upd' (by omega))) ?_;clear oa2 oa3 ob2 ob3 oa2' Ba AX q1 q2 q3 q4 c2 c4;rintro r h3 n3 ho;have q1:=ho.valOf;simp -dsimp only[go_sem,seval,q1];refine zas (zB6 _ _ _ _ _ ho (by simp;omega)) ?_;rintro r4 h4 n4 ⟨rfl,OM,PO⟩;simp -dsimp only[go_sem,seval,q1];refine zas (zBg _ _ _ _ _ OM (by rw[zBJ,List.length_mergeSort];simp;omega)) ?_;rintro r5 h5 n5 ⟨rfl,PN⟩;rw[show Go.Lib.compact (zBJ (A.sup 2++l.variant.sup 2))=zxE A l.variant from rfl]
 generalize hC:zxE A l.variant=L
 have J0:=zlU hL.vA hL.vV;have Pz:=zj9 A l.variant;rw[hC]at J0 Pz;have LU: ∀(c:Int) (y:Cell),p.cells[c.toNat]? =some y->1<=y.w/\y.w<=8/\wOf p c=y.w.toNat:=fun c y hy=>⟨(zy5 hf (zL hy)).1,(zy5 hf (zL hy)).2,by rw[wOf,hy]⟩
 have KQ: ∀i,zxf p (L.take i)<=8*i:=by
  intro i
  induction i with
  | zero=>simp[zxf]
  | succ i ih=>
    by_cases hi:i<L.length
    ·obtain⟨c,hc,B9⟩:=zad hi;obtain⟨c0,c1⟩:=J0 c B9;obtain⟨y,hy,_⟩:=zad (show c.toNat<p.cells.length by omega);obtain⟨_,w2,w3⟩:=LU c y hy;rw[zac hc,zd6,w3];omega
    ·rw[List.take_of_length_le (by omega)]at ih⊢;omega
 simp -dsimp only[go_sem,seval];refine zap 151097280707754937450496 L.length (fun i f h z=>(f 64).v=vi i/\(f 15).v=vi (zxf p (L.take i))) rfl ⟨by simp -dsimp only[go_sem,seval],by simp -dsimp only[go_sem,seval];rfl⟩ ?_;rintro i f u H q bs hi ⟨La,BS⟩;have hw:=zag i (by omega);simp -dsimp only[go_sem,seval,La];refine zw1 (fun h=> ?_) (fun h=> ?_)<;>(try rw[h])<;>(try simp only[zab]at h)<;>(try simp -dsimp only[go_sem,seval,La])
 ·obtain⟨c,hc,B9⟩:=zad ‹i<L.length›;obtain⟨c0,c1⟩:=J0 c B9;obtain⟨y,hy,_⟩:=zad (show c.toNat<p.cells.length by omega);obtain⟨w1,w2,w3⟩:=LU c y hy;have hb:=KQ i
  have LS:IntKind.i64.wrap ((zxf p (L.take i):Int)+y.w)=zxf p (L.take (i+1)):=by
   rw[zac hc,zd6,w3,Int.natCast_add,show((y.w.toNat:Nat):Int)=y.w by omega];exact zaj (by omega)
  simp -dsimp only[go_sem,seval,La,BS,hc,c0,hy];exact⟨by omega,by simp -dsimp only[go_sem,seval,hw],by simp -dsimp only[go_sem,seval,LS]⟩
 ·have:i=L.length:=by omega
  subst this;rw[List.take_length]at BS;simp -dsimp only[go_sem,seval,BS]
  by_cases hb:zxf p L>12
  ·have Bi:(zxf p L:Int)>12:=by omega
   rw[if_pos hb,if_pos hb];simp -dsimp only[go_sem,seval,Bi]
  ·have Bi: ¬(zxf p L:Int)>12:=by omega
   rw[if_neg hb,if_neg hb];have Cp:=(zxV hf).1;have e1:(p.cells.length:Int)<=4294967296:=by omega
   have Bj:IntKind.i64.wrap (1*2^min (zxf p L) 64)=((2^zxf p L:Nat):Int):=by
    have:(2:Nat)^zxf p L<=4096:=Nat.pow_le_pow_right (n:=2) (j:=12) (by omega) (by omega);rw[show min (zxf p L) 64=zxf p L from Nat.min_eq_left (by omega),Int.one_mul,show(2:Int)^zxf p L=((2^zxf p L:Nat):Int)by simp]
    generalize(2:Nat)^zxf p L=z at *
    exact zaj (by omega)
   have Cc: ¬(zxf p L:Int)<0:=by omega
   simp -dsimp only[go_sem,seval,Bi,e1,Int.le_refl,BS,Bj,Cc];clear Bj;have Ol:(2:Nat)^zxf p L<=4096:=Nat.pow_le_pow_right (n:=2) (j:=12) (by omega) (by omega);unfold zoN
   generalize hZ:(2:Nat)^zxf p L=Z at *
   refine zap 21778071482940022976029747207499580440576 Z (fun n f h z=>(f 85).v=vi n/\(f 18).v=vi (zxN p L A l.variant n).2/\h (q+1+2+1+3)=some (.rows 1 (zw5 (zxN p L A l.variant n).1) false)/\q+1+2+1+3<z) rfl ⟨by simp -dsimp only[go_sem,seval],by simp -dsimp only[go_sem,seval];rfl,by simp -dsimp only[go_sem,seval];simp[zxN,zw5],by simp -dsimp only[go_sem,seval];omega⟩ ?_;rintro n f2 u2 H2 z2 bs2 hn ⟨LD,HH,FZ,PP⟩;have C4:=zag n (by omega);simp -dsimp only[go_sem,seval,LD];refine zw1 (fun h=> ?_) (fun h=> ?_)<;>(try rw[h])<;>(try simp only[zab]at h)<;>(try simp -dsimp only[go_sem,seval,LD])
   ·refine zap 83076748498617202771107666373640192 L.length (fun i f h z=>(f 90).v=vi i/\(f 20).v=vi ((n:Int)/ 2^zxf p (L.take i))/\h (q+1+2+1+3)=some (.rows 1 (zw5 (stM p (L.take i) n (zxN p L A l.variant n).1)) false)/\q+1+2+1+3<z) rfl ⟨by simp -dsimp only[go_sem,seval],by simp -dsimp only[go_sem,seval];simp[zxf],by simp -dsimp only[go_sem,seval];exact FZ,by simp -dsimp only[go_sem,seval];omega⟩ ?_;rintro i f3 u3 H3 z3 bs3 D1 ⟨N2,P8,DI,OV⟩;have HP:=zag i (by omega);simp -dsimp only[go_sem,seval,N2];refine zw1 (fun h=> ?_) (fun h=> ?_)<;>(try rw[h])<;>(try simp only[zab]at h)<;>(try simp -dsimp only[go_sem,seval,N2])
    ·obtain⟨c,hc,B9⟩:=zad ‹i<L.length›;obtain⟨c0,c1⟩:=J0 c B9;obtain⟨y,hy,_⟩:=zad (show c.toNat<p.cells.length by omega);obtain⟨w1,w2,w3⟩:=LU c y hy;have k1: ¬y.w<0:=by omega
     have k2:IntKind.i64.wrap (1*2^min y.w.toNat 64)=2^y.w.toNat:=zop (by omega);have k3:IntKind.i64.wrap (2^y.w.toNat-1)=2^y.w.toNat-1:=zoo (by omega);have k4: ∀a:Int,IntKind.i64.wrap ((BitVec.ofInt IntKind.i64.bits a&&& BitVec.ofInt IntKind.i64.bits (2^y.w.toNat-1)).toNat)=a % 2^y.w.toNat:=fun a=>zgI a y.w (by omega)
     have k5: ∀a:Int,a.fdiv (2^min y.w.toNat 64)=a/ 2^y.w.toNat:=fun a=>zn4 (by omega)
     have BU:c.toNat<(stM p (L.take i) n (zxN p L A l.variant n).1).length:=by rw[zgc,ze5];omega
     have Bu:=zmB BU;simp -dsimp only[go_sem,seval,N2,P8,hc,c0,c1,hy,DI,k1,k2,k3,k4,k5,Bu,zmA];refine⟨by omega,by simp -dsimp only[go_sem,seval,HP],?_,?_,by simp -dsimp only[go_sem,seval];omega⟩
     ·simp -dsimp only[go_sem,seval,zac hc,zd6,w3,Int.pow_add];rw[Int.ediv_ediv_of_nonneg (Int.le_of_lt (zxD _))]
     ·simp -dsimp only[go_sem,seval,zac hc,ziN,w3]
    ·have:i=L.length:=by omega
     subst this;rw[List.take_length]at DI;have Ac:=ze5 p L A l.variant n;have BU:(stM p L n (zxN p L A l.variant n).1).length=p.cells.length:=by rw[zgc,Ac]
     have hT:=zjy (h:=H3) (len:=p.cells.length) DI BU.symm;have P4:=zbT A (stM p L n (zxN p L A l.variant n).1) (stM p L n (zxN p L A l.variant n).1);have Jc:=zbT l.variant (stM p L n (zxN p L A l.variant n).1) (stM p L n (zxN p L A l.variant n).1);simp -dsimp only[go_sem,seval,hA,↓hT,P4];have F9:(zxN p L A l.variant (n+1)).1=stM p L n (zxN p L A l.variant n).1:=by rw[zc6];rfl
     by_cases LC:A.eval (stM p L n (zxN p L A l.variant n).1) (stM p L n (zxN p L A l.variant n).1)=1
     ·have Mq:(zxN p L A l.variant (n+1)).2=if l.variant.eval (stM p L n (zxN p L A l.variant n).1) (stM p L n (zxN p L A l.variant n).1)>(zxN p L A l.variant n).2 then l.variant.eval (stM p L n (zxN p L A l.variant n).1) (stM p L n (zxN p L A l.variant n).1)else(zxN p L A l.variant n).2:=by
       rw[zc6,zA2];simp only[if_pos LC]
      simp -dsimp only[go_sem,seval,LC,HH,↓hT,Jc,LD];refine⟨by omega,by simp -dsimp only[go_sem,seval,C4],?_,by simp -dsimp only[go_sem,seval,F9];exact DI,by simp -dsimp only[go_sem,seval];omega⟩;simp -dsimp only[go_sem,seval,Mq]
     ·have Mq:(zxN p L A l.variant (n+1)).2=(zxN p L A l.variant n).2:=by
       rw[zc6,zA2];simp only[if_neg LC]
      simp -dsimp only[go_sem,seval,LC,LD];refine⟨by omega,by simp -dsimp only[go_sem,seval,C4],by simp -dsimp only[go_sem,seval,Mq,HH],by simp -dsimp only[go_sem,seval,F9];exact DI,by simp -dsimp only[go_sem,seval];omega⟩
   ·have:n=Z:=by omega
    subst this;simp -dsimp only[go_sem,seval,HH]
theorem zmJ {h:Nat->Option O} {x:Nat} {v:V} {l:List Int} (o:za0 h x v 1 (zw5 l)):toT1 h v=some (.t (ints l)):=by
 have:=zbS (es:=l.map fun n=>[ti n]) o (zxU _);rcases o with⟨rfl,he⟩ | ⟨k,rfl,_,_⟩
 ·have:l=[]:=by simpa[zw5]using he
  subst this;rfl
 ·simp only[toT1,this,Option.map_some]
end Rg
end
section
namespace Rg
open Go
theorem zj2 {r:V} {h:Nat->Option O} {vs:List V} {K:V->(Nat->Option O)->Prop} {w:WK K} (hk: ∀h',K r h'):ziv (some r) false h vs K w:=by
 unfold ziv;simp only;split
 ·exact hk _
 ·exact⟨fun h=>Bool.noConfusion h,hk _⟩
theorem zkL (k:Int) (l:List Entry) (i:Nat) (e:Entry) (he:l[i]? =some e) (hl:l.length<2^20) (hs: ∀x∈l,x.cells.length<2^20):
 Den Γ G 372 [vi k,.t (.sl (l.map Entry.enc)),vi i]=some (vb (zyy k l i e)):=by
 have Cb:=(zH.1 he).1;have CX:=zL he
 (refine zw3 Γ372 rfl ?_;dsimp only[zqN])
 by_cases DM:i=0
 ·subst DM;have ho:zyy k l 0 e=true:=by simp[zyy]
  rw[ho];simp -dsimp only[go_sem,seval];refine zai ?_;simp -dsimp only[go_sem,seval]
 ·have e1:(i:Int)>0:=by omega
  by_cases hk:k=2
  ·subst hk;have ho:zyy 2 l i e= !zyb (l.take i) e:=by simp[zyy,DM]
   rw[ho];simp -dsimp only[go_sem,seval,e1];refine zaq 268419264 i (fun j f=>(f 7).v=vi j/\zyb (l.take j) e=false) rfl rfl ⟨by simp -dsimp only[go_sem,seval],by simp[zyb]⟩ ?_;rintro j f u x bs hj ⟨h7,Bs⟩;have hw:=zag j (by omega)
   by_cases Ai:j<i
   ·have A9:=eq_true Ai;obtain⟨o,AK,OL⟩:=zad (show j<l.length by omega);have Lp:=zmS o e (hs o OL) (hs e CX);cases hm:zAr o e
    ·rw[hm]at Lp;simp -dsimp only[go_sem,seval,h7,A9,AK,he,Entry.enc,Lp];refine⟨by omega,by simp -dsimp only[go_sem,seval,hw],?_⟩;rw[zac AK,zyb,List.any_append];rw[zyb]at Bs;simp[Bs,hm]
    ·rw[hm]at Lp
     have hb:zyb (l.take i) e=true:=by
      simp only[zyb,List.any_eq_true];exact⟨o,by rw[List.mem_take_iff_getElem];exact⟨j,by omega,(zH.1 AK).2⟩,hm⟩
     rw[hb];simp -dsimp only[go_sem,seval,h7,A9,AK,he,Entry.enc,Lp]
   ·have A9:=eq_false Ai;have:j=i:=by omega
    subst this;rw[Bs];simp -dsimp only[go_sem,seval,h7,A9]
  ·have ho:zyy k l i e=false:=by simp[zyy,DM,hk]
   rw[ho];simp -dsimp only[go_sem,seval,e1,hk]
theorem zhf (mem:List Int) (e:Entry) (hm:mem.length<2^31) (hv:e.values.length=e.cells.length) (Ar: ∀c∈e.cells,0<=c/\c<mem.length) (A8:0<mem.length) (hl:e.cells.length<2^20):
 Den Γ G 373 [.t (ints mem),.agg [.t (ints e.cells),.t (ints e.values)]]=some (.t (ints (zz2 mem e))):=by
 (refine zw3 Γ373 rfl ?_;dsimp only[zqM])
 simp -dsimp only[go_sem,seval];have Jy:=zeD mem hm (fun _=>none) 0;obtain⟨r,h',n',C1,Ab,_,_⟩:=Jy;refine zd0 (es:=mem.map fun n=>[ti n]) rfl rfl ⟨r,h',n',C1,Ab⟩ ?_;clear C1 Ab;intro v hp Ab _ _;have v1:=Ab.valOf;simp -dsimp only[go_sem,seval,v1];refine zap 268435008 e.cells.length (fun i f h x=>(f 6).v=vi i/\za0 h x v 1 (zw5 (zzX mem e i))) rfl ⟨by simp -dsimp only[go_sem,seval],by simp -dsimp only[go_sem,seval];exact Ab.le (by omega)⟩ ?_;clear Ab;rintro i f u H x bs hi ⟨h6,Ab⟩;have hw:=zag i (by omega);have Ac: ∀i,(zzX mem e i).length=mem.length:=fun i=>zbG _ _
 simp -dsimp only[go_sem,seval,h6];refine zw1 (fun h=> ?_) (fun h=> ?_)<;>(try rw[h])<;>(try simp only[zab]at h)<;>(try simp -dsimp only[go_sem,seval,h6])
 ·obtain⟨c,hc,B9⟩:=zad ‹i<e.cells.length›;obtain⟨d,hd,_⟩:=zad (show i<e.values.length by omega);obtain⟨c0,c1⟩:=Ar c B9;have hz:(e.cells.zip e.values)[i]? =some (c,d):=List.getElem?_zip_eq_some.2 ⟨hc,hd⟩
  have FF:zzX mem e (i+1)=(zzX mem e i).set c.toNat d:=by
   unfold zzX;rw[zac hz,List.foldl_append];rfl
  rcases Ab with⟨_,he⟩ | ⟨k,rfl,hk,hh⟩
  ·exfalso;have:(zw5 (zzX mem e i)).length=0:=by rw[he];rfl
   rw[zw2,Ac]at this;omega
  ·have Ai:c<(((zw5 (zzX mem e i)).length:Nat):Int):=by rw[zw2,Ac];omega
   have Bu:=zaE (l:=zzX mem e i) (i:=c.toNat) (by rw[Ac];omega);have AB:=zaD (zzX mem e i) c.toNat d;rw[<- FF]at AB;simp -dsimp only[go_sem,seval,h6,hc,hd,c0,Ai,hh,Bu];refine⟨by omega,by simp -dsimp only[go_sem,seval,hw],.inr ⟨k,?_,by simp -dsimp only[go_sem,seval];omega,?_⟩⟩
   ·rw[zw2,zw2,Ac,Ac]
   ·simp -dsimp only[go_sem,seval,AB]
 ·have:i=e.cells.length:=by omega
  subst this
  have Aa:zzX mem e e.cells.length=zz2 mem e:=by
   unfold zzX zz2;rw[List.take_of_length_le (by simp[hv])]
  rw[Aa]at Ab;have Bk:=Ab.reify (zxU _);have v5:=Ab.resVal;simp only[Rg.resVal]at v5;simp -dsimp only[go_sem,seval,v1,v5];exact Bk
structure RdI (h:Nat->Option O) (v:V) (l:List Int):Prop where
 val:valOf v=some v
 rd:toT1 h v=some (.t (ints l))
 res:resVal v=some v
 rf:Rg.reify h v=some (.t (ints l))
theorem RdI.tree (h:Nat->Option O) (l:List Int):RdI h (.t (ints l)) l:=⟨rfl,rfl,rfl,rfl⟩
theorem RdI.own {h:Nat->Option O} {x:Nat} {v:V} {l:List Int} (o:za0 h x v 1 (zw5 l)):RdI h v l:=⟨o.valOf,zmJ o,o.resVal,o.reify (es:=l.map fun n=>[ti n]) (zxU _)⟩
theorem zfs (p:Prog) (hf:zw6 p=true) (c:Config) (hc:IsB p c) (t:Nat) (ht:t<p.threads.length):
 Den Γ G 357 [(.agg [.t (ints (c).mem),.t (ints (c).at_),.t (.sl ((c).buf.map (fun b=>[.sl (b.map Entry.enc)])))]),vi t]=some (.t (ints (zxd c t))):=by
 have Cp:=(zxV hf).1;have NO:=hc.lm;obtain⟨b,hb,KN⟩:=zad (show t<c.buf.length by rw[hc.lb];exact ht);have Nn:=zjm hb;obtain⟨G6,E5,_⟩:=hc.buf t b hb
 (refine zw3 Γ357 rfl ?_;dsimp only[zqR])
 simp -dsimp only[go_sem,seval,hb];have Jy:=zeD c.mem (by omega) (fun _=>none) 0;obtain⟨r,h',n',C1,Ab,_,_⟩:=Jy;refine zd0 (es:=c.mem.map fun n=>[ti n]) rfl rfl ⟨r,h',n',C1,Ab⟩ ?_;clear C1 Ab;intro v hp Ab _ _;have v1:=Ab.valOf;simp -dsimp only[go_sem,seval,v1];refine zap 1073740896 b.length (fun i f h x=>(f 6).v=vi i/\RdI h (f 5).v ((b.take i).foldl zz2 c.mem)) rfl ⟨by simp -dsimp only[go_sem,seval],by simp -dsimp only[go_sem,seval];exact .own Ab⟩ ?_;clear Ab;rintro i f u H x bs hi ⟨h6,BM⟩;have hw:=zag i (by omega);obtain⟨q1,q2,q3,q4⟩:=BM
 by_cases Ai:i<b.length
 ·have A9:=eq_true Ai;obtain⟨e,he,CX⟩:=zad Ai;have EB:=E5 e CX;have FF:=zhf ((b.take i).foldl zz2 c.mem) e (by rw[zbs];omega) EB.len (fun n hn=>by have:=zyw EB hn;rw[zbs];omega) (by rw[zbs];obtain⟨n,hn⟩:=List.exists_mem_of_ne_nil _ EB.ne;have:=(zyw EB hn).2.1;omega) (by have:=zaW EB;omega);simp -dsimp only[go_sem,seval,h6,A9,hb,he,Entry.enc,q1,↓q2,FF];refine zj2 fun H'=> ?_
  simp -dsimp only[go_sem,seval,h6];refine⟨by omega,by simp -dsimp only[go_sem,seval,hw],?_⟩;simp -dsimp only[go_sem,seval,zac he,List.foldl_append,List.foldl_cons,List.foldl_nil];exact .tree _ _
 ·have A9:=eq_false Ai;have:i=b.length:=by omega
  subst this;rw[List.take_length]at q4;simp only[Rg.resVal]at q3;simp -dsimp only[go_sem,seval,h6,A9,hb,q1,q3];rw[zxd,Nn];exact q4
theorem zgA (p:Prog) (hf:zw6 p=true) (k:Int) (c:Config) (CK:IsK p k c) (t:Nat) (x:Thread) (hx:p.threads[t]? =some x) (i:Nat) (s:Step) (hs:x.steps[i]? =some s):
 Den Γ G 371 [(zP p),vi k,(.agg [.t (ints (c).mem),.t (ints (c).at_),.t (.sl ((c).buf.map (fun b=>[.sl (b.map Entry.enc)])))]),vi t,(zS s)]=some (vb (zxi p c t s)):=by
 have hc:=CK.b;have l1:=hc.lm;have l2:=hc.la;have l3:=hc.lb;have Bc:=za4 hf hx hs;have Dv:t<p.threads.length:=(zH.1 hx).1;obtain⟨a,ha,_⟩:=zad (show t<c.at_.length by omega);have F3:atI c.at_ t=a:=zb9 (by simpa using ha);have Aj:=ze9 s.guard (zxd c t) (zxd c t);have C7:=zfs p hf c hc t Dv;have Ey:=Bc.kind;have Ae:=zx4 (c:=c) (t:=t) (by omega)
 (refine zw3 Γ371 rfl ?_;dsimp only[zqO])
 by_cases h1:a=s.fr
 ·by_cases h2:s.guard.eval (zxd c t) (zxd c t)=1
  ·have hE:zxi p c t s=(if s.kind=3 then(if s.release then decide ((zxq c t).length=0)else decide ((zxq c t).length<3))
    else if s.kind=4\/s.kind=5 then decide ((zxq c t).length=0)
    else if s.kind=6 then decide ((zxq c t).length=0)&&decide (atI c.at_ s.target= -1)
    else if s.kind=7 then decide ((zxq c t).length=0)&&(decide (atI c.at_ s.target=zbh p s.target-1)&&decide ((zxq c s.target.toNat).length=0))
    else true):=by
    simp[zxi,F3,h1,h2]
   rw[h2]at Aj;rw[hE];have e0:((zxq c t).length:Int)=0<->(zxq c t).length=0:=by omega
   have e3:((zxq c t).length:Int)<3<->(zxq c t).length<3:=by omega
   by_cases hk:s.kind=6\/s.kind=7
   ·obtain⟨hr,_⟩:=Bc.tgt hk;simp only[inR,decide_eq_true_eq]at hr;obtain⟨b,hb,_⟩:=zad (show s.target.toNat<c.at_.length by omega);obtain⟨y,hy,_⟩:=zad (show s.target.toNat<p.threads.length by omega);have Lh:=zbe hf hy;have hw:IntKind.i64.wrap (y.points-1)=y.points-1:=zaj (by omega);have Bi:=zb9 hb;have FL:zbh p s.target=y.points:=by simp[zbh,hy]
    have CD:=zx4 (c:=c) (t:=s.target.toNat) (by omega);have e4:((zxq c s.target.toNat).length:Int)=0<->(zxq c s.target.toNat).length=0:=by omega
    have AT:=zlA p c s.target y b hr.1 hb hy (by omega)
    by_cases hn:(zxq c t).length=0
    ·rcases hk with hk | hk
     ·simp -dsimp only[go_sem,seval,C7,ha,h1,Aj,Ae,hn,hk,hr.1,hb,Bi,or_self,or_true,true_or,or_false,false_or,if_true,if_false]
     ·by_cases E5:b=y.points-1
      ·simp -dsimp only[go_sem,seval,C7,ha,h1,Aj,Ae,hn,hk,hr.1,hb,hy,hw,Bi,FL,CD,E5,e4,AT,or_self,or_true,true_or,or_false,false_or,if_true,if_false]
      ·simp -dsimp only[go_sem,seval,C7,ha,h1,Aj,Ae,hn,hk,hr.1,hb,hy,hw,Bi,FL,CD,E5,e4,AT,Bool.false_and,or_self,or_true,true_or,or_false,false_or,if_true,if_false]
    ·rcases hk with hk | hk
     ·simp -dsimp only[go_sem,seval,C7,ha,h1,Aj,Ae,hn,hk,hr.1,hb,Bi,e0,Bool.false_and,or_self,or_true,true_or,or_false,false_or,if_true,if_false]
     ·simp -dsimp only[go_sem,seval,C7,ha,h1,Aj,Ae,hn,hk,hr.1,hb,hy,hw,Bi,FL,CD,e0,Bool.false_and,or_self,or_true,true_or,or_false,false_or,if_true,if_false]
   ·have k6: ¬s.kind=6:=by omega
    have k7: ¬s.kind=7:=by omega
    by_cases BB:s.kind=3
    ·by_cases E0:k=0
     ·have hq:=zcf (CK.q E0) t;have FD:(zxq c t).length=0:=by rw[hq];rfl
      cases AW:s.release
      ·simp -dsimp only[go_sem,seval,C7,ha,h1,Aj,Ae,BB,AW,E0,FD,or_self,or_true,true_or,or_false,false_or,if_true,if_false]
      ·simp -dsimp only[go_sem,seval,C7,ha,h1,Aj,Ae,BB,AW,E0,FD,or_self,or_true,true_or,or_false,false_or,if_true,if_false]
     ·by_cases h3:(zxq c t).length<3
      ·have BZ:((zxq c t).length:Int)<3:=by omega
       cases AW:s.release
       ·simp -dsimp only[go_sem,seval,C7,ha,h1,Aj,Ae,BB,AW,E0,h3,BZ,or_self,or_true,true_or,or_false,false_or,if_true,if_false]
       ·simp -dsimp only[go_sem,seval,C7,ha,h1,Aj,Ae,BB,AW,E0,h3,BZ,e0,or_self,or_true,true_or,or_false,false_or,if_true,if_false]
      ·have BZ: ¬((zxq c t).length:Int)<3:=by omega
       have BV: ¬(zxq c t).length=0:=by omega
       cases AW:s.release
       ·simp -dsimp only[go_sem,seval,C7,ha,h1,Aj,Ae,BB,AW,E0,h3,BZ,or_self,or_true,true_or,or_false,false_or,if_true,if_false]
       ·simp -dsimp only[go_sem,seval,C7,ha,h1,Aj,Ae,BB,AW,E0,h3,BZ,BV,or_self,or_true,true_or,or_false,false_or,if_true,if_false]
    ·by_cases Lu:s.kind=4
     ·simp -dsimp only[go_sem,seval,C7,ha,h1,Aj,Ae,Lu,e0,or_self,or_true,true_or,or_false,false_or,if_true,if_false]
     ·by_cases Lt:s.kind=5
      ·simp -dsimp only[go_sem,seval,C7,ha,h1,Aj,Ae,Lt,e0,or_self,or_true,true_or,or_false,false_or,if_true,if_false]
      ·by_cases Ba:s.kind=1
       ·simp -dsimp only[go_sem,seval,C7,ha,h1,Aj,Ae,Ba,or_self,or_true,true_or,or_false,false_or,if_true,if_false]
       ·have AX:s.kind=2:=by omega
        simp -dsimp only[go_sem,seval,C7,ha,h1,Aj,Ae,AX,or_self,or_true,true_or,or_false,false_or,if_true,if_false]
  ·have hE:zxi p c t s=false:=by simp[zxi,h2]
   rw[hE];simp -dsimp only[go_sem,seval,C7,ha,h1,Aj,h2]
 ·have hE:zxi p c t s=false:=by simp[zxi,F3,h1]
  rw[hE];simp -dsimp only[go_sem,seval,C7,ha,h1]
end Rg
end
section
-- FULL
namespace Rg
open Go
def stV (p:Prog) (k:Int) (c:Config):V:=.agg [.t (ints c.mem),.t (ints c.at_),.t (.sl (c.buf.map fun b=>[.sl (b.map Entry.enc)])),.t (.sl (p.cells.map Cell.enc)),.t (.sl (p.modules.map Contract.enc)),.t (.sl (p.locks.map Lock.enc)),.t (.sl (p.threads.map Thread.enc)),vi k]
theorem zhD (p:Prog) (hf:zw6 p=true) (k:Int) (c:Config) (hc:IsB p c) (t:Nat) (x:Thread) (hx:p.threads[t]? =some x) (i:Nat) (s:Step) (hs:x.steps[i]? =some s):
 Den Γ G 189 [stV p k c,vi t,vi i,.t (ints (zxd c t))]=some (vb (zxi p c t s)):=by
 have l1:=hc.lm;have l2:=hc.la;have l3:=hc.lb;have Bc:=za4 hf hx hs;have Dv:t<p.threads.length:=(zH.1 hx).1;obtain⟨a,ha,_⟩:=zad (show t<c.at_.length by omega);have F3:atI c.at_ t=a:=zb9 (by simpa using ha);have Aj:=zbT s.guard (zxd c t) (zxd c t);have Ae:=zx4 (c:=c) (t:=t) (by omega);unfold stV
 (refine zw3 Γ189 rfl ?_;dsimp only[f189])
 by_cases h1:a=s.fr
 ·by_cases h2:s.guard.eval (zxd c t) (zxd c t)=1
  ·have hE:zxi p c t s=(if s.kind=3 then(if s.release then decide ((zxq c t).length=0)else decide ((zxq c t).length<3))
    else if s.kind=4\/s.kind=5 then decide ((zxq c t).length=0)
    else if s.kind=6 then decide ((zxq c t).length=0)&&decide (atI c.at_ s.target= -1)
    else if s.kind=7 then decide ((zxq c t).length=0)&&(decide (atI c.at_ s.target=zbh p s.target-1)&&decide ((zxq c s.target.toNat).length=0))
    else true):=by
    simp[zxi,F3,h1,h2]
   rw[h2]at Aj;rw[hE];have e0:((zxq c t).length:Int)=0<->(zxq c t).length=0:=by omega
   have e3:((zxq c t).length:Int)<3<->(zxq c t).length<3:=by omega
   by_cases hk:s.kind=6\/s.kind=7
   ·obtain⟨hr,_⟩:=Bc.tgt hk;simp only[inR,decide_eq_true_eq]at hr;obtain⟨b,hb,_⟩:=zad (show s.target.toNat<c.at_.length by omega);obtain⟨y,hy,_⟩:=zad (show s.target.toNat<p.threads.length by omega);have Lh:=zbe hf hy;have hw:IntKind.i64.wrap (y.points-1)=y.points-1:=zaj (by omega);have Bi:=zb9 hb;have FL:zbh p s.target=y.points:=by simp[zbh,hy]
    have CD:=zx4 (c:=c) (t:=s.target.toNat) (by omega);have e4:((zxq c s.target.toNat).length:Int)=0<->(zxq c s.target.toNat).length=0:=by omega
    by_cases hn:(zxq c t).length=0
    ·rcases hk with hk | hk
     ·simp -dsimp [go_sem,hx,hs,ha,h1,Aj,Ae,hn,hk,hr.1,hb,Bi]
     ·by_cases E5:b=y.points-1
      ·simp -dsimp [go_sem,hx,hs,ha,h1,Aj,Ae,hn,hk,hr.1,hb,hy,hw,Bi,FL,CD,E5,e4]
      ·simp -dsimp [go_sem,hx,hs,ha,h1,Aj,Ae,hn,hk,hr.1,hb,hy,hw,Bi,FL,CD,E5,e4]
    ·rcases hk with hk | hk
     ·simp -dsimp [go_sem,hx,hs,ha,h1,Aj,Ae,hn,hk,hr.1,hb,Bi,e0]
     ·simp -dsimp [go_sem,hx,hs,ha,h1,Aj,Ae,hn,hk,hr.1,hb,hy,hw,Bi,FL,CD,e0]
   ·have k6: ¬s.kind=6:=by omega
    have k7: ¬s.kind=7:=by omega
    by_cases BB:s.kind=3
    ·cases AW:s.release
     ·simp -dsimp [go_sem,hx,hs,ha,h1,Aj,Ae,BB,AW,e3]
     ·simp -dsimp [go_sem,hx,hs,ha,h1,Aj,Ae,BB,AW,e0]
    ·by_cases Lu:s.kind=4
     ·simp -dsimp [go_sem,hx,hs,ha,h1,Aj,Ae,Lu,e0]
     ·by_cases Lt:s.kind=5
      ·simp -dsimp [go_sem,hx,hs,ha,h1,Aj,Ae,Lt,e0]
      ·simp -dsimp [go_sem,hx,hs,ha,h1,Aj,Ae,k6,k7,BB,Lu,Lt]
  ·have hE:zxi p c t s=false:=by simp[zxi,h2]
   rw[hE];simp -dsimp [go_sem,hx,hs,ha,h1,Aj,h2]
 ·have hE:zxi p c t s=false:=by simp[zxi,F3,h1]
  rw[hE];simp -dsimp [go_sem,hx,hs,ha,h1]
def ziH (h:Nat->Option O) (lo hi:Nat) (v:V) (rows:List (List V)):Prop:=
 (v= .t (.sl [])/\rows=[])\/ ∃k,v= .ms k 0 rows.length/\lo<=k/\k<hi/\h k=some (.rows 1 rows false)
theorem ziH.keep {h h':Nat->Option O} {lo hi:Nat} {v:V} {rows:List (List V)} (o:ziH h lo hi v rows) (hh: ∀k,lo<=k->k<hi->h' k=h k):ziH h' lo hi v rows:=by
 rcases o with o | ⟨k,h1,h2,h3,h4⟩
 ·exact .inl o
 ·exact .inr ⟨k,h1,h2,h3,by rw[hh k h2 h3];exact h4⟩
theorem ziH.val {h:Nat->Option O} {lo hi:Nat} {v:V} {rows:List (List V)} (o:ziH h lo hi v rows):Rg.valOf v=some v/\V.cells v=some [v]:=by
 rcases o with⟨rfl,_⟩ | ⟨k,rfl,_⟩<;>exact⟨rfl,rfl⟩
theorem ziH.tree {h:Nat->Option O} {lo hi:Nat} {v:V} {l:List Int} (o:ziH h lo hi v (zw5 l)) (d:Nat):toT h (d+1) v=some (ints l):=by
 rcases o with⟨rfl,he⟩ | ⟨k,rfl,_,_,hh⟩
 ·have:l=[]:=by
   have:=congrArg List.length he;rw[zw2]at this;exact List.eq_nil_of_length_eq_zero this
  subst this;rfl
 ·have Cu:List.take (zw5 l).length (zw5 l)=zw5 l:=zaC rfl;simp only[toT,hh,rd,Nat.zero_add,Nat.le_refl,if_true,List.drop_zero,Cu,zC,zD,zaL]
def znY (h:Nat->Option O) (lo hi:Nat) (r:List V) (e:Entry):Prop:=
 ∃kc kv,r=[.ms kc 0 e.cells.length,.ms kv 0 e.values.length]/\lo<=kc/\kc<hi/\lo<=kv/\kv<hi/\h kc=some (.rows 1 (zw5 e.cells) false)/\h kv=some (.rows 1 (zw5 e.values) false)
theorem znY.keep {h h':Nat->Option O} {lo hi lo' AN:Nat} {r:List V} {e:Entry} (o:znY h lo hi r e) (h1:lo'<=lo) (h2:hi<=AN) (hh: ∀k,lo<=k->k<hi->(∀rs fz,h k≠some (.rows 2 rs fz))->h' k=h k):znY h' lo' AN r e:=by
 obtain⟨kc,kv,e1,a1,a2,a3,a4,a5,a6⟩:=o;exact⟨kc,kv,e1,by omega,by omega,by omega,by omega,by rw[hh kc a1 a2 (by rw[a5];simp)];exact a5,by rw[hh kv a3 a4 (by rw[a6];simp)];exact a6⟩
theorem znY.tree {h:Nat->Option O} {lo hi:Nat} {r:List V} {e:Entry} (o:znY h lo hi r e) (d:Nat):r.mapM (toT h (d+1))=some (Entry.enc e):=by
 obtain⟨kc,kv,rfl,a1,a2,a3,a4,a5,a6⟩:=o;have h1:=ziH.tree (h:=h) (lo:=lo) (hi:=hi) (v:=.ms kc 0 e.cells.length) (l:=e.cells) (.inr ⟨kc,by rw[zw2],a1,a2,a5⟩) d;have h2:=ziH.tree (h:=h) (lo:=lo) (hi:=hi) (v:=.ms kv 0 e.values.length) (l:=e.values) (.inr ⟨kv,by rw[zw2],a3,a4,a6⟩) d;rw[List.mapM_cons,h1,List.mapM_cons,h2,List.mapM_nil];rfl
def zhU (h:Nat->Option O) (lo hi:Nat) (v:V) (b:List Entry):Prop:=
 ∃rows,((v= .t .nils/\rows=[])\/ ∃k,v= .ms k 0 rows.length/\lo<=k/\k<hi/\h k=some (.rows 2 rows false))/\rows.length=b.length/\(∀r∈rows,r.length=2)/\
  ∀(j:Nat) (e:Entry),b[j]? =some e-> ∃r,rows[j]? =some r/\znY h lo hi r e
theorem zhU.keep {h h':Nat->Option O} {lo hi AN:Nat} {v:V} {b:List Entry} (o:zhU h lo hi v b) (h2:hi<=AN) (hh: ∀k,lo<=k->k<hi->h' k=h k):zhU h' lo AN v b:=by
 obtain⟨rows,h1,h3,h4,h5⟩:=o;refine⟨rows,?_,h3,h4,fun j e he=> ?_⟩
 ·rcases h1 with h1 | ⟨k,a1,a2,a3,a4⟩
  ·exact .inl h1
  ·exact .inr ⟨k,a1,a2,by omega,by rw[hh k a2 a3];exact a4⟩
 ·obtain⟨r,hr,hE⟩:=h5 j e he;exact⟨r,hr,hE.keep (Nat.le_refl _) h2 fun k k1 k2 _=>hh k k1 k2⟩
theorem zdY {h:Nat->Option O} {d:Nat}: ∀(rows:List (List V)) (b:List Entry),rows.length=b.length->(∀(j:Nat) (e:Entry),b[j]? =some e-> ∃r,rows[j]? =some r/\r.mapM (toT h d)=some (Entry.enc e))->
 rows.mapM (fun row=>row.mapM (toT h d))=some (b.map Entry.enc)
 | [],[],_,_=>rfl
 | [],_::_,hl,_=>by simp at hl
 | _::_,[],hl,_=>by simp at hl
 | r::rows,e::b,hl,hj=>by
   have ih:=zdY rows b (by simpa using hl) fun j e he=>hj (j+1) e he
   obtain⟨r',hr,ht⟩:=hj 0 e rfl;simp only[List.getElem?_cons_zero,zA]at hr;subst hr;rw[List.mapM_cons,ht,ih];rfl
theorem zhU.tree {h:Nat->Option O} {lo hi:Nat} {v:V} {b:List Entry} (o:zhU h lo hi v b) (d:Nat):toT h (d+2) v=some (.sl (b.map Entry.enc)):=by
 obtain⟨rows,h1,h3,h4,h5⟩:=o;rcases h1 with⟨rfl,rfl⟩ | ⟨k,rfl,a2,a3,a4⟩
 ·have:b=[]:=List.eq_nil_of_length_eq_zero (by simpa using h3.symm);subst this;rfl
 ·have Cu:List.take rows.length rows=rows:=zaC rfl
  have hr:=zdY (h:=h) (d:=d+1) rows b h3 fun j e he=>by
   obtain⟨r,hr,hE⟩:=h5 j e he;exact⟨r,hr,hE.tree d⟩
  simp only[toT,a4,rd,Nat.zero_add,Nat.le_refl,if_true,List.drop_zero,Cu,zC,zD,hr]
theorem zhU.val {h:Nat->Option O} {lo hi:Nat} {v:V} {b:List Entry} (o:zhU h lo hi v b):Rg.valOf v=some v/\V.cells v=some [v]:=by
 obtain⟨rows,⟨rfl,_⟩ | ⟨k,rfl,_⟩,_⟩:=o<;>exact⟨rfl,rfl⟩
structure BufsV (h:Nat->Option O) (bd:Nat->Nat) (vs:List (List V)) (bs:List (List Entry)):Prop where
 len:vs.length=bs.length
 mono: ∀q,q<bs.length->bd q<=bd (q+1)
 at_: ∀(q:Nat) (b:List Entry),bs[q]? =some b-> ∃v,vs[q]? =some [v]/\zhU h (bd q) (bd (q+1)) v b
theorem BufsV.le {h:Nat->Option O} {bd:Nat->Nat} {vs:List (List V)} {bs:List (List Entry)} (o:BufsV h bd vs bs) {q r:Nat} (hq:q<=r) (hr:r<=bs.length):bd q<=bd r:=by
 induction r with
 | zero=>have:q=0:=by omega
         subst this;exact Nat.le_refl _
 | succ r ih=>
   rcases Nat.lt_or_ge q (r+1)with h | h
   ·exact Nat.le_trans (ih (by omega) (by omega)) (o.mono r (by omega))
   ·have:q=r+1:=by omega
    subst this;exact Nat.le_refl _
theorem BufsV.snoc {h h':Nat->Option O} {bd:Nat->Nat} {vs:List (List V)} {bs:List (List Entry)} (o:BufsV h bd vs bs) {x:Nat} {v:V} {b:List Entry} (hx:bd bs.length<=x)
 (hh: ∀k,bd 0<=k->k<bd bs.length->h' k=h k) (hv:zhU h' (bd bs.length) x v b):BufsV h' (fun q=>if q<=bs.length then bd q else x) (vs++[[v]]) (bs++[b]):=by
 refine⟨by simp[o.len],fun q hq=> ?_,fun q b' hb=> ?_⟩
 ·rw[zM,List.length_singleton]at hq;rcases Nat.lt_or_ge q bs.length with h1 | h1
  ·rw[if_pos (by omega),if_pos (by omega)];exact o.mono q h1
  ·have:q=bs.length:=by omega
   subst this;rw[if_pos (Nat.le_refl _),if_neg (by omega)];exact hx
 ·rcases Nat.lt_or_ge q bs.length with h1 | h1
  ·rw[List.getElem?_append_left h1]at hb;obtain⟨u,hu,hB⟩:=o.at_ q b' hb;refine⟨u,by rw[List.getElem?_append_left (by rw[o.len];exact h1)];exact hu,?_⟩;rw[if_pos (by omega),if_pos (by omega)];refine hB.keep (Nat.le_refl _) fun k k1 k2=>hh k ?_ ?_
   ·have:=o.le (Nat.zero_le q) (by omega);omega
   ·have:=o.le (show q+1<=bs.length by omega) (Nat.le_refl _);omega
  ·have hq:q=bs.length:=by
    have:=(zH.1 hb).1;rw[zM,List.length_singleton]at this;omega
   subst hq;rw[List.getElem?_append_right (Nat.le_refl _),Nat.sub_self]at hb;simp only[List.getElem?_cons_zero,zA]at hb;subst hb;refine⟨v,by rw[List.getElem?_append_right (by rw[o.len];exact Nat.le_refl _),o.len,Nat.sub_self];rfl,?_⟩;rw[if_pos (Nat.le_refl _),if_neg (by omega)];exact hv
def zvP (h:Nat->Option O) (x:Nat) (vM vA:V) (kB:Nat) (c:Config):Prop:=
 ∃x1 x2 bd vs,ziH h 0 x1 vM (zw5 c.mem)/\ziH h x1 x2 vA (zw5 c.at_)/\x1<=x2/\x2<=kB/\kB<bd 0/\h kB=some (.rows 1 vs false)/\BufsV h bd vs c.buf/\bd c.buf.length<=x
end Rg
end
