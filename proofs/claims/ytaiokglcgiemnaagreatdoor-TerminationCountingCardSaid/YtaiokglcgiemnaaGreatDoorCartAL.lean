/- Part of the proof of laws of relyguardlaw36. No condition. -/
import Derived.Test.YtaiokglcgiemnaaGreatDoorCartAK
import Derived.Test.YtaiokglcgiemnaaGreatDoorCartAJ
set_option linter.unusedSimpArgs false
set_option linter.unusedVariables false
section
namespace Rg
open Go
theorem zfd (l:List Int) (n:Int) (hn:0<=n):Den Γ G 72 [.t (ints l),vi n]=some (vi (atI l n)):=by
 (refine zw3 Γ72 rfl ?_;dsimp only[f72])
 rcases hc:l[n.toNat]? with _ | c
 ·have Co: ¬n<(l.length:Int):=by rw[List.getElem?_eq_none_iff]at hc;omega
  simp -dsimp only[go_sem,seval,Co];simp[atI,List.getD,hc]
 ·have Co:n<(l.length:Int):=by have:=(zH.1 hc).1;omega
  simp -dsimp only[go_sem,seval,Co,hn,hc];simp[atI,List.getD,hc]
theorem zgQ (b:Bool):Den Γ G 92 [vb b]=some (vi (if b then 1 else 0)):=by
 (refine zw3 Γ92 rfl ?_;dsimp only[f92])
 cases b
 ·simp -dsimp only[go_sem,seval]
 ·simp -dsimp only[go_sem,seval]
theorem zkY {a:Int} (ha:0<=a/\a<2^62):IntKind.i64.wrap ((BitVec.ofInt IntKind.i64.bits (-1)^^^ BitVec.ofInt IntKind.i64.bits a).toNat)= -1-a:=by
 show IntKind.i64.wrap ((BitVec.ofInt 64 (-1)^^^ BitVec.ofInt 64 a).toNat)=_;have h1:BitVec.ofInt 64 (-1)=BitVec.allOnes 64:=by decide
 rw[h1,BitVec.allOnes_xor,BitVec.toNat_not,zcw ha,IntKind.wrap_i64];omega
def zCT (op a b c:Int):Int:=
 if op=4 then -1-a
 else if op=5 then((a.toNat&&& b.toNat:Nat):Int)
 else if op=6 then((a.toNat ||| b.toNat:Nat):Int)
 else if op=7 then((a.toNat^^^ b.toNat:Nat):Int)
 else if op=8 then a+b
 else if op=9 then a-b
 else if op=10 then a*b
 else if op=11 then(if a=b then 1 else 0)
 else if op=12 then(if a<b then 1 else 0)
 else if op=13 then(if a<=b then 1 else 0)
 else if op=14 then(if a=1 then b else c)
 else 0
set_option maxHeartbeats 2000000 in
theorem zd8 (op a b c:Int) (Ao:4<=op/\op<=14) (ha:0<=a/\a<256) (hb:0<=b/\b<256) (hc:0<=c/\c<256):Den Γ G 73 [vi op,.agg [vi a,vi b,vi c]]=some (vi (zCT op a b c)):=by
 (refine zw3 Γ73 rfl ?_;dsimp only[f73])
 have KV:=zhO (a:=a) (b:=b) (by omega) (by omega);have EX:=zi4 (a:=a) (b:=b) (by omega) (by omega);have J9:=zgN (a:=a) (b:=b) (by omega) (by omega);have FR:=zkY (a:=a) (by omega)
 have Kn:0<=a*b/\a*b<=65536:=⟨Int.mul_nonneg ha.1 hb.1,by
  have h1:a*b<=256*b:=Int.mul_le_mul_of_nonneg_right (by omega) hb.1
  omega⟩
 have Cq:IntKind.i64.wrap (a+b)=a+b:=zaj (by omega);have C4:IntKind.i64.wrap (a+ -b)=a-b:=by rw[zaj (by omega)];omega
 have HP:IntKind.i64.wrap (0-b)= -b:=by rw[zaj (by omega)];omega
 have NC:IntKind.i64.wrap (a*b)=a*b:=zaj (by omega);have Gy:=zgQ (decide (a=b));have GJ:=zgQ (decide (a<b));have O9:IntKind.i64.signed=true:=rfl;have AU:op=4\/op=5\/op=6\/op=7\/op=8\/op=9\/op=10\/op=11\/op=12\/op=13\/op=14:=by omega
 clear Kn Ao;rcases AU with rfl | rfl | rfl | rfl | rfl | rfl | rfl | rfl | rfl | rfl | rfl
 ·simp -dsimp only[go_sem,seval,FR,O9];rfl
 ·simp -dsimp only[go_sem,seval,KV];rfl
 ·simp -dsimp only[go_sem,seval,EX];rfl
 ·simp -dsimp only[go_sem,seval,J9];rfl
 ·simp -dsimp only[go_sem,seval,Cq];rfl
 ·simp -dsimp only[go_sem,seval,C4,HP];rfl
 ·simp -dsimp only[go_sem,seval,NC];rfl
 ·simp -dsimp only[go_sem,seval,Gy];simp[zCT]
 ·simp -dsimp only[go_sem,seval,GJ];simp[zCT]
 ·simp -dsimp only[go_sem,seval,GJ];refine zw1 (fun h=> ?_) (fun h=> ?_)<;>(try simp only[zab]at h)<;>(try simp -dsimp only[go_sem,seval, *])
  ·simp[zCT,h]
  ·have:a<=b<->a<b:=by omega
   simp[zCT,this]
 ·simp -dsimp only[go_sem,seval];refine zw1 (fun h=> ?_) (fun h=> ?_)<;>(try simp only[zab]at h)<;>(try simp -dsimp only[go_sem,seval, *])
  ·simp[zCT]
  ·simp[zCT,h]
end Rg
end
section
namespace Rg
open Go
theorem zl2 (x m w:Int) (hw:0<=w/\w<=62) (hm:m=2^w.toNat-1):IntKind.i64.wrap ((BitVec.ofInt IntKind.i64.bits x&&& BitVec.ofInt IntKind.i64.bits m).toNat)=x % 2^w.toNat:=by
 subst hm;exact zgI x w hw
theorem znA {op w a b c:Int} (Ao:4<=op/\op<=14) (hw:1<=w) (ho:0<=opv op w a b c/\opv op w a b c<2^w.toNat) (ha:0<=a):zCT op a b c % 2^w.toNat=opv op w a b c:=by
 have Mz:=zxD w.toNat;have AU:op=4\/op=5\/op=6\/op=7\/op=8\/op=9\/op=10\/op=11\/op=12\/op=13\/op=14:=by omega
 rcases AU with rfl | rfl | rfl | rfl | rfl | rfl | rfl | rfl | rfl | rfl | rfl
 ·have h1:(-1-a) % 2^w.toNat=(2^w.toNat-1-a) % 2^w.toNat:=by
   rw[show 2^w.toNat-1-a=(-1-a)+2^w.toNat by omega,Int.add_emod_right]
  show(-1-a) % 2^w.toNat=2^w.toNat-1-a;rw[h1];exact Int.emod_eq_of_lt ho.1 ho.2
 ·exact Int.emod_eq_of_lt ho.1 ho.2
 ·exact Int.emod_eq_of_lt ho.1 ho.2
 ·exact Int.emod_eq_of_lt ho.1 ho.2
 ·rfl
 ·rfl
 ·rfl
 ·exact Int.emod_eq_of_lt ho.1 ho.2
 ·exact Int.emod_eq_of_lt ho.1 ho.2
 ·exact Int.emod_eq_of_lt ho.1 ho.2
 ·exact Int.emod_eq_of_lt ho.1 ho.2
theorem zk8 {e:Expr} (h:zxt e=true) (h1: ¬e.op=1) (h2: ¬e.op=2) (h3: ¬e.op=3):4<=e.op/\e.op<=14:=by
 have:=za8 h;rcases zbZ e.op with hh | hh | hh | hh | hh | hh | hh | hh | hh | hh | hh | hh | hh | hh | Ao
 all_goals(try omega)
 rw[zbV Ao]at this;omega
set_option maxHeartbeats 4000000 in
theorem zjw (old now:List Int) (d:Nat): ∀e:Expr,e.deep d=true->Den Γ G 56 [.t (.ip [ti e.op,ti e.w,ti e.n,.sl (e.kids.map Expr.enc)]),.t (ints old),.t (ints now)]=some (vi (e.ev old now)):=by
 induction d with
 | zero=>intro e h;simp[Expr.deep]at h
 | succ d ih=>
   intro e h;have hn:=zxO h;have hw:=zhh hn;have BV:=zc1 hn;have Ea:=zbr hn
   (refine zw3 Γ56 rfl ?_;dsimp only[f56])
   by_cases h1:e.op=1
   ·simp -dsimp only[go_sem,seval,h1];rw[Expr.ev_eq,if_pos h1]
   ·have key: ∀m:Int,m=2^e.w.toNat-1->(∀x:Int,IntKind.i64.wrap ((BitVec.ofInt IntKind.i64.bits x&&& BitVec.ofInt IntKind.i64.bits m).toNat)=x % 2^e.w.toNat):=fun m hm x=>zl2 x m e.w (by omega) hm
    by_cases h2:e.op=2
    ·have h3:=zfd now e.n BV;have Aj:e.ev old now=atI now e.n % 2^e.w.toNat:=by rw[Expr.ev_eq,if_neg h1,if_pos h2]
     rw[Aj]
     generalize e.w=w at *
     rcases zbJ hw with rfl | rfl | rfl | rfl | rfl | rfl | rfl | rfl
     ·have km:=key 1 rfl;simp -dsimp only[go_sem,seval,h2,h3,km]
     ·have km:=key 3 rfl;simp -dsimp only[go_sem,seval,h2,h3,km]
     ·have km:=key 7 rfl;simp -dsimp only[go_sem,seval,h2,h3,km]
     ·have km:=key 15 rfl;simp -dsimp only[go_sem,seval,h2,h3,km]
     ·have km:=key 31 rfl;simp -dsimp only[go_sem,seval,h2,h3,km]
     ·have km:=key 63 rfl;simp -dsimp only[go_sem,seval,h2,h3,km]
     ·have km:=key 127 rfl;simp -dsimp only[go_sem,seval,h2,h3,km]
     ·have km:=key 255 rfl;simp -dsimp only[go_sem,seval,h2,h3,km]
    ·by_cases h3:e.op=3
     ·have BZ:=zfd old e.n BV;have Aj:e.ev old now=atI old e.n % 2^e.w.toNat:=by rw[Expr.ev_eq,if_neg h1,if_neg h2,if_pos h3]
      rw[Aj]
      generalize e.w=w at *
      rcases zbJ hw with rfl | rfl | rfl | rfl | rfl | rfl | rfl | rfl
      ·have km:=key 1 rfl;simp -dsimp only[go_sem,seval,h3,BZ,km]
      ·have km:=key 3 rfl;simp -dsimp only[go_sem,seval,h3,BZ,km]
      ·have km:=key 7 rfl;simp -dsimp only[go_sem,seval,h3,BZ,km]
      ·have km:=key 15 rfl;simp -dsimp only[go_sem,seval,h3,BZ,km]
      ·have km:=key 31 rfl;simp -dsimp only[go_sem,seval,h3,BZ,km]
      ·have km:=key 63 rfl;simp -dsimp only[go_sem,seval,h3,BZ,km]
      ·have km:=key 127 rfl;simp -dsimp only[go_sem,seval,h3,BZ,km]
      ·have km:=key 255 rfl;simp -dsimp only[go_sem,seval,h3,BZ,km]
     ·have Ao:=zk8 hn h1 h2 h3;have hb:=zeC old now _ e h
      have Aj:e.ev old now=opv e.op e.w ((e.kids.map (Expr.ev old now)).getD 0 0) ((e.kids.map (Expr.ev old now)).getD 1 0) ((e.kids.map (Expr.ev old now)).getD 2 0):=by
       rw[Expr.ev_eq,if_neg h1,if_neg h2,if_neg h3]
      have hk: ∀k∈e.kids,Den Γ G 56 [.t (.ip [ti k.op,ti k.w,ti k.n,.sl (k.kids.map Expr.enc)]),.t (ints old),.t (ints now)]=some (vi (k.ev old now)):=fun k hk=>ih k (zx9 h hk)
      have AG:=(zBA old now h).2.2.1;rw[Aj]at hb;have Cy:=znA (a:=((e.kids.map (Expr.ev old now)).getD 0 0)) (b:=((e.kids.map (Expr.ev old now)).getD 1 0)) (c:=((e.kids.map (Expr.ev old now)).getD 2 0)) Ao hw.1 hb;rw[Aj];clear Aj hb ih;simp -dsimp only[go_sem,seval,h1,h2,h3]
      generalize he:e.kids=ks at *
      rcases ks with _ | ⟨a,_ | ⟨b,_ | ⟨c,_ | ⟨x,r⟩⟩⟩⟩
      ·exfalso;have ha:=za8 hn;rw[he]at ha;rcases Ao with⟨o1,o2⟩
       have:1<=zyl e.op:=by unfold zyl;grind
       simp at ha;omega
      ·have Ec:=hk a (by simp);have Jw:=AG (a.ev old now) (by simp);have hd:=zd8 e.op (a.ev old now) 0 0 Ao (by omega) (by omega) (by omega);have Cy:=Cy (by simp only[List.map_cons,List.getD_cons_zero];omega);rw[<- Cy];clear Cy;refine zai ?_;simp -dsimp only[go_sem,seval,he,Ec];refine zai ?_
       generalize e.w=w at *
       rcases zbJ hw with rfl | rfl | rfl | rfl | rfl | rfl | rfl | rfl
       ·have km:=key 1 rfl;simp -dsimp only[go_sem,seval,he,hd,km,List.map_cons,List.map_nil,List.getD_cons_zero,List.getD_cons_succ,List.getD_nil]
       ·have km:=key 3 rfl;simp -dsimp only[go_sem,seval,he,hd,km,List.map_cons,List.map_nil,List.getD_cons_zero,List.getD_cons_succ,List.getD_nil]
       ·have km:=key 7 rfl;simp -dsimp only[go_sem,seval,he,hd,km,List.map_cons,List.map_nil,List.getD_cons_zero,List.getD_cons_succ,List.getD_nil]
       ·have km:=key 15 rfl;simp -dsimp only[go_sem,seval,he,hd,km,List.map_cons,List.map_nil,List.getD_cons_zero,List.getD_cons_succ,List.getD_nil]
       ·have km:=key 31 rfl;simp -dsimp only[go_sem,seval,he,hd,km,List.map_cons,List.map_nil,List.getD_cons_zero,List.getD_cons_succ,List.getD_nil]
       ·have km:=key 63 rfl;simp -dsimp only[go_sem,seval,he,hd,km,List.map_cons,List.map_nil,List.getD_cons_zero,List.getD_cons_succ,List.getD_nil]
       ·have km:=key 127 rfl;simp -dsimp only[go_sem,seval,he,hd,km,List.map_cons,List.map_nil,List.getD_cons_zero,List.getD_cons_succ,List.getD_nil]
       ·have km:=key 255 rfl;simp -dsimp only[go_sem,seval,he,hd,km,List.map_cons,List.map_nil,List.getD_cons_zero,List.getD_cons_succ,List.getD_nil]
      ·have Ec:=hk a (by simp);have Jw:=AG (a.ev old now) (by simp);have CV:=hk b (by simp);have KE:=AG (b.ev old now) (by simp);have hd:=zd8 e.op (a.ev old now) (b.ev old now) 0 Ao (by omega) (by omega) (by omega);have Cy:=Cy (by simp only[List.map_cons,List.getD_cons_zero];omega);rw[<- Cy];clear Cy;refine zai ?_;simp -dsimp only[go_sem,seval,he,Ec];refine zai ?_;simp -dsimp only[go_sem,seval,he,CV];refine zai ?_
       generalize e.w=w at *
       rcases zbJ hw with rfl | rfl | rfl | rfl | rfl | rfl | rfl | rfl
       ·have km:=key 1 rfl;simp -dsimp only[go_sem,seval,he,hd,km,List.map_cons,List.map_nil,List.getD_cons_zero,List.getD_cons_succ,List.getD_nil]
       ·have km:=key 3 rfl;simp -dsimp only[go_sem,seval,he,hd,km,List.map_cons,List.map_nil,List.getD_cons_zero,List.getD_cons_succ,List.getD_nil]
       ·have km:=key 7 rfl;simp -dsimp only[go_sem,seval,he,hd,km,List.map_cons,List.map_nil,List.getD_cons_zero,List.getD_cons_succ,List.getD_nil]
       ·have km:=key 15 rfl;simp -dsimp only[go_sem,seval,he,hd,km,List.map_cons,List.map_nil,List.getD_cons_zero,List.getD_cons_succ,List.getD_nil]
       ·have km:=key 31 rfl;simp -dsimp only[go_sem,seval,he,hd,km,List.map_cons,List.map_nil,List.getD_cons_zero,List.getD_cons_succ,List.getD_nil]
       ·have km:=key 63 rfl;simp -dsimp only[go_sem,seval,he,hd,km,List.map_cons,List.map_nil,List.getD_cons_zero,List.getD_cons_succ,List.getD_nil]
       ·have km:=key 127 rfl;simp -dsimp only[go_sem,seval,he,hd,km,List.map_cons,List.map_nil,List.getD_cons_zero,List.getD_cons_succ,List.getD_nil]
       ·have km:=key 255 rfl;simp -dsimp only[go_sem,seval,he,hd,km,List.map_cons,List.map_nil,List.getD_cons_zero,List.getD_cons_succ,List.getD_nil]
      ·have Ec:=hk a (by simp);have Jw:=AG (a.ev old now) (by simp);have CV:=hk b (by simp);have KE:=AG (b.ev old now) (by simp);have Dx:=hk c (by simp);have PS:=AG (c.ev old now) (by simp);have hd:=zd8 e.op (a.ev old now) (b.ev old now) (c.ev old now) Ao (by omega) (by omega) (by omega);have Cy:=Cy (by simp only[List.map_cons,List.getD_cons_zero];omega);rw[<- Cy];clear Cy;refine zai ?_;simp -dsimp only[go_sem,seval,he,Ec];refine zai ?_;simp -dsimp only[go_sem,seval,he,CV];refine zai ?_;simp -dsimp only[go_sem,seval,he,Dx];refine zai ?_
       generalize e.w=w at *
       rcases zbJ hw with rfl | rfl | rfl | rfl | rfl | rfl | rfl | rfl
       ·have km:=key 1 rfl;simp -dsimp only[go_sem,seval,he,hd,km,List.map_cons,List.map_nil,List.getD_cons_zero,List.getD_cons_succ,List.getD_nil]
       ·have km:=key 3 rfl;simp -dsimp only[go_sem,seval,he,hd,km,List.map_cons,List.map_nil,List.getD_cons_zero,List.getD_cons_succ,List.getD_nil]
       ·have km:=key 7 rfl;simp -dsimp only[go_sem,seval,he,hd,km,List.map_cons,List.map_nil,List.getD_cons_zero,List.getD_cons_succ,List.getD_nil]
       ·have km:=key 15 rfl;simp -dsimp only[go_sem,seval,he,hd,km,List.map_cons,List.map_nil,List.getD_cons_zero,List.getD_cons_succ,List.getD_nil]
       ·have km:=key 31 rfl;simp -dsimp only[go_sem,seval,he,hd,km,List.map_cons,List.map_nil,List.getD_cons_zero,List.getD_cons_succ,List.getD_nil]
       ·have km:=key 63 rfl;simp -dsimp only[go_sem,seval,he,hd,km,List.map_cons,List.map_nil,List.getD_cons_zero,List.getD_cons_succ,List.getD_nil]
       ·have km:=key 127 rfl;simp -dsimp only[go_sem,seval,he,hd,km,List.map_cons,List.map_nil,List.getD_cons_zero,List.getD_cons_succ,List.getD_nil]
       ·have km:=key 255 rfl;simp -dsimp only[go_sem,seval,he,hd,km,List.map_cons,List.map_nil,List.getD_cons_zero,List.getD_cons_succ,List.getD_nil]
      ·exfalso;simp at Ea
end Rg
end
section
namespace Rg
open Go
theorem zbT (e:Expr) (old now:List Int):Den Γ G 27 [(.agg [.t (ti (e).op),.t (ti (e).w),.t (ti (e).n),.t (.sl ((e).kids.map (Expr.enc)))]),.t (ints old),.t (ints now)]=some (vi (e.eval old now)):=by
 (refine zw3 Γ27 rfl ?_;dsimp only[f27])
 have h1:=zb4 e
 by_cases hf:e.formed=true
 ·have h2:=zjw old now 40 e (zxk hf);simp -dsimp only[go_sem,seval,h1,h2,hf];simp[Expr.eval,hf]
 ·have hf:e.formed=false:=by simpa using hf
  simp -dsimp only[go_sem,seval,h1,hf];simp[Expr.eval,hf]
def inR (i n:Int):Bool:=decide (0<=i/\i<n)
theorem zaT (i n:Int):Den Γ G 96 [vi i,vi n]=some (vb (inR i n)):=by
 (refine zw3 Γ96 rfl ?_;dsimp only[f96])
 simp -dsimp only[go_sem,seval];refine zw1 (fun h=> ?_) (fun h=> ?_)<;>(try simp only[zab]at h)<;>(try simp -dsimp only[go_sem,seval, *])
 ·simp[inR];omega
 ·simp[inR];omega
theorem zb1 (i n:Int):Den Γ G 110 [vi i,vi n]=some (vb (inR i n)):=by
 (refine zw3 Γ110 rfl ?_;dsimp only[f110])
 simp -dsimp only[go_sem,seval];refine zw1 (fun h=> ?_) (fun h=> ?_)<;>(try simp only[zab]at h)<;>(try simp -dsimp only[go_sem,seval, *])
 ·simp[inR];omega
 ·simp[inR];omega
def Expr.absent (e:Expr):Bool:=decide (e.op=0/\e.w=0/\e.n=0/\e.kids=[])
theorem ziG (e:Expr):Den Γ G 98 [(.agg [.t (ti (e).op),.t (ti (e).w),.t (ti (e).n),.t (.sl ((e).kids.map (Expr.enc)))])]=some (vb e.absent):=by
 (refine zw3 Γ98 rfl ?_;dsimp only[f98])
 simp -dsimp only[go_sem,seval]
 repeat'(refine zw1 (fun h=> ?_) (fun h=> ?_)<;>(try simp only[zab]at h)<;>(try simp -dsimp only[go_sem,seval, *]))
 all_goals(simp[Expr.absent, *])
theorem ziF (e:Expr):Den Γ G 111 [(.agg [.t (ti (e).op),.t (ti (e).w),.t (ti (e).n),.t (.sl ((e).kids.map (Expr.enc)))])]=some (vb e.absent):=by
 (refine zw3 Γ111 rfl ?_;dsimp only[f111])
 simp -dsimp only[go_sem,seval]
 repeat'(refine zw1 (fun h=> ?_) (fun h=> ?_)<;>(try simp only[zab]at h)<;>(try simp -dsimp only[go_sem,seval, *]))
 all_goals(simp[Expr.absent, *])
def Expr.one (e:Expr):Bool:=decide (e.op=1/\e.w=1/\e.n=1/\e.kids=[])
theorem zor (e:Expr):Den Γ G 166 [(.agg [.t (ti (e).op),.t (ti (e).w),.t (ti (e).n),.t (.sl ((e).kids.map (Expr.enc)))])]=some (vb e.one):=by
 (refine zw3 Γ166 rfl ?_;dsimp only[f166])
 simp -dsimp only[go_sem,seval]
 repeat'(refine zw1 (fun h=> ?_) (fun h=> ?_)<;>(try simp only[zab]at h)<;>(try simp -dsimp only[go_sem,seval, *]))
 all_goals(simp[Expr.one, *])
def zyv (l:List Int):Bool:=(List.range (l.length-1)).all fun i=>decide (l.getD i 0<l.getD (i+1) 0)
theorem zg6 {l:List Int} {i:Nat} (h:i+1<l.length) (h2: ¬l.getD i 0<l.getD (i+1) 0):zyv l=false:=
 za7 (List.mem_range.2 (by omega)) (decide_eq_false h2)
theorem zfF {l:List Int} (h: ∀j,j+1<l.length->l.getD j 0<l.getD (j+1) 0):zyv l=true:=by
 simp only[zyv,zN,List.mem_range,decide_eq_true_eq];exact fun j hj=>h j (by omega)
theorem zfG (l:List Int) (hl:l.length<2^50):Den Γ G 113 [.t (ints l)]=some (vb (zyv l)):=by
 (refine zw3 Γ113 rfl ?_;dsimp only[f113])
 simp -dsimp only[go_sem,seval];refine zaq 1048572 (l.length-1) (fun i f=>(f 3).v=vi ((i+1:Nat):Int)/\ ∀j<i,l.getD j 0<l.getD (j+1) 0) rfl rfl ⟨by simp -dsimp only[go_sem,seval],by simp⟩ ?_;rintro i f u kk bb hi ⟨h3,Aa⟩;have hw:=zag (i+1) (by omega);have C4:IntKind.i64.wrap (((i+1:Nat):Int)-1)=(i:Int):=by rw[zaj (by omega)];omega
 simp -dsimp only[go_sem,seval,h3];refine zw1 (fun h=> ?_) (fun h=> ?_)<;>(try simp only[zab]at h)<;>(try simp -dsimp only[go_sem,seval, *])
 ·have Ai:i+1<l.length:=by omega
  have hx:l[i+1]? =some l[i+1]:=zI Ai;have hy:l[i]? =some l[i]:=zI (by omega);have gx:l.getD (i+1) 0=l[i+1]:=by simp[List.getD,hx]
  have gy:l.getD i 0=l[i]:=by simp[List.getD,hy]
  simp -dsimp only[go_sem,seval,h3,hx,hy,C4];refine zw1 (fun h=> ?_) (fun h=> ?_)<;>(try simp only[zab]at h)<;>(try simp -dsimp only[go_sem,seval, *])
  ·have:zyv l=false:=zg6 Ai (by rw[gx,gy];omega);rw[this]
  ·refine⟨by omega,by simp -dsimp only[go_sem,seval,hw],fun j hj=> ?_⟩
   by_cases Fg:j=i
   ·subst Fg;rw[gx,gy];omega
   ·exact Aa j (by omega)
 ·have:zyv l=true:=zfF fun j hj=>Aa j (by omega)
  rw[this]
theorem zdd (l:List Int) (hl:l.length<2^50):Den Γ G 101 [.t (ints l)]=some (vb (zyv l)):=by
 (refine zw3 Γ101 rfl ?_;dsimp only[f101])
 simp -dsimp only[go_sem,seval];refine zaq 1048572 (l.length-1) (fun i f=>(f 3).v=vi ((i+1:Nat):Int)/\ ∀j<i,l.getD j 0<l.getD (j+1) 0) rfl rfl ⟨by simp -dsimp only[go_sem,seval],by simp⟩ ?_;rintro i f u kk bb hi ⟨h3,Aa⟩;have hw:=zag (i+1) (by omega);have C4:IntKind.i64.wrap (((i+1:Nat):Int)-1)=(i:Int):=by rw[zaj (by omega)];omega
 simp -dsimp only[go_sem,seval,h3];refine zw1 (fun h=> ?_) (fun h=> ?_)<;>(try simp only[zab]at h)<;>(try simp -dsimp only[go_sem,seval, *])
 ·have Ai:i+1<l.length:=by omega
  have hx:l[i+1]? =some l[i+1]:=zI Ai;have hy:l[i]? =some l[i]:=zI (by omega);have gx:l.getD (i+1) 0=l[i+1]:=by simp[List.getD,hx]
  have gy:l.getD i 0=l[i]:=by simp[List.getD,hy]
  simp -dsimp only[go_sem,seval,h3,hx,hy,C4];refine zw1 (fun h=> ?_) (fun h=> ?_)<;>(try simp only[zab]at h)<;>(try simp -dsimp only[go_sem,seval, *])
  ·have:zyv l=false:=zg6 Ai (by rw[gx,gy];omega);rw[this]
  ·refine⟨by omega,by simp -dsimp only[go_sem,seval,hw],fun j hj=> ?_⟩
   by_cases Fg:j=i
   ·subst Fg;rw[gx,gy];omega
   ·exact Aa j (by omega)
 ·have:zyv l=true:=zfF fun j hj=>Aa j (by omega)
  rw[this]
def zzl (b:ByteArray) (i:Nat):Bool:=match b[i]? with
 | some c=>decide (33<=c.toNat/\c.toNat<=126)
 | none=>false
def zxG (b:ByteArray):Bool:=decide (1<=b.size/\b.size<=64)&&(List.range b.size).all (zzl b)
theorem zeB {b:ByteArray} {i:Nat} (h:i<b.size) (h2:zzl b i=false):zxG b=false:=by
 rw[zxG,za7 (List.mem_range.2 h) h2,Bool.and_false]
theorem zjl {b:ByteArray} {i:Nat} (h:i<b.size): ∃c,b[i]? =some c:=⟨b[i],by simp[h]⟩
theorem zc4 (b:ByteArray):Den Γ G 95 [.t (.str b)]=some (vb (zxG b)):=by
 (refine zw3 Γ95 rfl ?_;dsimp only[f95])
 simp -dsimp only[go_sem,seval];refine zw1 (fun h=> ?_) (fun h=> ?_)<;>(try simp only[zab]at h)<;>(try simp -dsimp only[go_sem,seval, *])
 ·have : ¬(1<=b.size/\b.size<=64):=by omega
  simp[zxG,this]
 ·refine zw1 (fun h=> ?_) (fun h=> ?_)<;>(try simp only[zab]at h)<;>(try simp -dsimp only[go_sem,seval, *])
  ·have : ¬(1<=b.size/\b.size<=64):=by omega
   simp[zxG,this]
  ·have AM:1<=b.size/\b.size<=64:=by omega
   refine zaq 268419084 b.size (fun i f=>(f 14).v=vi i/\ ∀j<i,zzl b j=true) rfl rfl ⟨by simp -dsimp only[go_sem,seval],by simp⟩ ?_;rintro i f u kk bb hi ⟨Ca,Aa⟩;have hw:=zag i (by omega);simp -dsimp only[go_sem,seval,Ca];refine zw1 (fun h=> ?_) (fun h=> ?_)<;>(try simp only[zab]at h)<;>(try simp -dsimp only[go_sem,seval, *])
   ·obtain⟨c,hc⟩:=zjl ‹i<b.size›;simp -dsimp only[go_sem,seval,Ca,hc]
    repeat'(refine zw1 (fun h=> ?_) (fun h=> ?_)<;>(try simp only[zab]at h)<;>(try simp -dsimp only[go_sem,seval, *]))
    ·rw[zeB ‹i<b.size› (by simp[zzl,hc];omega)]
    ·rw[zeB ‹i<b.size› (by simp[zzl,hc];omega)]
    ·refine⟨by omega,by simp -dsimp only[go_sem,seval,hw],fun j hj=> ?_⟩
     by_cases Fg:j=i
     ·subst Fg;simp[zzl,hc];omega
     ·exact Aa j (by omega)
   ·have:zxG b=true:=by
     simp only[zxG,AM,and_self,decide_true,Bool.true_and,zN,List.mem_range];exact fun j hj=>Aa j (by omega)
    rw[this]
theorem zc3 (b:ByteArray) (hb:b.size<2^50):Den Γ G 109 [.t (.str b)]=some (vb (zxG b)):=by
 (refine zw3 Γ109 rfl ?_;dsimp only[f109])
 simp -dsimp only[go_sem,seval];refine zaq 1048572 b.size (fun i f=>(f 3).v=vi i/\ ∀j<i,zzl b j=true) rfl rfl ⟨by simp -dsimp only[go_sem,seval],by simp⟩ ?_;rintro i f u kk bb hi ⟨Ca,Aa⟩;have hw:=zag i (by omega);simp -dsimp only[go_sem,seval,Ca];refine zw1 (fun h=> ?_) (fun h=> ?_)<;>(try simp only[zab]at h)<;>(try simp -dsimp only[go_sem,seval, *])
 ·obtain⟨c,hc⟩:=zjl ‹i<b.size›;simp -dsimp only[go_sem,seval,Ca,hc]
  repeat'(refine zw1 (fun h=> ?_) (fun h=> ?_)<;>(try simp only[zab]at h)<;>(try simp -dsimp only[go_sem,seval, *]))
  ·rw[zeB ‹i<b.size› (by simp[zzl,hc];omega)]
  ·rw[zeB ‹i<b.size› (by simp[zzl,hc];omega)]
  ·refine⟨by omega,by simp -dsimp only[go_sem,seval,hw],fun j hj=> ?_⟩
   by_cases Fg:j=i
   ·subst Fg;simp[zzl,hc];omega
   ·exact Aa j (by omega)
 ·have:(List.range b.size).all (zzl b)=true:=by
   simp only[zN,List.mem_range];exact fun j hj=>Aa j (by omega)
  refine zw1 (fun h=> ?_) (fun h=> ?_)<;>(try simp only[zab]at h)<;>(try simp -dsimp only[go_sem,seval, *])
  ·simp only[zxG,this,Bool.and_true];apply decide_eq_decide.2;omega
  ·simp only[zxG,this,Bool.and_true];exact(decide_eq_false (by omega)).symm
namespace Expr
mutual
def lv:Expr->List Expr
 | .mk o w n []=>[.mk o w n []]
 | .mk o w n (k::ks)=>lv k++lvs ks
def lvs:List Expr->List Expr
 | []=>[]
 | e::r=>lv e++lvs r
end
theorem znJ: ∀l:List Expr,lvs l=l.flatMap lv
 | []=>rfl
 | e::r=>by rw[lvs,znJ r];rfl
theorem lv_eq (e:Expr):lv e=if e.kids=[]then [e]else e.kids.flatMap lv:=by
 obtain⟨o,w,n,ks⟩:=e
 cases ks with
 | nil=>simp[lv,Expr.kids]
 | cons k ks=>simp[lv,znJ,Expr.kids]
end Expr
def Sh (h:Nat->Option O) (v:V) (e:Expr):Prop:=
 v= .t (.ip [ti e.op,ti e.w,ti e.n,.sl (e.kids.map Expr.enc)])\/
 ∃k fz,v= .mp k 0 0/\h k=some (.rows 4 [[.t (ti e.op),.t (ti e.w),.t (ti e.n),.t (.sl (e.kids.map Expr.enc))]] fz)
theorem zAC {σ:Type} (g:Nat) (cp:List V) (I:σ->(Nat->Option O)->Prop) (step:σ->Expr->σ) (lc:Expr->Bool)
 (E9: ∀s h n v x,I s h->x.kids=[]->lc x=true->Sh h v x-> ∃r h' n',DenR Γ G g (v::cp) h n=some (r,h',n')/\I (step s x) h'):
 ∀(e:Expr) (v:V) (s:σ) (h:Nat->Option O) (n:Nat),e.allE (fun x=>lc x&&decide (x.kids.length<=3))=true->I s h->(∀s h,I s h->Sh h v e)->
  ∃r h' n',DenR Γ G 76 [v,.fn g [] cp] h n=some (r,h',n')/\I (e.lv.foldl step s) h':=by
 intro e
 induction e using Expr.ind with
 | _ e ih=>
 intro v s H n Aa hI hv;have D8:=Expr.allE_self Aa;simp only[zF,decide_eq_true_eq]at D8
 (refine zxC Γ76 rfl ?_;dsimp only[f76])
 by_cases hk:e.kids=[]
 ·have Bj:=hv s H hI;have Fb:e.lv=[e]:=by rw[Expr.lv_eq,if_pos hk]
  rw[Fb];have hS: ∀n,∃r h' n',DenR Γ G g (v::cp) H n=some (r,h',n')/\I (step s e) h':=fun n=>E9 s H n v e hI hk D8.1 Bj
  rcases Bj with rfl | ⟨k,fz,rfl,A7⟩
  ·simp only[hk,List.map_nil]at hS;simp -dsimp only[go_sem,seval,hk];refine zas (hS _) ?_;intro r h' n' Ds;simp -dsimp only[go_sem,seval,hk];refine zai ?_;simp -dsimp only[go_sem,seval];exact Ds
  ·simp -dsimp only[go_sem,seval,hk,A7];refine zas (hS _) ?_;intro r h' n' Ds;have:=hv _ _ Ds;rcases this with h0 | ⟨k',fz',h0,I4⟩
   ·cases h0
   ·cases h0;simp -dsimp only[go_sem,seval,hk,I4];refine zai ?_;simp -dsimp only[go_sem,seval];exact Ds
 ·have Fb:e.lv=e.kids.flatMap Expr.lv:=by rw[Expr.lv_eq,if_neg hk]
  have Cx: ¬e.kids.length=0:=by simpa using hk
  have Hs: ¬(e.kids.length:Int)=0:=by omega
  rw[Fb];have CF: ∀i,i=e.kids.length->(e.kids.take i).flatMap Expr.lv=e.kids.flatMap Expr.lv:=by rintro i rfl;rw[List.take_length]
  rcases hv s H hI with rfl | ⟨k,fz,rfl,A7⟩
  ·simp -dsimp only[go_sem,seval,Hs];refine zap 2146959376 e.kids.length (fun i f hh x=>(f 19).v=vi i/\I (((e.kids.take i).flatMap Expr.lv).foldl step s) hh) rfl ⟨by simp -dsimp only[go_sem,seval],by simpa using hI⟩ ?_;rintro i f u hh x bs hi ⟨Gw,Ds⟩;have CJ:=zag i (by omega);simp -dsimp only[go_sem,seval,Gw];refine zw1 (fun h=> ?_) (fun h=> ?_)<;>(try simp only[zab]at h)<;>(try simp -dsimp only[go_sem,seval, *])
   ·obtain⟨y,hy,hm⟩:=zad ‹i<e.kids.length›;simp -dsimp only[go_sem,seval,Gw,hy];refine zas (ih y hm _ _ _ _ (Expr.allE_kid Aa hm) Ds (fun _ _ _=> .inl rfl)) ?_;intro r h' n' KW;simp -dsimp only[go_sem,seval,Gw];refine⟨by omega,by simp -dsimp only[go_sem,seval,CJ],?_⟩;rw[zac hy,List.flatMap_append,List.foldl_append];simpa using KW
   ·rw[CF i (by omega)]at Ds;exact Ds
  ·simp -dsimp only[go_sem,seval,Hs,A7];refine zap 2146959376 e.kids.length (fun i f hh x=>(f 19).v=vi i/\I (((e.kids.take i).flatMap Expr.lv).foldl step s) hh) rfl ⟨by simp -dsimp only[go_sem,seval],by simpa using hI⟩ ?_;rintro i f u hh x bs hi ⟨Gw,Ds⟩;have CJ:=zag i (by omega)
   have I3: ∃fz',hh k=some (.rows 4 [[.t (ti e.op),.t (ti e.w),.t (ti e.n),.t (.sl (e.kids.map Expr.enc))]] fz'):=by
    rcases hv _ _ Ds with h0 | ⟨k',fz',h0,I4⟩
    ·cases h0
    ·cases h0;exact⟨fz',I4⟩
   obtain⟨fz',I3⟩:=I3;simp -dsimp only[go_sem,seval,Gw];refine zw1 (fun h=> ?_) (fun h=> ?_)<;>(try simp only[zab]at h)<;>(try simp -dsimp only[go_sem,seval, *])
   ·obtain⟨y,hy,hm⟩:=zad ‹i<e.kids.length›;simp -dsimp only[go_sem,seval,Gw,hy,I3];refine zas (ih y hm _ _ _ _ (Expr.allE_kid Aa hm) Ds (fun _ _ _=> .inl rfl)) ?_;intro r h' n' KW;simp -dsimp only[go_sem,seval,Gw];refine⟨by omega,by simp -dsimp only[go_sem,seval,CJ],?_⟩;rw[zac hy,List.flatMap_append,List.foldl_append];simpa using KW
   ·rw[CF i (by omega)]at Ds;exact Ds
end Rg
end
section
-- FULL
namespace Rg
open Go
def lcV (x:Expr):Bool:=decide (0<=x.n/\(x.kids=[]->x.op=1\/x.op=2\/x.op=3))
def IV (cells:List Cell) (pair:Bool) (k3 k4 k5 k7:Nat) (e:Expr) (s:Bool) (h:Nat->Option O):Prop:=
 h k7=some (.rows 1 [[vb s]] false)/\h k4=some (.rows 1 [[.t (.sl (cells.map Cell.enc))]] false)/\h k5=some (.rows 1 [[vb pair]] false)/\
 h k3=some (.rows 4 [[.t (ti e.op),.t (ti e.w),.t (ti e.n),.t (.sl (e.kids.map Expr.enc))]] false)
theorem zBH (cells:List Cell) (pair:Bool) (k3 k4 k5 k7:Nat) (e:Expr) (h4:k4≠k7) (h5:k5≠k7) (h3:k3≠k7) (s:Bool) (H:Nat->Option O) (n:Nat) (v:V) (x:Expr)
 (hI:IV cells pair k3 k4 k5 k7 e s H) (hk:x.kids=[]) (hl:lcV x=true) (hs:Sh H v x):
 ∃r h' n',DenR Γ G 136 [v,.mp k4 0 0,.mp k5 0 0,.mp k7 0 0] H n=some (r,h',n')/\IV cells pair k3 k4 k5 k7 e (s&&zxS cells pair x) h':=by
 obtain⟨i7,i4,i5,i3⟩:=hI;simp only[lcV,decide_eq_true_eq]at hl;obtain⟨BV,Ao⟩:=hl;have Ao:=Ao hk
 (refine zxC Γ136 rfl ?_;dsimp only[f136])
 have yes: ∀h',h'=H->zxS cells pair x=true->IV cells pair k3 k4 k5 k7 e (s&&zxS cells pair x) h':=fun h' he hh=>by
  rw[hh,Bool.and_true,he];exact⟨i7,i4,i5,i3⟩
 have no: ∀h',h'=updC H k7 (some (.rows 1 [[vb false]] false))->zxS cells pair x=false->IV cells pair k3 k4 k5 k7 e (s&&zxS cells pair x) h':=fun h' he hh=>by
  rw[hh,Bool.and_false,he];refine⟨by simp[zae],by simp[zae,h4,i4],by simp[zae,h5,i5],by simp[zae,h3,i3]⟩
 rcases hc:cells[x.n.toNat]? with _ | c
 ·have Co:x.n>=(cells.length:Int):=by rw[List.getElem?_eq_none_iff]at hc;omega
  rcases hs with rfl | ⟨k,fz,rfl,A7⟩
  ·rcases Ao with ho | ho | ho
   all_goals(
    simp -dsimp [go_sem,i7,i4,i5,ho,Co]
    repeat'(refine zw1 (fun h=> ?_) (fun h=> ?_)<;>(try simp only[zab]at h)<;>(try simp -dsimp [go_sem, *]))
    all_goals(first | exact no _ (by simp -dsimp [go_sem]) (by simp[zxS,ho,hc]) | exact yes _ rfl (by simp[zxS,ho,hc])))
  ·rcases Ao with ho | ho | ho
   all_goals(
    simp -dsimp [go_sem,i7,i4,i5,ho,Co,A7]
    repeat'(refine zw1 (fun h=> ?_) (fun h=> ?_)<;>(try simp only[zab]at h)<;>(try simp -dsimp [go_sem, *]))
    all_goals(first | exact no _ (by simp -dsimp [go_sem]) (by simp[zxS,ho,hc]) | exact yes _ rfl (by simp[zxS,ho,hc])))
 ·have Co: ¬x.n>=(cells.length:Int):=by
   have:=(zH.1 hc).1;omega
  rcases hs with rfl | ⟨k,fz,rfl,A7⟩
  ·rcases Ao with ho | ho | ho
   all_goals(
    simp -dsimp [go_sem,i7,i4,i5,ho,Co,hc,BV]
    repeat'(refine zw1 (fun h=> ?_) (fun h=> ?_)<;>(try simp only[zab]at h)<;>(try simp -dsimp [go_sem, *]))
    all_goals(first | exact no _ (by simp -dsimp [go_sem]) (by simp[zxS, *]) | exact yes _ rfl (by simp[zxS, *])))
  ·rcases Ao with ho | ho | ho
   all_goals(
    simp -dsimp [go_sem,i7,i4,i5,ho,Co,hc,BV,A7]
    repeat'(refine zw1 (fun h=> ?_) (fun h=> ?_)<;>(try simp only[zab]at h)<;>(try simp -dsimp [go_sem, *]))
    all_goals(first | exact no _ (by simp -dsimp [go_sem]) (by simp[zxS, *]) | exact yes _ rfl (by simp[zxS, *])))
theorem zhr (p:Expr->Bool): ∀(l:List Expr) (s:Bool),l.foldl (fun s x=>s&&p x) s=(s&&l.all p)
 | [],s=>by simp
 | x::l,s=>by simp only[List.foldl_cons,zhr p l,List.all_cons,Bool.and_assoc]
theorem znK {p:Expr->Bool} (hp: ∀x:Expr,x.kids≠[]->zxt x=true->p x=true) (d:Nat): ∀e:Expr,e.deep d=true->e.allE p=e.lv.all p:=by
 induction d with
 | zero=>intro e h;simp[Expr.deep]at h
 | succ d ih=>
   intro e h;rw[Expr.allE_eq,Expr.lv_eq];split
   ·rename_i hk;rw[hk];simp
   ·rename_i hk;rw[hp e hk (zxO h),Bool.true_and];have : ∀k∈e.kids,k.allE p=k.lv.all p:=fun k hk=>ih k (zx9 h hk)
    generalize e.kids=ks at this
    induction ks with
    | nil=>rfl
    | cons k ks ih2=>
      simp only[List.all_cons,List.flatMap_cons,List.all_append];rw[this k (by simp),ih2 (fun x hx=>this x (by simp[hx]))]
theorem zov {x:Expr} (hk:x.kids≠[]) (h:zxt x=true):4<=x.op:=by
 have ha:=za8 h;have:0<x.kids.length:=List.length_pos_iff.2 hk;unfold zyl at ha;grind
theorem ze1 (cells:List Cell) (pair:Bool) {x:Expr} (hk:x.kids≠[]) (h:zxt x=true):zxS cells pair x=true:=by
 have:=zov hk h;unfold zxS;rw[if_neg (by omega),if_neg (by omega)]
theorem zC8 (d:Nat): ∀e:Expr,e.deep d=true->e.allE (fun x=>lcV x&&decide (x.kids.length<=3))=true:=by
 induction d with
 | zero=>intro e h;simp[Expr.deep]at h
 | succ d ih=>
   intro e h;rw[Expr.allE_eq];have hn:=zxO h;simp only[zF,zN,decide_eq_true_eq,lcV];refine⟨⟨⟨zc1 hn,fun hk=> ?_⟩,zbr hn⟩,fun k hk=> ?_⟩
   ·have ha:=za8 hn;rw[hk]at ha;rcases zbZ e.op with hh | hh | hh | hh | hh | hh | hh | hh | hh | hh | hh | hh | hh | hh | Ao
    ·exact .inl hh
    ·exact .inr (.inl hh)
    ·exact .inr (.inr hh)
    all_goals(try(rw[hh]at ha;simp[zyl]at ha;done))
    rw[zbV Ao]at ha;simp at ha
   ·have:=ih k (zx9 h hk);simpa only[lcV]using this
theorem zcW (e:Expr) (cells:List Cell) (pair:Bool):Den Γ G 107 [(.agg [.t (ti (e).op),.t (ti (e).w),.t (ti (e).n),.t (.sl ((e).kids.map (Expr.enc)))]),.t (.sl (cells.map Cell.enc)),vb pair]=some (vb (e.valid cells pair)):=by
 (refine zw3 Γ107 rfl ?_;dsimp only[f107])
 have h1:=zb4 e
 by_cases hf:e.formed=true
 ·simp -dsimp [go_sem,h1,hf];have hd:=zxk hf;refine zas (zAC 136 _ (IV cells pair 0 1 2 7 e) (fun s x=>s&&zxS cells pair x) lcV (zBH cells pair 0 1 2 7 e (by decide) (by decide) (by decide)) e _ true _ _ (zC8 40 e hd) ⟨by simp -dsimp [go_sem],by simp -dsimp [go_sem],by simp -dsimp [go_sem],by simp -dsimp [go_sem]⟩ (fun s h hI=> .inr ⟨0,false,rfl,hI.2.2.2⟩)) ?_;rintro r h' n' ⟨i7,_⟩;simp -dsimp [go_sem,i7];rw[zhr,Expr.valid,hf,znK (fun x=>ze1 cells pair) 40 e hd]
 ·have hf:e.formed=false:=by simpa using hf
  simp -dsimp [go_sem,h1,hf];simp[Expr.valid,hf]
end Rg
end
section
-- APPS
namespace Rg
open Go
def Own (h:Nat->Option O) (x:Nat) (v:V) (sz:Nat) (rows:List (List V)):Prop:=
 (v= .t .nils/\rows=[])\/ ∃k,v= .ms k 0 rows.length/\k<x/\h k=some (.rows sz rows false)
theorem zb0 {α β:Type} (f:α->Option β): ∀(l:List α) (r:List β),(∀i:Nat,∀a,l[i]? =some a-> ∃b,r[i]? =some b/\f a=some b)->l.length=r.length->l.mapM f=some r
 | [],[],_,_=>rfl
 | [],_::_,_,h=>by simp at h
 | _::_,[],_,h=>by simp at h
 | a::l,b::r,h,hl=>by
   rw[List.mapM_cons];obtain⟨b',hb,hf⟩:=h 0 a rfl;simp at hb;subst hb;rw[hf,zb0 f l r (fun i a' ha=>by simpa using h (i+1) a' (by simpa using ha)) (by simpa using hl)];rfl
theorem zdD (h:Nat->Option O) (d:Nat) (es:List (List T)) (hn: ∀e∈es,∀t∈e,T.norm t=t):
 (es.map (·.map V.t)).mapM (fun row=>row.mapM (toT h d))=some es:=by
 refine zb0 _ _ _ (fun i a ha=> ?_) (by simp);rw[zJ]at ha
 cases he:es[i]? with
 | none=>rw[he]at ha;simp at ha
 | some e=>
   rw[he]at ha;simp only[Option.map_some,zA]at ha;subst ha;refine⟨e,rfl,?_⟩;refine zb0 _ _ _ (fun j b hb=> ?_) (by simp);rw[zJ]at hb
   cases ht:e[j]? with
   | none=>rw[ht]at hb;simp at hb
   | some t=>
     rw[ht]at hb;simp only[Option.map_some,zA]at hb;subst hb;have:=hn e (zL he) t (zL ht);refine⟨t,rfl,?_⟩;cases d<;>simp[toT,this]
theorem zbS {h:Nat->Option O} {x:Nat} {v:V} {sz:Nat} {es:List (List T)} (ho:Own h x v sz (es.map (·.map V.t))) (hn: ∀e∈es,∀t∈e,T.norm t=t):
 toT h 1000 v=some (.sl es):=by
 rcases ho with⟨rfl,he⟩ | ⟨k,rfl,hk,hh⟩
 ·have:es=[]:=by simpa using he
  subst this;rfl
 ·rw[toT,hh];simp only[rd,Nat.zero_add,Nat.le_refl,if_true,List.drop_zero,List.take_length,zC,zD];rw[zdD h 999 es hn];rfl
theorem zxU (l:List Int): ∀e∈(l.map fun n=>[ti n]),∀t∈e,T.norm t=t:=by
 intro e he t ht;obtain⟨n,_,rfl⟩:=List.mem_map.1 he;simp at ht;subst ht;rfl
def zxA (l:List Bool) (i:Nat):List Int:=((List.range i).filter fun j=>l.getD j false).map fun j:Nat=>(j:Int)
theorem zcq (l:List Bool) (i:Nat):zxA l (i+1)=zxA l i++if l.getD i false then [(i:Int)]else []:=by
 unfold zxA;rw[List.range_succ,List.filter_append,List.map_append];cases h:l.getD i false<;>simp only[List.filter_cons,List.filter_nil,h,if_true,if_false,zG,List.map_nil,List.map_cons]
def zw5 (l:List Int):List (List V):=(l.map fun n=>[ti n]).map (·.map V.t)
theorem zw2 (l:List Int):(zw5 l).length=l.length:=by simp[zw5]
theorem zaV (l:List Int) (n:Int):zw5 (l++[n])=zw5 l++[[vi n]]:=by simp[zw5]
theorem zxw (l:List Int):((zw5 l).all fun r=>decide (r.length=1))=true:=by simp[zw5]
theorem zk5 {k x:Nat} (h:k<x) (j:Nat): ¬k=x+j:=by omega
theorem zid {k x:Nat} (h:k<x) (j j':Nat): ¬k=x+j+j':=by omega
theorem zk4 {k x:Nat} (h:k<x) (j j' j'':Nat): ¬k=x+j+j'+j'':=by omega
theorem zfQ (l:List Bool) (hl:l.length<2^20):Den Γ G 159 [.t (.sl (l.map fun b=>[tb b]))]=some (.t (ints (zxA l l.length))):=by
 (refine zw3 Γ159 rfl ?_;dsimp only[f159])
 simp -dsimp only[go_sem,seval,zyh];refine zap 524280 l.length (fun i f h x=>(f 4).v=vi i/\Own h x (f 3).v 1 (zw5 (zxA l i))) rfl ⟨by simp -dsimp only[go_sem,seval,zyh],.inl ⟨by simp -dsimp only[go_sem,seval,zyh],rfl⟩⟩ ?_;rintro i f u H x bs hi ⟨h4,Ab⟩;have hw:=zag i (by omega);simp -dsimp only[go_sem,seval,zyh,h4];refine zw1 (fun h=> ?_) (fun h=> ?_)<;>(try simp only[zab]at h)<;>(try simp -dsimp only[go_sem,seval,zyh, *])
 ·have hx:l[i]? =some l[i]:=zI (by omega);have gx:l.getD i false=l[i]:=by simp[List.getD,hx]
  simp -dsimp only[go_sem,seval,zyh,h4,hx];refine zw1 (fun h=> ?_) (fun h=> ?_)<;>(try simp only[zab]at h)<;>(try simp -dsimp only[go_sem,seval,zyh, *])
  ·have Fy:zxA l (i+1)=zxA l i++[(i:Int)]:=by rw[zcq,gx,h];rfl
   have NO:(zxA l i).length<=i:=by
    unfold zxA;rw[List.length_map];exact Nat.le_trans (List.length_filter_le _ _) (by simp)
   rcases Ab with⟨hv,he⟩ | ⟨k,hv,hk,hh⟩
   ·have BN:zxA l i=[]:=by simpa[zw5]using he
    simp -dsimp only[go_sem,seval,zyh,h4,hv];refine⟨by omega,by simp -dsimp only[go_sem,seval,zyh,hw],?_⟩;simp -dsimp only[go_sem,seval,zyh,Fy,BN,zw5];exact .inr ⟨_,rfl,by omega,by simp -dsimp only[go_sem,seval,zyh]⟩
   ·have n1:=zk5 hk;have n2:=zid hk;have n3:=zk4 hk;have Cl:=zxw (zxA l i);have AW:=zw2 (zxA l i);have A4:(zw5 (zxA l i)).length<=4294967295:=by omega
    simp -dsimp only[go_sem,seval,zyh,h4,hv,hh,n1,n2,n3,Cl,Nat.le_refl,List.take_length,A4];refine⟨by omega,by simp -dsimp only[go_sem,seval,zyh,hw],?_⟩;simp -dsimp only[go_sem,seval,zyh,Fy,zaV];exact .inr ⟨_,(by rw[zM];rfl),by omega,by simp -dsimp only[go_sem,seval,zyh]⟩
  ·have Fy:zxA l (i+1)=zxA l i:=by rw[zcq,gx,h];simp
   refine⟨by omega,by simp -dsimp only[go_sem,seval,zyh,hw],?_⟩;simp -dsimp only[go_sem,seval,zyh,Fy];rcases Ab with⟨hv,he⟩ | ⟨k,hv,hk,hh⟩
   ·exact .inl ⟨hv,he⟩
   ·exact .inr ⟨k,hv,by omega,hh⟩
 ·have:i=l.length:=by omega
  subst this;have hr:=zbS Ab (zxU _);rcases Ab with⟨hv,he⟩ | ⟨k,hv,hk,hh⟩
  ·simp -dsimp only[go_sem,seval,zyh,hv];simpa[zw5]using he
  ·simp -dsimp only[go_sem,seval,zyh,hv];rw[hv,toT]at hr;simp only[hh,rd,Nat.zero_add,Nat.le_refl,if_true,List.drop_zero,List.take_length,zC,zD]at hr⊢;rw[hr];rfl
end Rg
end
section
-- FULL
namespace Rg
open Go
theorem zey (p:Prog) (c t:Int) (x:Cell) (h0:0<=c) (hc:p.cells[c.toNat]? =some x):Den Γ G 154 [(zP p),vi c,vi t]=some (vb (decide (x.thread=t))):=by
 (refine zw3 Γ154 rfl ?_;dsimp only[f154])
 simp -dsimp [go_sem,h0,hc]
theorem zdm (p:Prog) (c:Int) (x:Cell) (h0:0<=c) (hc:p.cells[c.toNat]? =some x):Den Γ G 155 [(zP p),vi c]=some (vb (decide (x.thread= -1))):=by
 (refine zw3 Γ155 rfl ?_;dsimp only[f155])
 simp -dsimp [go_sem,h0,hc]
theorem zcL (p:Prog) (c:Int) (x:Cell) (h0:0<=c) (hc:p.cells[c.toNat]? =some x):Den Γ G 163 [(zP p),vi c]=some (vb x.ghost):=by
 (refine zw3 Γ163 rfl ?_;dsimp only[f163])
 simp -dsimp [go_sem,h0,hc]
def zxb (p:Prog) (t c:Int):Bool:=decide (0<=c)&&match p.cells[c.toNat]? with
 | some x=>decide (x.thread=t)
 | none=>false
theorem za5 {p:Prog} {c:Int} (h:inR c p.cells.length=true):0<=c/\ ∃x,p.cells[c.toNat]? =some x:=by
 simp only[inR,decide_eq_true_eq]at h;exact⟨h.1,_,zI (by omega)⟩
theorem zyU {p:Prog} {t c:Int} (h:inR c p.cells.length=false):zxb p t c=false:=by
 simp only[inR,decide_eq_false_iff_not]at h;unfold zxb
 by_cases h0:0<=c
 ·have:p.cells[c.toNat]? =none:=List.getElem?_eq_none_iff.2 (by omega);simp[this]
 ·simp[h0]
theorem zbP (p:Prog) (c:Int):Den Γ G 100 [(zP p),vi c]=some (vb (zxb p (-1) c)):=by
 (refine zw3 Γ100 rfl ?_;dsimp only[f100])
 have hb:=zaT c p.cells.length;simp -dsimp [go_sem,hb];refine zw1 (fun h=> ?_) (fun h=> ?_)<;>(try simp only[zab]at h)<;>(try simp -dsimp [go_sem, *])
 ·obtain⟨h0,x,hx⟩:=za5 h;simp -dsimp [go_sem,h0,hx,h];simp[zxb,h0,hx]
 ·rw[zyU h]
theorem zez (p:Prog) (t c:Int):Den Γ G 146 [vi c,.t (.ip [.sl (p.cells.map Cell.enc),.sl (p.modules.map Contract.enc),.sl (p.locks.map Lock.enc),.sl (p.threads.map Thread.enc)]),.t (.ip [ti t])]=some (vb (zxb p t c)):=by
 (refine zw3 Γ146 rfl ?_;dsimp only[f146])
 have hb:=zaT c p.cells.length;simp -dsimp [go_sem,hb];refine zw1 (fun h=> ?_) (fun h=> ?_)<;>(try simp only[zab]at h)<;>(try simp -dsimp [go_sem, *])
 ·obtain⟨h0,x,hx⟩:=za5 h;simp -dsimp [go_sem,h0,hx,h];simp[zxb,h0,hx]
 ·rw[zyU h]
theorem zdT (h:Nat->Option O): ∀c:List T,(∀t∈c,T.norm t=t)->(c.map V.t).mapM (toT1 h)=some (c.map V.t)
 | [],_=>rfl
 | t::c,hn=>by
   rw[List.map_cons,List.mapM_cons,zdT h c fun x hx=>hn x (by simp[hx])];have:toT1 h (.t t)=some (.t t):=by simp[toT1,toT,hn t (by simp)]
   rw[this];rfl
theorem zgR (c:List T):(c.map V.t).all V.tree=true:=by
 rw[zN];intro v hv;obtain⟨t,_,rfl⟩:=List.mem_map.1 hv;rfl
def IsP (g:Nat) (c:List T) (P:Int->Bool):Prop:=(∀t∈c,T.norm t=t)/\ ∀n:Int,Den Γ G g (vi n::c.map V.t)=some (vb (P n))
def IsF (F:T) (P:Int->Bool):Prop:=T.norm F=F/\ ∃g a b,zze (.t F)=some (g,a,b)/\(∀(h:Nat->Option O) (n:Int),(a++[vi n]++b).mapM (toT1 h)=some (a++[vi n]++b))/\
 (∀n:Int,(a++[vi n]++b).all V.tree=true)/\ ∀n:Int,Den Γ G g (a++[vi n]++b)=some (vb (P n))
theorem zlu {v:V} {g:Nat} {a b:List V} (hf:zze v=some (g,a,b)) (K:Nat->List V->List V->Prop) (w:WK K):fnK (some v) K w=K g a b:=by
 simp only[fnK,hf]
theorem IsP.isF {g:Nat} {c:List T} {P:Int->Bool} (h:IsP g c P):IsF (.fn g [] c) P:=by
 refine⟨rfl,g,[],c.map V.t,rfl,fun hh n=> ?_,fun n=> ?_,fun n=> ?_⟩
 ·have:=zdT hh (ti n::c) (fun t ht=>(List.mem_cons.1 ht).elim (fun e=>by rw[e];rfl) (h.1 t));exact this
 ·exact zgR (ti n::c)
 ·exact h.2 n
theorem zpK {g:Nat} {c:List T} {P:Int->Bool} (hn: ∀t∈c,T.norm t=t) (hd: ∀n:Int,Den Γ G g [.agg (c.map V.t),vi n]=some (vb (P n))):IsF (.fa g c) P:=by
 refine⟨rfl,g,[.agg (c.map V.t)],[],rfl,fun hh n=> ?_,fun n=> ?_,fun n=>hd n⟩
 ·clear hd
  have h1:toT1 hh (.agg (c.map V.t))=some (.agg (c.map V.t)):=by
   have:(c.map V.t).mapM (toT hh 1000)=some c:=by
    induction c with
    | nil=>rfl
    | cons t c ih=>rw[List.map_cons,List.mapM_cons,ih fun x hx=>hn x (by simp[hx])];simp[toT,hn t (by simp)]
   simp[toT1,this]
  rw[List.append_nil,List.cons_append,List.nil_append,List.mapM_cons,List.mapM_cons,h1];rfl
 ·simp[V.tree]
theorem zln (F:T) (P:Int->Bool) (hP:IsF F P) (l:List Int) (hl:l.length<2^50):
 Den Γ G 145 [.t (ints l),.t F]=some (vi (match l.findIdx? P with | some i=>i | none=> -1)):=by
 (refine zw3 Γ145 rfl ?_;dsimp only[f145])
 obtain⟨_,g,a,b,hf,hm,ha,hd⟩:=hP;have hK:=zlu hf;simp -dsimp only[go_sem,seval];refine zaq 524080 l.length (fun i f=>(f 8).v=vi i/\ ∀x∈l.take i,P x=false) rfl rfl ⟨by simp -dsimp only[go_sem,seval],by simp⟩ ?_;rintro i f u kk bb hi ⟨h8,Aa⟩;have hw:=zag i (by omega);simp -dsimp only[go_sem,seval,h8];refine zw1 (fun h=> ?_) (fun h=> ?_)<;>(try simp only[zab]at h)<;>(try simp -dsimp only[go_sem,seval, *])
 ·obtain⟨y,hy,Fz⟩:=zad ‹i<l.length›;simp -dsimp only[go_sem,seval,h8,hy,hK,hm,ha,hd];refine zw1 (fun h=> ?_) (fun h=> ?_)<;>(try simp only[zab]at h)<;>(try simp -dsimp only[go_sem,seval, *])
  ·have:l.findIdx? P=some i:=by
    rw[List.findIdx?_eq_some_iff_getElem];have Ai:i<l.length:= ‹i<l.length›;have Jh:l[i]=y:=by rw[zI Ai]at hy;exact Option.some.inj hy
    refine⟨Ai,by rw[Jh];exact h,fun j hj=> ?_⟩;have:=Aa l[j] (by rw[List.mem_take_iff_getElem];exact⟨j,by omega,rfl⟩);simp[this]
   rw[this]
  ·refine⟨by omega,by simp -dsimp only[go_sem,seval,hw],fun x hx=> ?_⟩;rw[zac hy]at hx;rcases List.mem_append.1 hx with hx | hx
   ·exact Aa x hx
   ·rw[List.mem_singleton.1 hx];exact h
 ·have:i=l.length:=by omega
  subst this;rw[List.take_length]at Aa;have:l.findIdx? P=none:=by rw[List.findIdx?_eq_none_iff];exact Aa
  rw[this]
theorem zhE (F:T) (P:Int->Bool) (hP:IsF F P) (l:List Int) (hl:l.length<2^50):
 Den Γ G 131 [.t (ints l),.t F]=some (vb (l.any P)):=by
 (refine zw3 Γ131 rfl ?_;dsimp only[zq9])
 have hd:=zln F P hP l hl;have hn:=hP.1;simp only[T.norm]at hn;simp -dsimp only[go_sem,seval,hd,hn]
 cases h:l.findIdx? P with
 | none=>
   rw[List.findIdx?_eq_none_iff]at h;have:l.any P=false:=by rw[List.any_eq_false];intro x hx;simp[h x hx]
   simp[this]
 | some i=>
   have:l.any P=true:=by
    rw[List.findIdx?_eq_some_iff_getElem]at h;obtain⟨hi,hp,_⟩:=h;rw[List.any_eq_true];exact⟨_,List.getElem_mem hi,hp⟩
   simp[this]
theorem zBj (F:T) (P:Int->Bool) (hP:IsF F P):IsP 132 [.ip [F]] (fun n=> !P n):=by
 refine⟨by simp[T.norm],fun n=> ?_⟩
 (refine zw3 Γ132 rfl ?_;dsimp only[zq8])
 obtain⟨_,g,a,b,hf,hm,ha,hd⟩:=hP;have hK:=zlu hf;simp -dsimp only[go_sem,seval,hK,hm,ha,hd]
theorem zcb (F:T) (P:Int->Bool) (hP:IsF F P) (l:List Int) (hl:l.length<2^50):
 Den Γ G 102 [.t (ints l),.t F]=some (vb (l.all P)):=by
 (refine zw3 Γ102 rfl ?_;dsimp only[f102])
 have hn:=hP.1;simp only[T.norm]at hn;have hd:=zhE _ _ (zBj F P hP).isF l hl;simp -dsimp only[go_sem,seval,hd,hn];rw[List.all_eq_not_any_not]
end Rg
end
section
-- FULL
namespace Rg
open Go
def zaN (p:Prog):T:=.ip [.sl (p.cells.map Cell.enc),.sl (p.modules.map Contract.enc),.sl (p.locks.map Lock.enc),.sl (p.threads.map Thread.enc)]
theorem zDC (p:Prog) (t:Int):IsP 146 [zaN p,.ip [ti t]] (zxb p t):=⟨by simp[zaN,T.norm],fun n=>zez p t n⟩
theorem zgk (p:Prog) (t:Int):Den Γ G 133 [(zP p),vi t]=some (.t (.fn 146 [] [zaN p,.ip [ti t]])):=by
 (refine zw3 Γ133 rfl ?_;dsimp only[zq7])
 simp -dsimp [go_sem];rfl
def zAq (p:Prog) (t c:Int):Bool:=zxb p (-1) c||zxb p t c
theorem zdj (p:Prog) (t:Int):Den Γ G 104 [(zP p),vi t]=some (.t (.fn 134 [] [zaN p,.ip [.fn 146 [] [zaN p,.ip [ti t]]]])):=by
 (refine zw3 Γ104 rfl ?_;dsimp only[f104])
 have h1:=zgk p t;simp -dsimp [go_sem,h1];rfl
theorem zAZ (p:Prog) (t:Int):IsP 134 [zaN p,.ip [.fn 146 [] [zaN p,.ip [ti t]]]] (zAq p t):=by
 refine⟨by simp[zaN,T.norm],fun n=> ?_⟩
 (refine zw3 Γ134 rfl ?_;dsimp only[f134])
 have h1:=zbP p n;have h2:=zez p t n;simp -dsimp [go_sem,h1,zaN];refine zw1 (fun h=> ?_) (fun h=> ?_)<;>(try simp only[zab]at h)<;>(try simp -dsimp [go_sem,zaN, *])
 ·simp[zAq,h]
 ·simp[zAq,h]
end Rg
end
section
-- APPS
namespace Rg
open Go
theorem zot {k x:Nat} (h:k<x) (a b c d:Nat): ¬k=x+a+b+c+d:=by omega
theorem zeT (l:List Bool) (hl:l.length=32): ∃r h' n',DenR Γ G 78 [.agg (l.map fun b=>vb b)] (fun _=>none) 0=some (r,h',n')/\Own h' n' r 1 (zw5 (zxA l 32)):=by
 (refine zxC Γ78 rfl ?_;dsimp only[f78])
 have Ff:(l.map fun b=>vb b).length=32:=by simp[hl]
 have Cu:List.take 32 (l.map fun b=>vb b)=l.map fun b=>vb b:=List.take_of_length_le (by omega)
 simp -dsimp only[go_sem,seval,zyh,hl,Cu];refine zap 131000 32 (fun i f h x=>(f 7).v=vi i/\Own h x (f 3).v 1 (zw5 (zxA l i))) rfl ⟨by simp -dsimp only[go_sem,seval,zyh],.inl ⟨by simp -dsimp only[go_sem,seval,zyh],rfl⟩⟩ ?_;rintro i f u H x bs hi ⟨h4,Ab⟩;have hw:=zag i (by omega);have DM:(0:Int)<=(i:Int):=by omega
 simp -dsimp only[go_sem,seval,zyh,h4];refine zw1 (fun h=> ?_) (fun h=> ?_)<;>(try simp only[zab]at h)<;>(try simp -dsimp only[go_sem,seval,zyh, *])
 ·have Ai:i<32:=by omega
  have hx:l[i]? =some (l[i]'(by omega)):=zI (by omega)
  generalize hb:l[i]'(by omega)=b at hx
  have gx:l.getD i false=b:=by simp[List.getD,hx]
  have Pm:List.take 1 (List.drop (i*1) (l.map fun b=>vb b))=[vb b]:=by
   rw[Nat.mul_one,<- List.map_drop,<- List.map_take]
   have:(l.drop i).take 1=[b]:=by
    rw[List.drop_eq_getElem_cons (by omega),hb];rfl
   rw[this];rfl
  have MA:i*1<=31:=by omega
  simp -dsimp only[go_sem,seval,zyh,h4,Pm,hl,MA];refine zw1 (fun h=> ?_) (fun h=> ?_)<;>(try simp only[zab]at h)<;>(try simp -dsimp only[go_sem,seval,zyh, *])
  ·have Fy:zxA l (i+1)=zxA l i++[(i:Int)]:=by rw[zcq,gx,h];rfl
   have NO:(zxA l i).length<=i:=by
    unfold zxA;rw[List.length_map];exact Nat.le_trans (List.length_filter_le _ _) (by simp)
   rcases Ab with⟨hv,he⟩ | ⟨k,hv,hk,hh⟩
   ·have BN:zxA l i=[]:=by simpa[zw5]using he
    simp -dsimp only[go_sem,seval,zyh,h4,hv];refine⟨by omega,by simp -dsimp only[go_sem,seval,zyh,hw],?_⟩;simp -dsimp only[go_sem,seval,zyh,Fy,BN,zw5];exact .inr ⟨_,rfl,by omega,by simp -dsimp only[go_sem,seval,zyh]⟩
   ·have n1:=zk5 hk;have n2:=zid hk;have n3:=zk4 hk;have n4:=zot hk;have Cl:=zxw (zxA l i);have AW:=zw2 (zxA l i);have A4:(zw5 (zxA l i)).length<=4294967295:=by omega
    simp -dsimp only[go_sem,seval,zyh,h4,hv,hh,n1,n2,n3,n4,Cl,Nat.le_refl,List.take_length,A4];refine⟨by omega,by simp -dsimp only[go_sem,seval,zyh,hw],?_⟩;simp -dsimp only[go_sem,seval,zyh,Fy,zaV];exact .inr ⟨_,(by rw[zM];rfl),by omega,by simp -dsimp only[go_sem,seval,zyh]⟩
  ·have Fy:zxA l (i+1)=zxA l i:=by rw[zcq,gx,h];simp
   refine⟨by omega,by simp -dsimp only[go_sem,seval,zyh,hw],?_⟩;simp -dsimp only[go_sem,seval,zyh,Fy];rcases Ab with⟨hv,he⟩ | ⟨k,hv,hk,hh⟩
   ·exact .inl ⟨hv,he⟩
   ·exact .inr ⟨k,hv,by omega,hh⟩
 ·have:i=32:=by omega
  subst this;rcases Ab with⟨hv,he⟩ | ⟨k,hv,hk,hh⟩
  ·simp -dsimp only[go_sem,seval,zyh,hv];exact .inl ⟨rfl,he⟩
  ·simp -dsimp only[go_sem,seval,zyh,hv];exact .inr ⟨k,rfl,Nat.lt_of_lt_of_le hk (by first | omega | exact Nat.le_trans (zzS _ _) (zzS _ _) | exact zzS _ _),hh⟩
def vbs (l:List Bool):List V:=l.map fun b=>vb b
theorem znE {l:List Bool} {i:Nat} (h:i<l.length):wr (vbs l) i [vb true]=some (vbs (l.set i true)):=by
 unfold wr vbs;rw[if_pos (by simp;omega)]
 congr 1
 rw[List.map_set,List.set_eq_take_append_cons_drop,if_pos (by simpa using h)];simp
def zxM (op:Int) (s:List Bool) (x:Expr):List Bool:=if x.op=op then s.set x.n.toNat true else s
theorem zk7 (op:Int) (s:List Bool) (x:Expr):(zxM op s x).length=s.length:=by unfold zxM;split<;>simp
def lcS (x:Expr):Bool:=decide (0<=x.n/\(x.kids=[]->x.op=1\/((x.op=2\/x.op=3)/\x.n<32)))
def IS (k1 k4 k5:Nat) (e:Expr) (s:List Bool×List Bool) (h:Nat->Option O):Prop:=
 s.1.length=32/\s.2.length=32/\h k4=some (.rows 32 [vbs s.1] false)/\h k5=some (.rows 32 [vbs s.2] false)/\
 h k1=some (.rows 4 [[.t (ti e.op),.t (ti e.w),.t (ti e.n),.t (.sl (e.kids.map Expr.enc))]] false)
theorem zgV (k1 k4 k5:Nat) (e:Expr) (GB:k4≠k5) (Ca:k1≠k4) (BS:k1≠k5) (s:List Bool×List Bool) (H:Nat->Option O) (n:Nat) (v:V) (x:Expr)
 (hI:IS k1 k4 k5 e s H) (hk:x.kids=[]) (hl:lcS x=true) (hs:Sh H v x):
 ∃r h' n',DenR Γ G 77 [v,.mp k4 0 0,.mp k5 0 0] H n=some (r,h',n')/\IS k1 k4 k5 e (zxM 3 s.1 x,zxM 2 s.2 x) h'/\ ∀k,k≠k4->k≠k5->h' k=H k:=by
 obtain⟨l1,l2,i4,i5,i1⟩:=hI;simp only[lcS,decide_eq_true_eq]at hl;obtain⟨BV,Ao⟩:=hl;have Ao:=Ao hk
 (refine zxC Γ77 rfl ?_;dsimp only[f77])
 have Bj: ∃fz,v= .t (.ip [ti x.op,ti x.w,ti x.n,.sl (x.kids.map Expr.enc)])\/ ∃k,v= .mp k 0 0/\H k=some (.rows 4 [[.t (ti x.op),.t (ti x.w),.t (ti x.n),.t (.sl (x.kids.map Expr.enc))]] fz):=by
  rcases hs with h | ⟨k,fz,h1,h2⟩
  ·exact⟨false,.inl h⟩
  ·exact⟨fz,.inr ⟨k,h1,h2⟩⟩
 obtain⟨fz,Bj⟩:=Bj;rcases Ao with ho | ⟨ho,Ai⟩
 ·have m1:zxM 3 s.1 x=s.1:=by simp[zxM,ho]
  have m2:zxM 2 s.2 x=s.2:=by simp[zxM,ho]
  rcases Bj with rfl | ⟨k,rfl,A7⟩
  ·simp -dsimp only[go_sem,seval,ho];rw[m1,m2];exact⟨⟨l1,l2,i4,i5,i1⟩,fun _ _ _=>rfl⟩
  ·simp -dsimp only[go_sem,seval,ho,A7];rw[m1,m2];exact⟨⟨l1,l2,i4,i5,i1⟩,fun _ _ _=>rfl⟩
 ·have hn:0<=x.n/\x.n<32:=⟨BV,Ai⟩
  have Kt:x.n.toNat<32:=by omega
  have v1:(vbs s.1).length=32:=by simp[vbs,l1]
  have v2:(vbs s.2).length=32:=by simp[vbs,l2]
  have c1:x.n.toNat*1<=31:=by omega
  have w1:=znE (l:=s.1) (i:=x.n.toNat) (by omega);have w2:=znE (l:=s.2) (i:=x.n.toNat) (by omega);unfold wr at w1 w2;rw[if_pos (by rw[v1];simp;omega)]at w1;rw[if_pos (by rw[v2];simp;omega)]at w2;simp only[zA,List.length_cons,List.length_nil,Nat.zero_add,zQ,List.cons_append,List.nil_append]at w1 w2;rcases ho with ho | ho
  ·have m1:zxM 3 s.1 x=s.1:=by simp[zxM,ho]
   have m2:zxM 2 s.2 x=s.2.set x.n.toNat true:=by simp[zxM,ho]
   rw[m1,m2];rcases Bj with rfl | ⟨k,rfl,A7⟩
   ·simp -dsimp only[go_sem,seval,ho,hn,i5,v2,c1];refine⟨⟨l1,by simp[l2],by simp -dsimp only[go_sem,seval,GB,i4],?_,by simp -dsimp only[go_sem,seval,BS,i1]⟩,fun q _ hq=>by simp -dsimp only[go_sem,seval,hq]⟩;simp -dsimp only[go_sem,seval,Nat.mul_one,zQ,w2]
   ·simp -dsimp only[go_sem,seval,ho,hn,i5,v2,c1,A7];refine⟨⟨l1,by simp[l2],by simp -dsimp only[go_sem,seval,GB,i4],?_,by simp -dsimp only[go_sem,seval,BS,i1]⟩,fun q _ hq=>by simp -dsimp only[go_sem,seval,hq]⟩;simp -dsimp only[go_sem,seval,Nat.mul_one,zQ,w2]
  ·have m1:zxM 3 s.1 x=s.1.set x.n.toNat true:=by simp[zxM,ho]
   have m2:zxM 2 s.2 x=s.2:=by simp[zxM,ho]
   rw[m1,m2];rcases Bj with rfl | ⟨k,rfl,A7⟩
   ·simp -dsimp only[go_sem,seval,ho,hn,i4,v1,c1];refine⟨⟨by simp[l1],l2,?_,by simp -dsimp only[go_sem,seval,Ne.symm GB,i5],by simp -dsimp only[go_sem,seval,Ca,i1]⟩,fun q hq _=>by simp -dsimp only[go_sem,seval,hq]⟩;simp -dsimp only[go_sem,seval,Nat.mul_one,zQ,w1]
   ·simp -dsimp only[go_sem,seval,ho,hn,i4,v1,c1,A7];refine⟨⟨by simp[l1],l2,?_,by simp -dsimp only[go_sem,seval,Ne.symm GB,i5],by simp -dsimp only[go_sem,seval,Ca,i1]⟩,fun q hq _=>by simp -dsimp only[go_sem,seval,hq]⟩;simp -dsimp only[go_sem,seval,Nat.mul_one,zQ,w1]
end Rg
end
section
-- FULL
namespace Rg
open Go
theorem zd2 {α β γ:Type} (f:α->γ->α) (g:β->γ->β): ∀(l:List γ) (a:α) (b:β),l.foldl (fun s x=>(f s.1 x,g s.2 x)) (a,b)=(l.foldl f a,l.foldl g b)
 | [],a,b=>rfl
 | x::l,a,b=>by simp only[List.foldl_cons];exact zd2 f g l _ _
def Expr.occ (op:Int) (e:Expr):List Bool:=e.lv.foldl (zxM op) (List.replicate 32 false)
def Expr.sup (op:Int) (e:Expr):List Int:=if e.formed then zxA (e.occ op) 32 else []
theorem zgm (op:Int) (e:Expr):(e.occ op).length=32:=by
 unfold Expr.occ
 generalize e.lv=l
 have : ∀(l:List Expr) (s:List Bool),(l.foldl (zxM op) s).length=s.length:=by
  intro l
  induction l with
  | nil=>intro s;rfl
  | cons x l ih=>intro s;rw[List.foldl_cons,ih,zk7]
 rw[this];simp
theorem zAU (d:Nat): ∀e:Expr,e.deep d=true->e.allE (fun x=>lcS x&&decide (x.kids.length<=3))=true:=by
 induction d with
 | zero=>intro e h;simp[Expr.deep]at h
 | succ d ih=>
   intro e h;rw[Expr.allE_eq];have hn:=zxO h;simp only[zF,zN,decide_eq_true_eq,lcS];refine⟨⟨⟨zc1 hn,fun hk=> ?_⟩,zbr hn⟩,fun k hk=> ?_⟩
   ·have ha:=za8 hn;have hw:=zhh hn;rw[hk]at ha;obtain⟨op,w,n,ks⟩:=e;simp only[go_sem]at *;rcases zbZ op with hh | hh | hh | hh | hh | hh | hh | hh | hh | hh | hh | hh | hh | hh | Ao
    ·exact .inl hh
    ·refine .inr ⟨.inl hh,?_⟩;rw[zcp (by omega) hw]at hn;simp[hh]at hn;omega
    ·refine .inr ⟨.inr hh,?_⟩;rw[zcp (by omega) hw]at hn;simp[hh]at hn;omega
    all_goals(try(rw[hh]at ha;simp[zyl]at ha;done))
    rw[zbV Ao]at ha;simp at ha
   ·have:=ih k (zx9 h hk);simpa only[lcS]using this
def zyj (l:List Bool):List (List V):=l.map fun b=>[vb b]
theorem zg3 (l:List Bool) (i:Nat):(zyj l).set i [vb true]=zyj (l.set i true):=by simp[zyj,List.map_set]
def lcM (x:Expr):Bool:=lcS x&&decide (x.kids=[]\/(x.op≠2/\x.op≠3))&&decide (x.kids.length<=3)
def IM (k4 k5:Nat) (s:List Bool×List Bool) (h:Nat->Option O):Prop:=
 s.1.length=32/\s.2.length=32/\h k4=some (.rows 1 (zyj s.1) false)/\h k5=some (.rows 1 (zyj s.2) false)
def zev (s:List Bool×List Bool) (x:Expr):List Bool×List Bool:=(zxM 3 s.1 x,zxM 2 s.2 x)
theorem zCd (k4 k5:Nat) (GB:k4≠k5): ∀(e:Expr) (s:List Bool×List Bool) (H:Nat->Option O) (n:Nat),e.allE lcM=true->IM k4 k5 s H->
 ∃r h' n',DenR Γ G 158 [(.agg [.t (ti (e).op),.t (ti (e).w),.t (ti (e).n),.t (.sl ((e).kids.map (Expr.enc)))]),.ms k4 0 32,.ms k5 0 32] H n=some (r,h',n')/\IM k4 k5 (e.lv.foldl zev s) h':=by
 intro e
 induction e using Expr.ind with
 | _ e ih=>
 intro s H n Aa hI;have D8:=Expr.allE_self Aa;simp only[lcM,lcS,zF,decide_eq_true_eq]at D8;obtain⟨⟨⟨BV,DG⟩,Ar⟩,Ea⟩:=D8;obtain⟨l1,l2,i4,i5⟩:=hI
 (refine zxC Γ158 rfl ?_;dsimp only[f158])
 by_cases hk:e.kids=[]
 ·have Fb:e.lv=[e]:=by rw[Expr.lv_eq,if_pos hk]
  rw[Fb];rcases DG hk with ho | ⟨ho,Ai⟩
  ·simp -dsimp only[go_sem,seval,ho,hk];refine zai ?_;simp -dsimp only[go_sem,seval];have m1:zxM 3 s.1 e=s.1:=by simp[zxM,ho]
   have m2:zxM 2 s.2 e=s.2:=by simp[zxM,ho]
   rw[show [e].foldl zev s=zev s e from rfl,zev,m1,m2];exact⟨l1,l2,i4,i5⟩
  ·have hn:0<=e.n/\e.n<32:=⟨BV,Ai⟩
   have g1:(zyj s.1)[e.n.toNat]? =some [vb (s.1[e.n.toNat]'(by omega))]:=by
    simp only[zyj,zJ,zI (show e.n.toNat<s.1.length by omega)];rfl
   have g2:(zyj s.2)[e.n.toNat]? =some [vb (s.2[e.n.toNat]'(by omega))]:=by
    simp only[zyj,zJ,zI (show e.n.toNat<s.2.length by omega)];rfl
   rcases ho with ho | ho
   ·simp -dsimp only[go_sem,seval,ho,hk,hn,i5,g2];refine zai ?_;simp -dsimp only[go_sem,seval];have m1:zxM 3 s.1 e=s.1:=by simp[zxM,ho]
    have m2:zxM 2 s.2 e=s.2.set e.n.toNat true:=by simp[zxM,ho]
    rw[show [e].foldl zev s=zev s e from rfl,zev,m1,m2];refine⟨l1,by simp[l2],by simp -dsimp only[go_sem,seval,GB,i4],?_⟩;simp -dsimp only[go_sem,seval,zg3]
   ·simp -dsimp only[go_sem,seval,ho,hk,hn,i4,g1];refine zai ?_;simp -dsimp only[go_sem,seval];have m1:zxM 3 s.1 e=s.1.set e.n.toNat true:=by simp[zxM,ho]
    have m2:zxM 2 s.2 e=s.2:=by simp[zxM,ho]
    rw[show [e].foldl zev s=zev s e from rfl,zev,m1,m2];refine⟨by simp[l1],l2,?_,by simp -dsimp only[go_sem,seval,Ne.symm GB,i5]⟩;simp -dsimp only[go_sem,seval,zg3]
 ·have Fb:e.lv=e.kids.flatMap Expr.lv:=by rw[Expr.lv_eq,if_neg hk]
  obtain⟨o2,o3⟩:=Ar.resolve_left hk;rw[Fb];simp -dsimp only[go_sem,seval,o2,o3];refine zap 68717379648 e.kids.length (fun i f hh x=>(f 6).v=vi i/\IM k4 k5 (((e.kids.take i).flatMap Expr.lv).foldl zev s) hh) rfl ⟨by simp -dsimp only[go_sem,seval],by simpa using⟨l1,l2,i4,i5⟩⟩ ?_;rintro i f u hh x bs hi ⟨Gw,Ds⟩;have CJ:=zag i (by omega);simp -dsimp only[go_sem,seval,Gw];refine zw1 (fun h=> ?_) (fun h=> ?_)<;>(try simp only[zab]at h)<;>(try simp -dsimp only[go_sem,seval, *])
  ·obtain⟨y,hy,hm⟩:=zad ‹i<e.kids.length›;simp -dsimp only[go_sem,seval,Gw,hy];refine zas (ih y hm _ _ _ (Expr.allE_kid Aa hm) Ds) ?_;intro r h' n' KW;simp -dsimp only[go_sem,seval,Gw];refine⟨by omega,by simp -dsimp only[go_sem,seval,CJ],?_⟩;rw[zac hy,List.flatMap_append,List.foldl_append];simpa using KW
  ·have:i=e.kids.length:=by omega
   subst this;rw[List.take_length]at Ds;exact Ds
theorem zin (l:List Expr) (s:List Bool×List Bool):l.foldl zev s=(l.foldl (zxM 3) s.1,l.foldl (zxM 2) s.2):=by
 have:=zd2 (zxM 3) (zxM 2) l s.1 s.2;exact this
theorem zCG (d:Nat): ∀e:Expr,e.deep d=true->e.allE lcM=true:=by
 induction d with
 | zero=>intro e h;simp[Expr.deep]at h
 | succ d ih=>
   intro e h;have h1:=Expr.allE_self (zAU (d+1) e h);have hn:=zxO h;rw[Expr.allE_eq];simp only[zF,zN];refine⟨?_,fun k hk=>ih k (zx9 h hk)⟩;simp only[lcM,zF,decide_eq_true_eq];simp only[zF,decide_eq_true_eq]at h1;refine⟨⟨h1.1,?_⟩,h1.2⟩
   by_cases hk:e.kids=[]
   ·exact .inl hk
   ·refine .inr ?_;have ha:=za8 hn;have hl: ¬e.kids.length=0:=by simpa using hk
    constructor
    ·intro hh;rw[hh]at ha;simp[zyl]at ha;omega
    ·intro hh;rw[hh]at ha;simp[zyl]at ha;omega
theorem zdp (h:Nat->Option O) (d:Nat) (l:List Bool):(zyj l).mapM (fun row=>row.mapM (toT h d))=some (l.map fun b=>[tb b]):=by
 have:=zdD h d (l.map fun b=>[tb b]) (by
  intro e he t ht;obtain⟨n,_,rfl⟩:=List.mem_map.1 he
  simp at ht;subst ht;rfl)
 simpa[zyj,Function.comp_def]using this
theorem zfI (h:Nat->Option O) (d:Nat) {rs:List (List V)} (hf: ∀r∈rs,∀v∈r,V.tree v=true):rs.flatMap (·.flatMap (zx0 h d))=[]:=by
 simp only[List.flatMap_eq_nil_iff];intro r hr v hv;have:=hf r hr v hv;cases v<;>simp_all [V.tree]<;>cases d<;>rfl
theorem zlQ {r:V} {h:Nat->Option O} {vs:List V} {K:V->(Nat->Option O)->Prop} {w:WK K} {k sz:Nat} {rs:List (List V)} {fz:Bool}
 (hk:h k=some (.rows sz rs fz)) (hr:vs.flatMap (zxp h)=[k]) (hK: ∀h',(∀j,j≠k->h' j=h j)->(∃fz',h' k=some (.rows sz rs fz'))->K r h'):ziv (some r) false h vs K w:=by
 unfold ziv;simp only;split
 ·exact hK h (fun _ _=>rfl) ⟨fz,hk⟩
 ·refine⟨by simp,hK _ (fun j hj=> ?_) ⟨true,?_⟩⟩
  ·simp[hr,freezes,hk,zav,zar,zae,hj]
  ·simp[hr,freezes,hk,zav,zar,zae]
theorem zBw {h:Nat->Option O} {k sz:Nat} {rs:List (List V)} {fz:Bool} {i n:Nat} (hk:h k=some (.rows sz rs fz)) (hf: ∀r∈rs,∀v∈r,V.tree v=true): [V.ms k i n].flatMap (zxp h)=[k]:=by
 simp only[List.flatMap_cons,List.flatMap_nil,List.append_nil,zxp,zx0,hk,zfI h 999 hf]
theorem zAx (l:List Bool): ∀r∈zyj l,∀v∈r,V.tree v=true:=by
 intro r hr v hv;obtain⟨b,_,rfl⟩:=List.mem_map.1 hr;simp at hv;subst hv;rfl
theorem zgU (e:Expr):Den Γ G 138 [(.agg [.t (ti (e).op),.t (ti (e).w),.t (ti (e).n),.t (.sl ((e).kids.map (Expr.enc)))])]=some (.tup [.t (ints (e.sup 3)),.t (ints (e.sup 2))]):=by
 (refine zw3 Γ138 rfl ?_;dsimp only[f138])
 have h1:=zd1 e
 by_cases hf:e.formed=true
 ·simp -dsimp only[go_sem,seval,h1,hf];have hd:=zxk hf;refine zas (zCd _ _ (by decide) e (List.replicate 32 false,List.replicate 32 false) _ _ (zCG 40 e hd) ⟨rfl,rfl,by simp -dsimp only[go_sem,seval];rfl,by simp -dsimp only[go_sem,seval];rfl⟩) ?_;intro r h' n' hI;rw[zin]at hI;obtain⟨l1,l2,i4,i5⟩:=hI;have o3:=zgm 3 e;have o2:=zgm 2 e;have m3:=zfQ (e.occ 3) (by omega);have m2:=zfQ (e.occ 2) (by omega);rw[o3]at m3;rw[o2]at m2;change h' _=some (.rows 1 (zyj (e.occ 3)) false)at i4;change h' _=some (.rows 1 (zyj (e.occ 2)) false)at i5;have v3:(zyj (e.occ 3)).length=32:=by simp[zyj,o3]
  have v2:(zyj (e.occ 2)).length=32:=by simp[zyj,o2]
  have t3:List.take 32 (zyj (e.occ 3))=zyj (e.occ 3):=List.take_of_length_le (by omega);have t2:List.take 32 (zyj (e.occ 2))=zyj (e.occ 2):=List.take_of_length_le (by omega);have b3:=fun d=>zdp h' d (e.occ 3)
  have b2:=fun d=>zdp h' d (e.occ 2)
  simp -dsimp only[go_sem,seval,i4,v3,t3,b3,m3];refine zlQ i4 (zBw i4 (zAx _)) ?_;rintro h2 A8 -;have i5:=(A8 8 (by decide)).trans i5;have b2:=fun d=>zdp h2 d (e.occ 2)
  simp -dsimp only[go_sem,seval,i5,v2,t2,b2,m2];refine zlQ i5 (zBw i5 (zAx _)) ?_;rintro h3 - -;simp -dsimp only[go_sem,seval];simp[Expr.sup,hf]
 ·have hf:e.formed=false:=by simpa using hf
  simp -dsimp only[go_sem,seval,h1,hf];simp[Expr.sup,hf]
namespace Expr
mutual
def beq:Expr->Expr->Bool
 | .mk o w n k,.mk o' w' n' k'=>decide (o=o'/\w=w'/\n=n')&&ztt k k'
def ztt:List Expr->List Expr->Bool
 | [],[]=>true
 | e::r,e'::r'=>beq e e'&&ztt r r'
 | _,_=>false
end
end Expr
theorem zh6 (e:Expr):Den Γ G 156 [(.agg [.t (ti (e).op),.t (ti (e).w),.t (ti (e).n),.t (.sl ((e).kids.map (Expr.enc)))]),.agg [vi 1,vi 1,vi 1,.t (.sl [])]]=some (vb (decide (e.op=1/\e.w=1/\e.n=1/\e.kids=[]))):=by
 (refine zw3 Γ156 rfl ?_;dsimp only[f156])
 simp -dsimp only[go_sem,seval]
 repeat'(refine zw1 (fun h=> ?_) (fun h=> ?_)<;>(try simp only[zab]at h)<;>(try simp -dsimp only[go_sem,seval, *]))
 ·simp[*]
 ·simp[*]
 ·simp[*]
 ·have : ¬e.kids=[]:=by intro h0;rw[h0]at h;simp at h
  simp[*]
 ·have:e.kids=[]:=by simpa using‹(e.kids.length:Int)=0›
  refine zai ?_;simp -dsimp only[go_sem,seval,this];simp[*]
def za0 (h:Nat->Option O) (x:Nat) (v:V) (sz:Nat) (rows:List (List V)):Prop:=
 (v= .t .nils/\rows=[])\/ ∃k,v= .ms k 0 rows.length/\k<x/\h k=some (.rows sz rows false)
theorem za0.rowsS {h:Nat->Option O} {x:Nat} {v:V} {sz:Nat} {rows:List (List V)} (o:za0 h x v sz rows):rowsS h v=some rows:=by
 rcases o with⟨rfl,rfl⟩ | ⟨k,rfl,_,hk⟩
 ·rfl
 ·simp[Rg.rowsS,hk,rd]
theorem za0.valOf {h:Nat->Option O} {x:Nat} {v:V} {sz:Nat} {rows:List (List V)} (o:za0 h x v sz rows):valOf v=some v:=by
 rcases o with⟨rfl,rfl⟩ | ⟨k,rfl,_,hk⟩<;>rfl
theorem zhe {h:Nat->Option O} {x q sz bytes k0 n0:Nat} {a b:List (List V)} {K:V->List (Nat×O)->Prop} {w:WK K}
 (hh:h k0=some (.rows sz a false)) (hn:n0=a.length) (hx:k0<x) (PA:x<=q) (Ac:a.length+b.length<=2^32) (Ha:bytes<=2^12) (hb:(b.all fun r=>decide (r.length=sz))=true) (ha:(a.all fun r=>decide (r.length=sz))=true)
 (hK: ∀k hp,k<q+1->Av h hp k=some (.rows sz (a++b) false)->(∀j,j<q->j≠k0->Av h hp j=h j)->(∀j,q<j->Av h hp j=h j)->K (.ms k 0 (a++b).length) hp):
 zfo false (zyh h q sz bytes (.ms k0 0 n0) a b) K w:=by
 subst hn;unfold zyh;rw[if_pos ⟨⟨Ac,Ha⟩,hb,ha⟩]
 cases b with
 | nil=>
   simp only[List.isEmpty_nil,if_true,zbz];have:=hK k0 [] (by omega) (by rw[zar,List.append_nil];exact hh) (fun j _ _=>by rw[zar]) (fun j _=>by rw[zar])
   rwa[List.append_nil]at this
 | cons r b=>
   simp only[List.isEmpty_cons,zG,if_false,hh,and_self,if_true,zbz,zer]
   have:=hK q [(k0,.dead),(q,.rows sz (a++r::b) false)] (by omega) (by simp[zav,zar,zae]) (fun j hj A8=>by
    have h1:j≠q:=by omega
    simp[zav,zar,zae,h1,A8]) (fun j hj=>by
    have h1:j≠q:=by omega
    have h2:j≠k0:=by omega
    simp[zav,zar,zae,h1,h2])
   rwa[zM]at this
def zim (p:Prog) (e:Expr):Prop:= ∀op,op=2\/op=3-> ∀c∈e.sup op,0<=c/\c<p.cells.length
def zC9 (p:Prog) (shared:Bool) (t c:Int):Bool:=match p.cells[c.toNat]? with
 | some x=> !((decide (x.thread= -1)&& !shared)||(decide (0<=x.thread)&&decide (x.thread≠t)))
 | none=>false
theorem zcD (op:Int) (e:Expr):(e.sup op).length<=32:=by
 unfold Expr.sup;split
 ·unfold zxA;rw[List.length_map];exact Nat.le_trans (List.length_filter_le _ _) (by simp)
 ·simp
theorem zge (l:List Int):(l.map fun n=>[ti n]).map (fun x=>x.map V.t)=zw5 l:=rfl
theorem zkU (p:Prog) (e:Expr) (sh:Bool) (t:Int) (Ar:zim p e):
 Den Γ G 115 [(zP p),(.agg [.t (ti (e).op),.t (ti (e).w),.t (ti (e).n),.t (.sl ((e).kids.map (Expr.enc)))]),vb sh,vi t]=some (vb ((e.sup 3++e.sup 2).all (zC9 p sh t))):=by
 (refine zw3 Γ115 rfl ?_;dsimp only[f115])
 have h1:=zgU e;have s3:=zcD 3 e;have s2:=zcD 2 e
 have Aa: ∀c∈e.sup 3++e.sup 2,0<=c/\c<p.cells.length:=by
  intro c hc;rcases List.mem_append.1 hc with hc | hc
  ·exact Ar 3 (.inr rfl) c hc
  ·exact Ar 2 (.inl rfl) c hc
 have Fp:zw5 (e.sup 3)++zw5 (e.sup 2)=zw5 (e.sup 3++e.sup 2):=by simp[zw5]
 have Ac:(e.sup 3++e.sup 2).length<=64:=by rw[zM];omega
 simp -dsimp only[go_sem,seval,h1,zge];refine zhe (x:=11) (by simp -dsimp only[go_sem,seval]) rfl (by decide) (by decide) (by rw[zw2];simp;omega) (by decide) (zxw _) (by decide) ?_;intro k hp hk hh _ _;rw[List.nil_append]at hh⊢;simp -dsimp only[go_sem,seval,hh,zge,Nat.le_refl,List.take_length];refine zhe hh rfl hk (by decide) (by rw[zw2,zw2];omega) (by decide) (zxw _) (zxw _) ?_;intro k2 Es AX Dm _ _;rw[Fp]at Dm⊢
 generalize e.sup 3++e.sup 2=l at *
 obtain⟨M,hM⟩: ∃M,M=zC9 p sh t:=⟨_,rfl⟩
 rw[<- hM];replace hM: ∀c,zC9 p sh t c=M c:=fun c=>by rw[hM]
 cases sh
 all_goals(
  simp -dsimp only[go_sem,seval];refine zap 18014398492717312 l.length (fun i f hh x=>(f 12).v=vi i/\hh k2=some (.rows 1 (zw5 l) false)/\(l.take i).all M=true) rfl ⟨by simp -dsimp only[go_sem,seval],by simp -dsimp only[go_sem,seval,Dm],by simp⟩ ?_;clear Dm;rintro i f u hh x bs hi ⟨Gx,Dm,Cu⟩;have CJ:=zag i (by omega);simp -dsimp only[go_sem,seval,Gx,Dm,zw2];refine zw1 (fun h=> ?_) (fun h=> ?_)<;>(try simp only[zab]at h)<;>(try simp -dsimp only[go_sem,seval, *])
  ·obtain⟨c,hc,hm⟩:=zad (show i<l.length by omega);obtain⟨c0,c1⟩:=Aa c hm;obtain⟨y,hy⟩: ∃y,p.cells[c.toNat]? =some y:=⟨_,zI (by omega)⟩
   have A6:(zw5 l)[i]? =some [vi c]:=by simp[zw5,hc]
   have DM:(0:Int)<=(i:Int):=by omega
   have Cg:i<l.length:=by omega
   have Ix:=(hM c).symm;simp only[zC9,hy]at Ix;have Bs:M c=false->l.all M=false:=fun h0=>za7 hm h0
   simp -dsimp only[go_sem,seval,Gx,Dm,A6,Cg,c0,hy,zw2]
   repeat'(refine zw1 (fun h=> ?_) (fun h=> ?_)<;>(try simp only[zab]at h)<;>(try simp -dsimp only[go_sem,seval, *]))
   all_goals first
    | (rw[Bs (by rw[Ix];simp[*])];done)
    | (refine⟨by omega,by simp -dsimp only[go_sem,seval,CJ],by simp -dsimp only[go_sem,seval,Dm],?_⟩
       rw[zac hc,List.all_append,Cu];simp only[List.all_cons,List.all_nil,Ix]
       simp[*];(try omega);done)
  ·have:i=l.length:=by omega
   subst this;rw[List.take_length]at Cu
   rw[Cu])
theorem za0.upd {h:Nat->Option O} {x:Nat} {v:V} {sz:Nat} {rows:List (List V)} (o:za0 h x v sz rows) {q:Nat} (hq:x<=q) (b:Option O):za0 (updC h q b) (q+1) v sz rows:=by
 rcases o with o | ⟨k,h1,h2,h3⟩
 ·exact .inl o
 ·exact .inr ⟨k,h1,by omega,by rw[zae,if_neg (by omega)];exact h3⟩
theorem za0.le {h:Nat->Option O} {x y:Nat} {v:V} {sz:Nat} {rows:List (List V)} (o:za0 h x v sz rows) (hq:x<=y):za0 h y v sz rows:=by
 rcases o with o | ⟨k,h1,h2,h3⟩
 ·exact .inl o
 ·exact .inr ⟨k,h1,by omega,h3⟩
theorem za0.r1 {h:Nat->Option O} {x:Nat} {v:V} {sz:Nat} {rows:List (List V)} (o:za0 h x v sz rows) (a:Nat) (b:Option O):Rg.rowsS (updC h (x+a) b) v=some rows:=(o.upd (by omega) b).rowsS
theorem za0.r2 {h:Nat->Option O} {x:Nat} {v:V} {sz:Nat} {rows:List (List V)} (o:za0 h x v sz rows) (a c:Nat) (b:Option O):Rg.rowsS (updC h (x+a+c) b) v=some rows:=(o.upd (by omega) b).rowsS
theorem za0.r3 {h:Nat->Option O} {x:Nat} {v:V} {sz:Nat} {rows:List (List V)} (o:za0 h x v sz rows) (a c d:Nat) (b:Option O):Rg.rowsS (updC h (x+a+c+d) b) v=some rows:=(o.upd (by omega) b).rowsS
theorem za0.r4 {h:Nat->Option O} {x:Nat} {v:V} {sz:Nat} {rows:List (List V)} (o:za0 h x v sz rows) (a c d e:Nat) (b:Option O):Rg.rowsS (updC h (x+a+c+d+e) b) v=some rows:=(o.upd (by omega) b).rowsS
theorem za0.r5 {h:Nat->Option O} {x:Nat} {v:V} {sz:Nat} {rows:List (List V)} (o:za0 h x v sz rows) (a c d e f:Nat) (b:Option O):Rg.rowsS (updC h (x+a+c+d+e+f) b) v=some rows:=(o.upd (by omega) b).rowsS
theorem za0.reify {h:Nat->Option O} {x:Nat} {v:V} {sz:Nat} {es:List (List T)} (o:za0 h x v sz (es.map (·.map V.t))) (hn: ∀e∈es,∀t∈e,T.norm t=t):Rg.reify h v=some (.t (.sl es)):=by
 have:=zbS o hn;rcases o with⟨rfl,he⟩ | ⟨k,rfl,_,_⟩
 ·have:es=[]:=by simpa using he
  subst this;rfl
 ·simp only[Rg.reify,toT1,this,Option.map_some]
theorem za0.one {h:Nat->Option O} {x:Nat} {v:V} {sz:Nat} {rows:List (List V)} (o:za0 h x v sz rows):v.one=true:=by
 rcases o with⟨rfl,_⟩ | ⟨k,rfl,_,_⟩<;>rfl
theorem za0.resVal {h:Nat->Option O} {x:Nat} {v:V} {sz:Nat} {rows:List (List V)} (o:za0 h x v sz rows):Rg.resVal v=some v:=by
 rcases o with⟨rfl,_⟩ | ⟨k,rfl,_,_⟩<;>rfl
def zdc (v:V) (k:Nat):Prop:= ∀i n,v≠ .ms k i n
theorem zyp {q k:Nat} (h:k≠q) (i n:Nat):zdc (.ms q i n) k:=by
 intro i' n' he;cases he;exact h rfl
theorem za0.off {h:Nat->Option O} {x:Nat} {v:V} {sz:Nat} {rows:List (List V)} (o:za0 h x v sz rows) {k:Nat} (hk:x<=k):zdc v k:=by
 rcases o with⟨rfl,_⟩ | ⟨k',rfl,h2,_⟩
 ·intro i n he;cases he
 ·exact zyp (by omega) _ _
theorem zaM {h:Nat->Option O} {x q sz bytes:Nat} {u:V} {a:List (List V)} {r:List V} {K:V->List (Nat×O)->Prop} {w:WK K}
 (ho:za0 h x u sz a) (hx:x<=q) (Ac:a.length<2^32) (Ha:bytes<=2^12) (hb:r.length=sz) (ha:(a.all fun r=>decide (r.length=sz))=true)
 (hK: ∀v hp,za0 (Av h hp) (q+1) v sz (a++[r])->(∀j,j<x->zdc v j)->(∀j,j<x->zdc u j->Av h hp j=h j)->K v hp):
 zfo false (zyh h q sz bytes u a [r]) K w:=by
 unfold zyh;rw[if_pos ⟨⟨by simp;omega,Ha⟩,by simp[hb],ha⟩];simp only[List.isEmpty_cons,zG,if_false];rcases ho with⟨rfl,rfl⟩ | ⟨k,rfl,hk,hh⟩
 ·simp only[zbz];refine hK _ _ (.inr ⟨q,rfl,by omega,?_⟩) (fun j hj=>zyp (by omega) _ _) (fun j hj _=> ?_)
  ·simp[zav,zar,zae]
  ·have:j≠q:=by omega
   simp[zav,zar,zae,this]
 ·simp only[hh,and_self,if_true,zbz,zer];refine hK _ [(k,.dead),(q,.rows sz (a++[r]) false)] (.inr ⟨q,by rw[zM],by omega,by simp[zav,zar,zae]⟩) (fun j hj=>zyp (by omega) _ _) (fun j hj A8=> ?_);have h1:j≠q:=by omega
  have h2:j≠k:=by rintro rfl;exact A8 0 _ rfl
  simp[zav,zar,zae,h1,h2]
theorem za0.keep {h h':Nat->Option O} {x y:Nat} {v:V} {sz:Nat} {rows:List (List V)} (o:za0 h x v sz rows) (Li:x<=y) (hh: ∀k,k<x-> ¬zdc v k->h' k=h k):za0 h' y v sz rows:=by
 rcases o with o | ⟨k,rfl,h2,h3⟩
 ·exact .inl o
 ·exact .inr ⟨k,rfl,by omega,by rw[hh k h2 (fun h0=>h0 _ _ rfl)];exact h3⟩
theorem zd0 {h:Nat->Option O} {key g sz:Nat} {vs rs:List V} {es:List (List T)} {K:V->List (Nat×O)->Prop} {w:WK K} (ht:vs.all V.tree=true) (AA:vs.mapM (toT1 h)=some rs)
 (hd: ∃r h' n',DenR Γ G g rs (fun _=>none) 0=some (r,h',n')/\za0 h' n' r sz (es.map (·.map V.t)))
 (hK: ∀v hp,za0 (Av h hp) (key+1) v sz (es.map (·.map V.t))->(∀j,j≠key->Av h hp j=h j)->(∀j,j≠key->zdc v j)->K v hp):zpM (Γ:=Γ) (G:=G) false h key g vs K w:=by
 obtain⟨r,h',n',C1,Ab⟩:=hd
 have Ic:vs.flatMap (zxp h)=[]:=by
  simp only[List.flatMap_eq_nil_iff];intro v hv;exact zfH (zN.1 ht v hv)
 refine⟨rfl,Ic,rs,AA,r,h',n',C1,?_⟩;rcases Ab with⟨rfl,he⟩ | ⟨k,rfl,hk,hh⟩
 ·refine⟨{ val:=.t .nils },rfl,hK _ _ (.inl ⟨rfl,he⟩) (fun j _=>by rw[zar]) (fun j _ i n h=>by cases h)⟩
 ·have Aa:(es.map (·.map V.t)).all (fun row=>row.all V.isTr)=true:=by
   simp[V.isTr]
  refine⟨{ val:=.ms key 0 (es.map (·.map V.t)).length,hp:=[(key,.rows sz (es.map (·.map V.t)) false)] },?_,hK _ _ (.inr ⟨key,rfl,by omega,by simp[zav,zar,zae]⟩) (fun j hj=>by simp[zav,zar,zae,hj]) (fun j hj=>zyp (by omega) _ _)⟩;simp only[zBy,hh];rw[if_pos ⟨trivial,trivial,Aa⟩]
def zoV:Task->Out->Prop
 | .code _ s,.code _ s'=>s.nxt<=s'.nxt
 | .loop _ s,.code _ s'=>s.nxt<=s'.nxt
 | .ops _ _ _ s,.ops s'=>s.nxt<=s'.nxt
 | .rcall _ _ _ n,.vals _ _ n'=>n<=n'
 | _,_=>True
theorem zoM {Γ:Nat->Option F} {G:Nat->List T} {t:Task} {o:Out} (h:Big Γ G t o):zoV t o:=by
 induction h with
 | rext hg hr hb h=>exact(zBa h).1
 | opsYield hw hf ho An A7 Aq Ac Bd Ba C6 AX h iha ihb ih=>
   simp only[zoV,St.apply,zzg]at *
   omega
 | _=>simp_all [zoV,St.begin,St.apply,St.init]<;>omega
theorem zni {Γ:Nat->Option F} {G:Nat->List T} {g:Nat} {args:List V} {h h':Nat->Option O} {n n':Nat} {r:V} (hd:DenR Γ G g args h n=some (r,h',n')):n<=n':=zoM (zym.1 hd)
theorem zDq {Γ:Nat->Option F} {G:Nat->List T} {g:Nat} {args:List V} {h:Nat->Option O} {n:Nat} {P:V->(Nat->Option O)->Nat->Prop} (hd: ∃r h' n',DenR Γ G g args h n=some (r,h',n')/\P r h' n'):
 ∃r h' n',DenR Γ G g args h n=some (r,h',n')/\(P r h' n'/\n<=n'):=
 let⟨r,h',n',h1,h2⟩:=hd
 ⟨r,h',n',h1,h2,zni h1⟩
theorem zzf (e:Expr) (H0:Nat->Option O) (n0:Nat):
 ∃r h' n',DenR Γ G 60 [(.agg [.t (ti (e).op),.t (ti (e).w),.t (ti (e).n),.t (.sl ((e).kids.map (Expr.enc)))])] H0 n0=some (r,h',n')/\ ∃v3 v2,r= .tup [v3,v2]/\za0 h' n' v3 1 (zw5 (e.sup 3))/\za0 h' n' v2 1 (zw5 (e.sup 2))/\n0<=n'/\ ∀k,k<n0->h' k=H0 k/\zdc v3 k/\zdc v2 k:=by
 (refine zxC Γ60 rfl ?_;dsimp only[f60])
 have h1:=zb4 e
 by_cases hf:e.formed=true
 ·simp -dsimp only[go_sem,seval,h1,hf];have hd:=zxk hf;refine zas (zDq (zAC 77 _ (fun s h=>IS (n0+0) (n0+3+3+0) (n0+3+3+1) e s h/\ ∀k,k<n0->h k=H0 k) (fun s x=>(zxM 3 s.1 x,zxM 2 s.2 x)) lcS ?_ e _ (List.replicate 32 false,List.replicate 32 false) _ _ (zAU 40 e hd) ⟨⟨rfl,rfl,?_,?_,?_⟩,?_⟩ (fun s h hI=> .inr ⟨n0+0,false,rfl,hI.1.2.2.2.2⟩))) ?_
  ·rintro s h n v x ⟨hI,DH⟩ hk hl hs;obtain⟨r,h',n',hd,Ds,MD⟩:=zgV (n0+0) (n0+3+3+0) (n0+3+3+1) e (by omega) (by omega) (by omega) s h n v x hI hk hl hs;exact⟨r,h',n',hd,Ds,fun k hk=>(MD k (by omega) (by omega)).trans (DH k hk)⟩
  ·rw[zae,if_neg (by omega),zae,if_pos rfl];rfl
  ·rw[zae,if_pos rfl];rfl
  ·rw[zae,if_neg (by omega),zae,if_neg (by omega),zae,if_pos rfl]
  ·intro k hk;rw[zae,if_neg (by omega),zae,if_neg (by omega),zae,if_neg (by omega)]
  rintro r h' n' ⟨⟨hI,DH⟩,PM⟩;rw[zd2]at hI;obtain⟨l1,l2,i4,i5,i1⟩:=hI;change h' (n0+3+3+0)=some (.rows 32 [vbs (e.occ 3)] false)at i4;change h' (n0+3+3+1)=some (.rows 32 [vbs (e.occ 2)] false)at i5;have o3:=zgm 3 e;have o2:=zgm 2 e;have v3:(vbs (e.occ 3)).length=32:=by simp[vbs,o3]
  have v2:(vbs (e.occ 2)).length=32:=by simp[vbs,o2]
  have t3:List.take 32 (vbs (e.occ 3))=vbs (e.occ 3):=List.take_of_length_le (by omega);have t2:List.take 32 (vbs (e.occ 2))=vbs (e.occ 2):=List.take_of_length_le (by omega);have m3:=zeT (e.occ 3) o3;have m2:=zeT (e.occ 2) o2;change ∃r h' n',DenR Γ G 78 [V.agg (vbs (e.occ 3))] (fun _=>none) 0=some (r,h',n')/\_ at m3;change ∃r h' n',DenR Γ G 78 [V.agg (vbs (e.occ 2))] (fun _=>none) 0=some (r,h',n')/\_ at m2
  have tr: ∀l:List Bool,[V.agg (vbs l)].all V.tree=true:=fun l=>by
   simp only[List.all_cons,List.all_nil,Bool.and_true,V.tree,vbs,List.all_map,zN];intros;rfl
  have mt: ∀(g:Nat->Option O) (l:List Bool),[V.agg (vbs l)].mapM (toT1 g)=some [V.agg (vbs l)]:=fun g l=>by
   have:List.mapM (toT g 1000) (vbs l)=some (l.map fun b=>tb b):=by
    refine zb0 _ _ _ (fun i a ha=> ?_) (by simp[vbs]);rw[vbs,zJ]at ha;rw[zJ]
    cases hb:l[i]? with
    | none=>rw[hb]at ha;simp at ha
    | some x=>rw[hb]at ha;simp at ha;subst ha;exact⟨_,rfl,rfl⟩
   have h2:List.map V.t (l.map fun b=>tb b)=vbs l:=by simp[vbs]
   simp only[List.mapM_cons,List.mapM_nil,toT1,this,Option.map_some,h2];rfl
  simp -dsimp only[go_sem,seval,i4,v3,t3];refine zd0 (tr _) (mt _ _) m3 ?_;intro w3 OJ Nw BB Pj;have x3:=Nw.valOf;have i5':=(BB (n0+3+3+1) (by omega)).trans i5;simp -dsimp only[go_sem,seval,i5',v2,t2,x3];refine zd0 (tr _) (mt _ _) m2 ?_;intro w2 Es Jb AX IL;have x2:=Jb.valOf;have y3:=Nw.resVal;have y2:=Jb.resVal;simp only[Rg.resVal]at y3 y2;simp -dsimp only[go_sem,seval,x3,x2,y3,y2];have hs: ∀op,zxA (e.occ op) 32=e.sup op:=fun op=>by simp[Expr.sup,hf]
  have Nv:=Nw.keep (y:=n'+6) (h':=Av (Av h' OJ) Es) (by omega) (fun k hk _=>AX k (by omega));have ha: ∀l:List ROp,l.length=6->addC n' l=n'+6:=fun l hl=>by rw[zgK];simp[hl]
  refine⟨w3,w2,rfl,?_,?_,?_,fun k hk=>⟨?_,Pj k (by omega),IL k (by omega)⟩⟩
  ·rw[<- hs 3,ha _ rfl];exact Nv
  ·rw[<- hs 2,ha _ rfl];exact Jb.le (by omega)
  ·rw[ha _ rfl];omega
  ·rw[AX k (by omega),BB k (by omega)];exact DH k hk
 ·have hf:e.formed=false:=by simpa using hf
  simp -dsimp only[go_sem,seval,h1,hf];have hs: ∀op,e.sup op=[]:=fun op=>by simp[Expr.sup,hf]
  rw[hs,hs];exact⟨_,_,rfl,.inl ⟨rfl,rfl⟩,.inl ⟨rfl,rfl⟩,Nat.le_trans (zzS _ _) (Nat.le_trans (zzS _ _) (zzS _ _)),fun k hk=>⟨by rw[zae,if_neg (by omega)],(fun i n h=>by cases h),(fun i n h=>by cases h)⟩⟩
end Rg
end
