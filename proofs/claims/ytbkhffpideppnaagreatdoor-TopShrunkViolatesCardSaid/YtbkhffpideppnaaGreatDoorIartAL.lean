/- Part of the proof of laws of relyguardtop. No condition. -/
import Derived.Test.YtbkhffpideppnaaGreatDoorIartAK
import Derived.Test.YtbkhffpideppnaaGreatDoorIartAJ
set_option linter.unusedSimpArgs false
set_option linter.unusedVariables false
section
namespace Rg
open Go
theorem ztl (x m w:Int) (hw:0<=w/\w<=62) (hm:m=2^w.toNat-1):IntKind.i64.wrap ((BitVec.ofInt IntKind.i64.bits x&&& BitVec.ofInt IntKind.i64.bits m).toNat)=x % 2^w.toNat:=by
 subst hm;exact ziA x w hw
theorem zvv {op w a b c:Int} (Ao:4<=op/\op<=14) (hw:1<=w) (ho:0<=opv op w a b c/\opv op w a b c<2^w.toNat) (ha:0<=a):zv7 op a b c % 2^w.toNat=opv op w a b c:=by
 have Nt:=zcn w.toNat;have AL:op=4\/op=5\/op=6\/op=7\/op=8\/op=9\/op=10\/op=11\/op=12\/op=13\/op=14:=by omega
 rcases AL with rfl | rfl | rfl | rfl | rfl | rfl | rfl | rfl | rfl | rfl | rfl
 ·have h1:(-1-a) % 2^w.toNat=(2^w.toNat-1-a) % 2^w.toNat:=by
   rw[show 2^w.toNat-1-a=(-1-a)+2^w.toNat by omega,Int.add_emod_right]
  show(-1-a) % 2^w.toNat=2^w.toNat-1-a;rw[h1];exact Int.emod_eq_of_lt ho.1 ho.2
 ·exact Int.emod_eq_of_lt ho.1 ho.2
 ·exact Int.emod_eq_of_lt ho.1 ho.2
 ·exact Int.emod_eq_of_lt ho.1 ho.2
 ·rfl
 ·rfl
 ·rfl
 ·exact Int.emod_eq_of_lt ho.1 ho.2
 ·exact Int.emod_eq_of_lt ho.1 ho.2
 ·exact Int.emod_eq_of_lt ho.1 ho.2
 ·exact Int.emod_eq_of_lt ho.1 ho.2
theorem zsi {e:Expr} (h:zbk e=true) (h1: ¬e.op=1) (h2: ¬e.op=2) (h3: ¬e.op=3):4<=e.op/\e.op<=14:=by
 have:=zct h;rcases zeg e.op with hh | hh | hh | hh | hh | hh | hh | hh | hh | hh | hh | hh | hh | hh | Ao
 all_goals(try omega)
 rw[zd7 Ao]at this;omega
set_option maxHeartbeats 4000000 in
theorem zp2 (old now:List Int) (d:Nat): ∀e:Expr,e.deep d=true->Den Γ G 56 [.t (.ip [ti e.op,ti e.w,ti e.n,.sl (e.kids.map Expr.enc)]),.t (ints old),.t (ints now)]=some (vi (e.ev old now)):=by
 induction d with
 | zero=>intro e h;simp[Expr.deep]at h
 | succ d ih=>
   intro e h;have hn:=zcq h;have hw:=zmO hn;have Cg:=zfZ hn;have D9:=zdj hn
   (refine zag Γ56 rfl ?_;dsimp only[f56])
   by_cases h1:e.op=1
   ·simp -dsimp only[go_sem,seval,h1];rw[Expr.ev_eq,if_pos h1]
   ·have key: ∀m:Int,m=2^e.w.toNat-1->(∀x:Int,IntKind.i64.wrap ((BitVec.ofInt IntKind.i64.bits x&&& BitVec.ofInt IntKind.i64.bits m).toNat)=x % 2^e.w.toNat):=fun m hm x=>ztl x m e.w (by omega) hm
    by_cases h2:e.op=2
    ·have h3:=zjx now e.n Cg;have Ak:e.ev old now=atI now e.n % 2^e.w.toNat:=by rw[Expr.ev_eq,if_neg h1,if_pos h2]
     rw[Ak]
     generalize e.w=w at *
     rcases zdR hw with rfl | rfl | rfl | rfl | rfl | rfl | rfl | rfl
     ·have km:=key 1 rfl;simp -dsimp only[go_sem,seval,h2,h3,km]
     ·have km:=key 3 rfl;simp -dsimp only[go_sem,seval,h2,h3,km]
     ·have km:=key 7 rfl;simp -dsimp only[go_sem,seval,h2,h3,km]
     ·have km:=key 15 rfl;simp -dsimp only[go_sem,seval,h2,h3,km]
     ·have km:=key 31 rfl;simp -dsimp only[go_sem,seval,h2,h3,km]
     ·have km:=key 63 rfl;simp -dsimp only[go_sem,seval,h2,h3,km]
     ·have km:=key 127 rfl;simp -dsimp only[go_sem,seval,h2,h3,km]
     ·have km:=key 255 rfl;simp -dsimp only[go_sem,seval,h2,h3,km]
    ·by_cases h3:e.op=3
     ·have BV:=zjx old e.n Cg;have Ak:e.ev old now=atI old e.n % 2^e.w.toNat:=by rw[Expr.ev_eq,if_neg h1,if_neg h2,if_pos h3]
      rw[Ak]
      generalize e.w=w at *
      rcases zdR hw with rfl | rfl | rfl | rfl | rfl | rfl | rfl | rfl
      ·have km:=key 1 rfl;simp -dsimp only[go_sem,seval,h3,BV,km]
      ·have km:=key 3 rfl;simp -dsimp only[go_sem,seval,h3,BV,km]
      ·have km:=key 7 rfl;simp -dsimp only[go_sem,seval,h3,BV,km]
      ·have km:=key 15 rfl;simp -dsimp only[go_sem,seval,h3,BV,km]
      ·have km:=key 31 rfl;simp -dsimp only[go_sem,seval,h3,BV,km]
      ·have km:=key 63 rfl;simp -dsimp only[go_sem,seval,h3,BV,km]
      ·have km:=key 127 rfl;simp -dsimp only[go_sem,seval,h3,BV,km]
      ·have km:=key 255 rfl;simp -dsimp only[go_sem,seval,h3,BV,km]
     ·have Ao:=zsi hn h1 h2 h3;have hb:=zix old now _ e h
      have Ak:e.ev old now=opv e.op e.w ((e.kids.map (Expr.ev old now)).getD 0 0) ((e.kids.map (Expr.ev old now)).getD 1 0) ((e.kids.map (Expr.ev old now)).getD 2 0):=by
       rw[Expr.ev_eq,if_neg h1,if_neg h2,if_neg h3]
      have hk: ∀k∈e.kids,Den Γ G 56 [.t (.ip [ti k.op,ti k.w,ti k.n,.sl (k.kids.map Expr.enc)]),.t (ints old),.t (ints now)]=some (vi (k.ev old now)):=fun k hk=>ih k (zc7 h hk)
      have AJ:=(zpl old now h).2.2.1;rw[Ak]at hb;have CD:=zvv (a:=((e.kids.map (Expr.ev old now)).getD 0 0)) (b:=((e.kids.map (Expr.ev old now)).getD 1 0)) (c:=((e.kids.map (Expr.ev old now)).getD 2 0)) Ao hw.1 hb;rw[Ak];clear Ak hb ih;simp -dsimp only[go_sem,seval,h1,h2,h3]
      generalize he:e.kids=ks at *
      rcases ks with _ | ⟨a,_ | ⟨b,_ | ⟨c,_ | ⟨x,r⟩⟩⟩⟩
      ·exfalso;have ha:=zct hn;rw[he]at ha;rcases Ao with⟨o1,o2⟩
       have:1<=zcO e.op:=by unfold zcO;grind
       simp at ha;omega
      ·have Ew:=hk a (by simp);have Kv:=AJ (a.ev old now) (by simp);have hd:=zhH e.op (a.ev old now) 0 0 Ao (by omega) (by omega) (by omega);have CD:=CD (by simp only[List.map_cons,List.getD_cons_zero];omega);rw[<- CD];clear CD;refine zaD ?_;simp -dsimp only[go_sem,seval,he,Ew];refine zaD ?_
       generalize e.w=w at *
       rcases zdR hw with rfl | rfl | rfl | rfl | rfl | rfl | rfl | rfl
       ·have km:=key 1 rfl;simp -dsimp only[go_sem,seval,he,hd,km,List.map_cons,List.map_nil,List.getD_cons_zero,List.getD_cons_succ,List.getD_nil]
       ·have km:=key 3 rfl;simp -dsimp only[go_sem,seval,he,hd,km,List.map_cons,List.map_nil,List.getD_cons_zero,List.getD_cons_succ,List.getD_nil]
       ·have km:=key 7 rfl;simp -dsimp only[go_sem,seval,he,hd,km,List.map_cons,List.map_nil,List.getD_cons_zero,List.getD_cons_succ,List.getD_nil]
       ·have km:=key 15 rfl;simp -dsimp only[go_sem,seval,he,hd,km,List.map_cons,List.map_nil,List.getD_cons_zero,List.getD_cons_succ,List.getD_nil]
       ·have km:=key 31 rfl;simp -dsimp only[go_sem,seval,he,hd,km,List.map_cons,List.map_nil,List.getD_cons_zero,List.getD_cons_succ,List.getD_nil]
       ·have km:=key 63 rfl;simp -dsimp only[go_sem,seval,he,hd,km,List.map_cons,List.map_nil,List.getD_cons_zero,List.getD_cons_succ,List.getD_nil]
       ·have km:=key 127 rfl;simp -dsimp only[go_sem,seval,he,hd,km,List.map_cons,List.map_nil,List.getD_cons_zero,List.getD_cons_succ,List.getD_nil]
       ·have km:=key 255 rfl;simp -dsimp only[go_sem,seval,he,hd,km,List.map_cons,List.map_nil,List.getD_cons_zero,List.getD_cons_succ,List.getD_nil]
      ·have Ew:=hk a (by simp);have Kv:=AJ (a.ev old now) (by simp);have Do:=hk b (by simp);have LD:=AJ (b.ev old now) (by simp);have hd:=zhH e.op (a.ev old now) (b.ev old now) 0 Ao (by omega) (by omega) (by omega);have CD:=CD (by simp only[List.map_cons,List.getD_cons_zero];omega);rw[<- CD];clear CD;refine zaD ?_;simp -dsimp only[go_sem,seval,he,Ew];refine zaD ?_;simp -dsimp only[go_sem,seval,he,Do];refine zaD ?_
       generalize e.w=w at *
       rcases zdR hw with rfl | rfl | rfl | rfl | rfl | rfl | rfl | rfl
       ·have km:=key 1 rfl;simp -dsimp only[go_sem,seval,he,hd,km,List.map_cons,List.map_nil,List.getD_cons_zero,List.getD_cons_succ,List.getD_nil]
       ·have km:=key 3 rfl;simp -dsimp only[go_sem,seval,he,hd,km,List.map_cons,List.map_nil,List.getD_cons_zero,List.getD_cons_succ,List.getD_nil]
       ·have km:=key 7 rfl;simp -dsimp only[go_sem,seval,he,hd,km,List.map_cons,List.map_nil,List.getD_cons_zero,List.getD_cons_succ,List.getD_nil]
       ·have km:=key 15 rfl;simp -dsimp only[go_sem,seval,he,hd,km,List.map_cons,List.map_nil,List.getD_cons_zero,List.getD_cons_succ,List.getD_nil]
       ·have km:=key 31 rfl;simp -dsimp only[go_sem,seval,he,hd,km,List.map_cons,List.map_nil,List.getD_cons_zero,List.getD_cons_succ,List.getD_nil]
       ·have km:=key 63 rfl;simp -dsimp only[go_sem,seval,he,hd,km,List.map_cons,List.map_nil,List.getD_cons_zero,List.getD_cons_succ,List.getD_nil]
       ·have km:=key 127 rfl;simp -dsimp only[go_sem,seval,he,hd,km,List.map_cons,List.map_nil,List.getD_cons_zero,List.getD_cons_succ,List.getD_nil]
       ·have km:=key 255 rfl;simp -dsimp only[go_sem,seval,he,hd,km,List.map_cons,List.map_nil,List.getD_cons_zero,List.getD_cons_succ,List.getD_nil]
      ·have Ew:=hk a (by simp);have Kv:=AJ (a.ev old now) (by simp);have Do:=hk b (by simp);have LD:=AJ (b.ev old now) (by simp);have DO:=hk c (by simp);have RM:=AJ (c.ev old now) (by simp);have hd:=zhH e.op (a.ev old now) (b.ev old now) (c.ev old now) Ao (by omega) (by omega) (by omega);have CD:=CD (by simp only[List.map_cons,List.getD_cons_zero];omega);rw[<- CD];clear CD;refine zaD ?_;simp -dsimp only[go_sem,seval,he,Ew];refine zaD ?_;simp -dsimp only[go_sem,seval,he,Do];refine zaD ?_;simp -dsimp only[go_sem,seval,he,DO];refine zaD ?_
       generalize e.w=w at *
       rcases zdR hw with rfl | rfl | rfl | rfl | rfl | rfl | rfl | rfl
       ·have km:=key 1 rfl;simp -dsimp only[go_sem,seval,he,hd,km,List.map_cons,List.map_nil,List.getD_cons_zero,List.getD_cons_succ,List.getD_nil]
       ·have km:=key 3 rfl;simp -dsimp only[go_sem,seval,he,hd,km,List.map_cons,List.map_nil,List.getD_cons_zero,List.getD_cons_succ,List.getD_nil]
       ·have km:=key 7 rfl;simp -dsimp only[go_sem,seval,he,hd,km,List.map_cons,List.map_nil,List.getD_cons_zero,List.getD_cons_succ,List.getD_nil]
       ·have km:=key 15 rfl;simp -dsimp only[go_sem,seval,he,hd,km,List.map_cons,List.map_nil,List.getD_cons_zero,List.getD_cons_succ,List.getD_nil]
       ·have km:=key 31 rfl;simp -dsimp only[go_sem,seval,he,hd,km,List.map_cons,List.map_nil,List.getD_cons_zero,List.getD_cons_succ,List.getD_nil]
       ·have km:=key 63 rfl;simp -dsimp only[go_sem,seval,he,hd,km,List.map_cons,List.map_nil,List.getD_cons_zero,List.getD_cons_succ,List.getD_nil]
       ·have km:=key 127 rfl;simp -dsimp only[go_sem,seval,he,hd,km,List.map_cons,List.map_nil,List.getD_cons_zero,List.getD_cons_succ,List.getD_nil]
       ·have km:=key 255 rfl;simp -dsimp only[go_sem,seval,he,hd,km,List.map_cons,List.map_nil,List.getD_cons_zero,List.getD_cons_succ,List.getD_nil]
      ·exfalso;simp at D9
end Rg
end
section
namespace Rg
open Go
theorem zd4 (e:Expr) (old now:List Int):Den Γ G 27 [(.agg [.t (ti (e).op),.t (ti (e).w),.t (ti (e).n),.t (.sl ((e).kids.map (Expr.enc)))]),.t (ints old),.t (ints now)]=some (vi (e.eval old now)):=by
 (refine zag Γ27 rfl ?_;dsimp only[f27])
 have h1:=zeo e
 by_cases hf:e.formed=true
 ·have h2:=zp2 old now 40 e (zcp hf);simp -dsimp only[go_sem,seval,h1,h2,hf];simp[Expr.eval,hf]
 ·have hf:e.formed=false:=by simpa using hf
  simp -dsimp only[go_sem,seval,h1,hf];simp[Expr.eval,hf]
def inR (i n:Int):Bool:=decide (0<=i/\i<n)
theorem zbR (i n:Int):Den Γ G 96 [vi i,vi n]=some (vb (inR i n)):=by
 (refine zag Γ96 rfl ?_;dsimp only[f96])
 simp -dsimp only[go_sem,seval];refine zac (fun h=> ?_) (fun h=> ?_)<;>(try simp only[zah]at h)<;>(try simp -dsimp only[go_sem,seval, *])
 ·simp[inR];omega
 ·simp[inR];omega
theorem zej (i n:Int):Den Γ G 110 [vi i,vi n]=some (vb (inR i n)):=by
 (refine zag Γ110 rfl ?_;dsimp only[f110])
 simp -dsimp only[go_sem,seval];refine zac (fun h=> ?_) (fun h=> ?_)<;>(try simp only[zah]at h)<;>(try simp -dsimp only[go_sem,seval, *])
 ·simp[inR];omega
 ·simp[inR];omega
def Expr.absent (e:Expr):Bool:=decide (e.op=0/\e.w=0/\e.n=0/\e.kids=[])
theorem zoB (e:Expr):Den Γ G 98 [(.agg [.t (ti (e).op),.t (ti (e).w),.t (ti (e).n),.t (.sl ((e).kids.map (Expr.enc)))])]=some (vb e.absent):=by
 (refine zag Γ98 rfl ?_;dsimp only[f98])
 simp -dsimp only[go_sem,seval]
 repeat'(refine zac (fun h=> ?_) (fun h=> ?_)<;>(try simp only[zah]at h)<;>(try simp -dsimp only[go_sem,seval, *]))
 all_goals(simp[Expr.absent, *])
theorem zoA (e:Expr):Den Γ G 111 [(.agg [.t (ti (e).op),.t (ti (e).w),.t (ti (e).n),.t (.sl ((e).kids.map (Expr.enc)))])]=some (vb e.absent):=by
 (refine zag Γ111 rfl ?_;dsimp only[f111])
 simp -dsimp only[go_sem,seval]
 repeat'(refine zac (fun h=> ?_) (fun h=> ?_)<;>(try simp only[zah]at h)<;>(try simp -dsimp only[go_sem,seval, *]))
 all_goals(simp[Expr.absent, *])
def Expr.one (e:Expr):Bool:=decide (e.op=1/\e.w=1/\e.n=1/\e.kids=[])
theorem zwI (e:Expr):Den Γ G 166 [(.agg [.t (ti (e).op),.t (ti (e).w),.t (ti (e).n),.t (.sl ((e).kids.map (Expr.enc)))])]=some (vb e.one):=by
 (refine zag Γ166 rfl ?_;dsimp only[f166])
 simp -dsimp only[go_sem,seval]
 repeat'(refine zac (fun h=> ?_) (fun h=> ?_)<;>(try simp only[zah]at h)<;>(try simp -dsimp only[go_sem,seval, *]))
 all_goals(simp[Expr.one, *])
def zc0 (l:List Int):Bool:=(List.range (l.length-1)).all fun i=>decide (l.getD i 0<l.getD (i+1) 0)
theorem zmv {l:List Int} {i:Nat} (h:i+1<l.length) (h2: ¬l.getD i 0<l.getD (i+1) 0):zc0 l=false:=
 zcr (List.mem_range.2 (by omega)) (decide_eq_false h2)
theorem zkq {l:List Int} (h: ∀j,j+1<l.length->l.getD j 0<l.getD (j+1) 0):zc0 l=true:=by
 simp only[zc0,zN,List.mem_range,decide_eq_true_eq];exact fun j hj=>h j (by omega)
theorem zkr (l:List Int) (hl:l.length<2^50):Den Γ G 113 [.t (ints l)]=some (vb (zc0 l)):=by
 (refine zag Γ113 rfl ?_;dsimp only[f113])
 simp -dsimp only[go_sem,seval];refine zaT 1048572 (l.length-1) (fun i f=>(f 3).v=vi ((i+1:Nat):Int)/\ ∀j<i,l.getD j 0<l.getD (j+1) 0) rfl rfl ⟨by simp -dsimp only[go_sem,seval],by simp⟩ ?_;rintro i f u kk bb hi ⟨h3,Aa⟩;have hw:=zan (i+1) (by omega);have BO:IntKind.i64.wrap (((i+1:Nat):Int)-1)=(i:Int):=by rw[zaH (by omega)];omega
 simp -dsimp only[go_sem,seval,h3];refine zac (fun h=> ?_) (fun h=> ?_)<;>(try simp only[zah]at h)<;>(try simp -dsimp only[go_sem,seval, *])
 ·have Ad:i+1<l.length:=by omega
  have hx:l[i+1]? =some l[i+1]:=zI Ad;have hy:l[i]? =some l[i]:=zI (by omega);have gx:l.getD (i+1) 0=l[i+1]:=by simp[List.getD,hx]
  have gy:l.getD i 0=l[i]:=by simp[List.getD,hy]
  simp -dsimp only[go_sem,seval,h3,hx,hy,BO];refine zac (fun h=> ?_) (fun h=> ?_)<;>(try simp only[zah]at h)<;>(try simp -dsimp only[go_sem,seval, *])
  ·have:zc0 l=false:=zmv Ad (by rw[gx,gy];omega);rw[this]
  ·refine⟨by omega,by simp -dsimp only[go_sem,seval,hw],fun j hj=> ?_⟩
   by_cases DP:j=i
   ·subst DP;rw[gx,gy];omega
   ·exact Aa j (by omega)
 ·have:zc0 l=true:=zkq fun j hj=>Aa j (by omega)
  rw[this]
theorem zgi (l:List Int) (hl:l.length<2^50):Den Γ G 101 [.t (ints l)]=some (vb (zc0 l)):=by
 (refine zag Γ101 rfl ?_;dsimp only[f101])
 simp -dsimp only[go_sem,seval];refine zaT 1048572 (l.length-1) (fun i f=>(f 3).v=vi ((i+1:Nat):Int)/\ ∀j<i,l.getD j 0<l.getD (j+1) 0) rfl rfl ⟨by simp -dsimp only[go_sem,seval],by simp⟩ ?_;rintro i f u kk bb hi ⟨h3,Aa⟩;have hw:=zan (i+1) (by omega);have BO:IntKind.i64.wrap (((i+1:Nat):Int)-1)=(i:Int):=by rw[zaH (by omega)];omega
 simp -dsimp only[go_sem,seval,h3];refine zac (fun h=> ?_) (fun h=> ?_)<;>(try simp only[zah]at h)<;>(try simp -dsimp only[go_sem,seval, *])
 ·have Ad:i+1<l.length:=by omega
  have hx:l[i+1]? =some l[i+1]:=zI Ad;have hy:l[i]? =some l[i]:=zI (by omega);have gx:l.getD (i+1) 0=l[i+1]:=by simp[List.getD,hx]
  have gy:l.getD i 0=l[i]:=by simp[List.getD,hy]
  simp -dsimp only[go_sem,seval,h3,hx,hy,BO];refine zac (fun h=> ?_) (fun h=> ?_)<;>(try simp only[zah]at h)<;>(try simp -dsimp only[go_sem,seval, *])
  ·have:zc0 l=false:=zmv Ad (by rw[gx,gy];omega);rw[this]
  ·refine⟨by omega,by simp -dsimp only[go_sem,seval,hw],fun j hj=> ?_⟩
   by_cases DP:j=i
   ·subst DP;rw[gx,gy];omega
   ·exact Aa j (by omega)
 ·have:zc0 l=true:=zkq fun j hj=>Aa j (by omega)
  rw[this]
def zfN (b:ByteArray) (i:Nat):Bool:=match b[i]? with
 | some c=>decide (33<=c.toNat/\c.toNat<=126)
 | none=>false
def zbA (b:ByteArray):Bool:=decide (1<=b.size/\b.size<=64)&&(List.range b.size).all (zfN b)
theorem ziu {b:ByteArray} {i:Nat} (h:i<b.size) (h2:zfN b i=false):zbA b=false:=by
 rw[zbA,zcr (List.mem_range.2 h) h2,Bool.and_false]
theorem zpN {b:ByteArray} {i:Nat} (h:i<b.size): ∃c,b[i]? =some c:=⟨b[i],by simp[h]⟩
theorem zf2 (b:ByteArray):Den Γ G 95 [.t (.str b)]=some (vb (zbA b)):=by
 (refine zag Γ95 rfl ?_;dsimp only[f95])
 simp -dsimp only[go_sem,seval];refine zac (fun h=> ?_) (fun h=> ?_)<;>(try simp only[zah]at h)<;>(try simp -dsimp only[go_sem,seval, *])
 ·have : ¬(1<=b.size/\b.size<=64):=by omega
  simp[zbA,this]
 ·refine zac (fun h=> ?_) (fun h=> ?_)<;>(try simp only[zah]at h)<;>(try simp -dsimp only[go_sem,seval, *])
  ·have : ¬(1<=b.size/\b.size<=64):=by omega
   simp[zbA,this]
  ·have AS:1<=b.size/\b.size<=64:=by omega
   refine zaT 268419084 b.size (fun i f=>(f 14).v=vi i/\ ∀j<i,zfN b j=true) rfl rfl ⟨by simp -dsimp only[go_sem,seval],by simp⟩ ?_;rintro i f u kk bb hi ⟨C0,Aa⟩;have hw:=zan i (by omega);simp -dsimp only[go_sem,seval,C0];refine zac (fun h=> ?_) (fun h=> ?_)<;>(try simp only[zah]at h)<;>(try simp -dsimp only[go_sem,seval, *])
   ·obtain⟨c,hc⟩:=zpN ‹i<b.size›;simp -dsimp only[go_sem,seval,C0,hc]
    repeat'(refine zac (fun h=> ?_) (fun h=> ?_)<;>(try simp only[zah]at h)<;>(try simp -dsimp only[go_sem,seval, *]))
    ·rw[ziu ‹i<b.size› (by simp[zfN,hc];omega)]
    ·rw[ziu ‹i<b.size› (by simp[zfN,hc];omega)]
    ·refine⟨by omega,by simp -dsimp only[go_sem,seval,hw],fun j hj=> ?_⟩
     by_cases DP:j=i
     ·subst DP;simp[zfN,hc];omega
     ·exact Aa j (by omega)
   ·have:zbA b=true:=by
     simp only[zbA,AS,and_self,decide_true,Bool.true_and,zN,List.mem_range];exact fun j hj=>Aa j (by omega)
    rw[this]
theorem zf1 (b:ByteArray) (hb:b.size<2^50):Den Γ G 109 [.t (.str b)]=some (vb (zbA b)):=by
 (refine zag Γ109 rfl ?_;dsimp only[f109])
 simp -dsimp only[go_sem,seval];refine zaT 1048572 b.size (fun i f=>(f 3).v=vi i/\ ∀j<i,zfN b j=true) rfl rfl ⟨by simp -dsimp only[go_sem,seval],by simp⟩ ?_;rintro i f u kk bb hi ⟨C0,Aa⟩;have hw:=zan i (by omega);simp -dsimp only[go_sem,seval,C0];refine zac (fun h=> ?_) (fun h=> ?_)<;>(try simp only[zah]at h)<;>(try simp -dsimp only[go_sem,seval, *])
 ·obtain⟨c,hc⟩:=zpN ‹i<b.size›;simp -dsimp only[go_sem,seval,C0,hc]
  repeat'(refine zac (fun h=> ?_) (fun h=> ?_)<;>(try simp only[zah]at h)<;>(try simp -dsimp only[go_sem,seval, *]))
  ·rw[ziu ‹i<b.size› (by simp[zfN,hc];omega)]
  ·rw[ziu ‹i<b.size› (by simp[zfN,hc];omega)]
  ·refine⟨by omega,by simp -dsimp only[go_sem,seval,hw],fun j hj=> ?_⟩
   by_cases DP:j=i
   ·subst DP;simp[zfN,hc];omega
   ·exact Aa j (by omega)
 ·have:(List.range b.size).all (zfN b)=true:=by
   simp only[zN,List.mem_range];exact fun j hj=>Aa j (by omega)
  refine zac (fun h=> ?_) (fun h=> ?_)<;>(try simp only[zah]at h)<;>(try simp -dsimp only[go_sem,seval, *])
  ·simp only[zbA,this,Bool.and_true];apply decide_eq_decide.2;omega
  ·simp only[zbA,this,Bool.and_true];exact(decide_eq_false (by omega)).symm
namespace Expr
mutual
def lv:Expr->List Expr
 | .mk o w n []=>[.mk o w n []]
 | .mk o w n (k::ks)=>lv k++lvs ks
def lvs:List Expr->List Expr
 | []=>[]
 | e::r=>lv e++lvs r
end
theorem zvO: ∀l:List Expr,lvs l=l.flatMap lv
 | []=>rfl
 | e::r=>by rw[lvs,zvO r];rfl
theorem lv_eq (e:Expr):lv e=if e.kids=[]then [e]else e.kids.flatMap lv:=by
 obtain⟨o,w,n,ks⟩:=e
 cases ks with
 | nil=>simp[lv,Expr.kids]
 | cons k ks=>simp[lv,zvO,Expr.kids]
end Expr
def Sh (h:Nat->Option O) (v:V) (e:Expr):Prop:=
 v= .t (.ip [ti e.op,ti e.w,ti e.n,.sl (e.kids.map Expr.enc)])\/
 ∃k fz,v= .mp k 0 0/\h k=some (.rows 4 [[.t (ti e.op),.t (ti e.w),.t (ti e.n),.t (.sl (e.kids.map Expr.enc))]] fz)
theorem zkJ {σ:Type} (g:Nat) (cp:List V) (I:σ->(Nat->Option O)->Prop) (step:σ->Expr->σ) (lc:Expr->Bool)
 (Fe: ∀s h n v x,I s h->x.kids=[]->lc x=true->Sh h v x-> ∃r h' n',DenR Γ G g (v::cp) h n=some (r,h',n')/\I (step s x) h'):
 ∀(e:Expr) (v:V) (s:σ) (h:Nat->Option O) (n:Nat),e.allE (fun x=>lc x&&decide (x.kids.length<=3))=true->I s h->(∀s h,I s h->Sh h v e)->
  ∃r h' n',DenR Γ G 76 [v,.fn g [] cp] h n=some (r,h',n')/\I (e.lv.foldl step s) h':=by
 intro e
 induction e using Expr.ind with
 | _ e ih=>
 intro v s H n Aa hI hv;have DX:=Expr.allE_self Aa;simp only[zF,decide_eq_true_eq]at DX
 (refine zay Γ76 rfl ?_;dsimp only[f76])
 by_cases hk:e.kids=[]
 ·have Bo:=hv s H hI;have F8:e.lv=[e]:=by rw[Expr.lv_eq,if_pos hk]
  rw[F8];have hS: ∀n,∃r h' n',DenR Γ G g (v::cp) H n=some (r,h',n')/\I (step s e) h':=fun n=>Fe s H n v e hI hk DX.1 Bo
  rcases Bo with rfl | ⟨k,fz,rfl,AB⟩
  ·simp only[hk,List.map_nil]at hS;simp -dsimp only[go_sem,seval,hk];refine zas (hS _) ?_;intro r h' n' DI;simp -dsimp only[go_sem,seval,hk];refine zaD ?_;simp -dsimp only[go_sem,seval];exact DI
  ·simp -dsimp only[go_sem,seval,hk,AB];refine zas (hS _) ?_;intro r h' n' DI;have:=hv _ _ DI;rcases this with h0 | ⟨k',fz',h0,J6⟩
   ·cases h0
   ·cases h0;simp -dsimp only[go_sem,seval,hk,J6];refine zaD ?_;simp -dsimp only[go_sem,seval];exact DI
 ·have F8:e.lv=e.kids.flatMap Expr.lv:=by rw[Expr.lv_eq,if_neg hk]
  have CB: ¬e.kids.length=0:=by simpa using hk
  have I0: ¬(e.kids.length:Int)=0:=by omega
  rw[F8];have CX: ∀i,i=e.kids.length->(e.kids.take i).flatMap Expr.lv=e.kids.flatMap Expr.lv:=by rintro i rfl;rw[List.take_length]
  rcases hv s H hI with rfl | ⟨k,fz,rfl,AB⟩
  ·simp -dsimp only[go_sem,seval,I0];refine zaq 2146959376 e.kids.length (fun i f hh x=>(f 19).v=vi i/\I (((e.kids.take i).flatMap Expr.lv).foldl step s) hh) rfl ⟨by simp -dsimp only[go_sem,seval],by simpa using hI⟩ ?_;rintro i f u hh x bs hi ⟨EZ,DI⟩;have BF:=zan i (by omega);simp -dsimp only[go_sem,seval,EZ];refine zac (fun h=> ?_) (fun h=> ?_)<;>(try simp only[zah]at h)<;>(try simp -dsimp only[go_sem,seval, *])
   ·obtain⟨y,hy,hm⟩:=zai ‹i<e.kids.length›;simp -dsimp only[go_sem,seval,EZ,hy];refine zas (ih y hm _ _ _ _ (Expr.allE_kid Aa hm) DI (fun _ _ _=> .inl rfl)) ?_;intro r h' n' IG;simp -dsimp only[go_sem,seval,EZ];refine⟨by omega,by simp -dsimp only[go_sem,seval,BF],?_⟩;rw[zaf hy,List.flatMap_append,List.foldl_append];simpa using IG
   ·rw[CX i (by omega)]at DI;exact DI
  ·simp -dsimp only[go_sem,seval,I0,AB];refine zaq 2146959376 e.kids.length (fun i f hh x=>(f 19).v=vi i/\I (((e.kids.take i).flatMap Expr.lv).foldl step s) hh) rfl ⟨by simp -dsimp only[go_sem,seval],by simpa using hI⟩ ?_;rintro i f u hh x bs hi ⟨EZ,DI⟩;have BF:=zan i (by omega)
   have J5: ∃fz',hh k=some (.rows 4 [[.t (ti e.op),.t (ti e.w),.t (ti e.n),.t (.sl (e.kids.map Expr.enc))]] fz'):=by
    rcases hv _ _ DI with h0 | ⟨k',fz',h0,J6⟩
    ·cases h0
    ·cases h0;exact⟨fz',J6⟩
   obtain⟨fz',J5⟩:=J5;simp -dsimp only[go_sem,seval,EZ];refine zac (fun h=> ?_) (fun h=> ?_)<;>(try simp only[zah]at h)<;>(try simp -dsimp only[go_sem,seval, *])
   ·obtain⟨y,hy,hm⟩:=zai ‹i<e.kids.length›;simp -dsimp only[go_sem,seval,EZ,hy,J5];refine zas (ih y hm _ _ _ _ (Expr.allE_kid Aa hm) DI (fun _ _ _=> .inl rfl)) ?_;intro r h' n' IG;simp -dsimp only[go_sem,seval,EZ];refine⟨by omega,by simp -dsimp only[go_sem,seval,BF],?_⟩;rw[zaf hy,List.flatMap_append,List.foldl_append];simpa using IG
   ·rw[CX i (by omega)]at DI;exact DI
end Rg
end
section
-- FULL
namespace Rg
open Go
def lcV (x:Expr):Bool:=decide (0<=x.n/\(x.kids=[]->x.op=1\/x.op=2\/x.op=3))
def IV (cells:List Cell) (pair:Bool) (k3 k4 k5 k7:Nat) (e:Expr) (s:Bool) (h:Nat->Option O):Prop:=
 h k7=some (.rows 1 [[vb s]] false)/\h k4=some (.rows 1 [[.t (.sl (cells.map Cell.enc))]] false)/\h k5=some (.rows 1 [[vb pair]] false)/\
 h k3=some (.rows 4 [[.t (ti e.op),.t (ti e.w),.t (ti e.n),.t (.sl (e.kids.map Expr.enc))]] false)
theorem zp4 (cells:List Cell) (pair:Bool) (k3 k4 k5 k7:Nat) (e:Expr) (h4:k4≠k7) (h5:k5≠k7) (h3:k3≠k7) (s:Bool) (H:Nat->Option O) (n:Nat) (v:V) (x:Expr)
 (hI:IV cells pair k3 k4 k5 k7 e s H) (hk:x.kids=[]) (hl:lcV x=true) (hs:Sh H v x):
 ∃r h' n',DenR Γ G 136 [v,.mp k4 0 0,.mp k5 0 0,.mp k7 0 0] H n=some (r,h',n')/\IV cells pair k3 k4 k5 k7 e (s&&zb3 cells pair x) h':=by
 obtain⟨i7,i4,i5,i3⟩:=hI;simp only[lcV,decide_eq_true_eq]at hl;obtain⟨Cg,Ao⟩:=hl;have Ao:=Ao hk
 (refine zay Γ136 rfl ?_;dsimp only[f136])
 have yes: ∀h',h'=H->zb3 cells pair x=true->IV cells pair k3 k4 k5 k7 e (s&&zb3 cells pair x) h':=fun h' he hh=>by
  rw[hh,Bool.and_true,he];exact⟨i7,i4,i5,i3⟩
 have no: ∀h',h'=updC H k7 (some (.rows 1 [[vb false]] false))->zb3 cells pair x=false->IV cells pair k3 k4 k5 k7 e (s&&zb3 cells pair x) h':=fun h' he hh=>by
  rw[hh,Bool.and_false,he];refine⟨by simp[zaa],by simp[zaa,h4,i4],by simp[zaa,h5,i5],by simp[zaa,h3,i3]⟩
 rcases hc:cells[x.n.toNat]? with _ | c
 ·have Bv:x.n>=(cells.length:Int):=by rw[List.getElem?_eq_none_iff]at hc;omega
  rcases hs with rfl | ⟨k,fz,rfl,AB⟩
  ·rcases Ao with ho | ho | ho
   all_goals(
    simp -dsimp [go_sem,i7,i4,i5,ho,Bv]
    repeat'(refine zac (fun h=> ?_) (fun h=> ?_)<;>(try simp only[zah]at h)<;>(try simp -dsimp [go_sem, *]))
    all_goals(first | exact no _ (by simp -dsimp [go_sem]) (by simp[zb3,ho,hc]) | exact yes _ rfl (by simp[zb3,ho,hc])))
  ·rcases Ao with ho | ho | ho
   all_goals(
    simp -dsimp [go_sem,i7,i4,i5,ho,Bv,AB]
    repeat'(refine zac (fun h=> ?_) (fun h=> ?_)<;>(try simp only[zah]at h)<;>(try simp -dsimp [go_sem, *]))
    all_goals(first | exact no _ (by simp -dsimp [go_sem]) (by simp[zb3,ho,hc]) | exact yes _ rfl (by simp[zb3,ho,hc])))
 ·have Bv: ¬x.n>=(cells.length:Int):=by
   have:=(zH.1 hc).1;omega
  rcases hs with rfl | ⟨k,fz,rfl,AB⟩
  ·rcases Ao with ho | ho | ho
   all_goals(
    simp -dsimp [go_sem,i7,i4,i5,ho,Bv,hc,Cg]
    repeat'(refine zac (fun h=> ?_) (fun h=> ?_)<;>(try simp only[zah]at h)<;>(try simp -dsimp [go_sem, *]))
    all_goals(first | exact no _ (by simp -dsimp [go_sem]) (by simp[zb3, *]) | exact yes _ rfl (by simp[zb3, *])))
  ·rcases Ao with ho | ho | ho
   all_goals(
    simp -dsimp [go_sem,i7,i4,i5,ho,Bv,hc,Cg,AB]
    repeat'(refine zac (fun h=> ?_) (fun h=> ?_)<;>(try simp only[zah]at h)<;>(try simp -dsimp [go_sem, *]))
    all_goals(first | exact no _ (by simp -dsimp [go_sem]) (by simp[zb3, *]) | exact yes _ rfl (by simp[zb3, *])))
theorem zmZ (p:Expr->Bool): ∀(l:List Expr) (s:Bool),l.foldl (fun s x=>s&&p x) s=(s&&l.all p)
 | [],s=>by simp
 | x::l,s=>by simp only[List.foldl_cons,zmZ p l,List.all_cons,Bool.and_assoc]
theorem zvP {p:Expr->Bool} (hp: ∀x:Expr,x.kids≠[]->zbk x=true->p x=true) (d:Nat): ∀e:Expr,e.deep d=true->e.allE p=e.lv.all p:=by
 induction d with
 | zero=>intro e h;simp[Expr.deep]at h
 | succ d ih=>
   intro e h;rw[Expr.allE_eq,Expr.lv_eq];split
   ·rename_i hk;rw[hk];simp
   ·rename_i hk;rw[hp e hk (zcq h),Bool.true_and];have : ∀k∈e.kids,k.allE p=k.lv.all p:=fun k hk=>ih k (zc7 h hk)
    generalize e.kids=ks at this
    induction ks with
    | nil=>rfl
    | cons k ks ih2=>
      simp only[List.all_cons,List.flatMap_cons,List.all_append];rw[this k (by simp),ih2 (fun x hx=>this x (by simp[hx]))]
theorem zwQ {x:Expr} (hk:x.kids≠[]) (h:zbk x=true):4<=x.op:=by
 have ha:=zct h;have:0<x.kids.length:=List.length_pos_iff.2 hk;unfold zcO at ha;grind
theorem zje (cells:List Cell) (pair:Bool) {x:Expr} (hk:x.kids≠[]) (h:zbk x=true):zb3 cells pair x=true:=by
 have:=zwQ hk h;unfold zb3;rw[if_neg (by omega),if_neg (by omega)]
theorem zxa (d:Nat): ∀e:Expr,e.deep d=true->e.allE (fun x=>lcV x&&decide (x.kids.length<=3))=true:=by
 induction d with
 | zero=>intro e h;simp[Expr.deep]at h
 | succ d ih=>
   intro e h;rw[Expr.allE_eq];have hn:=zcq h;simp only[zF,zN,decide_eq_true_eq,lcV];refine⟨⟨⟨zfZ hn,fun hk=> ?_⟩,zdj hn⟩,fun k hk=> ?_⟩
   ·have ha:=zct hn;rw[hk]at ha;rcases zeg e.op with hh | hh | hh | hh | hh | hh | hh | hh | hh | hh | hh | hh | hh | hh | Ao
    ·exact .inl hh
    ·exact .inr (.inl hh)
    ·exact .inr (.inr hh)
    all_goals(try(rw[hh]at ha;simp[zcO]at ha;done))
    rw[zd7 Ao]at ha;simp at ha
   ·have:=ih k (zc7 h hk);simpa only[lcV]using this
theorem zfS (e:Expr) (cells:List Cell) (pair:Bool):Den Γ G 107 [(.agg [.t (ti (e).op),.t (ti (e).w),.t (ti (e).n),.t (.sl ((e).kids.map (Expr.enc)))]),.t (.sl (cells.map Cell.enc)),vb pair]=some (vb (e.valid cells pair)):=by
 (refine zag Γ107 rfl ?_;dsimp only[f107])
 have h1:=zeo e
 by_cases hf:e.formed=true
 ·simp -dsimp [go_sem,h1,hf];have hd:=zcp hf;refine zas (zkJ 136 _ (IV cells pair 0 1 2 7 e) (fun s x=>s&&zb3 cells pair x) lcV (zp4 cells pair 0 1 2 7 e (by decide) (by decide) (by decide)) e _ true _ _ (zxa 40 e hd) ⟨by simp -dsimp [go_sem],by simp -dsimp [go_sem],by simp -dsimp [go_sem],by simp -dsimp [go_sem]⟩ (fun s h hI=> .inr ⟨0,false,rfl,hI.2.2.2⟩)) ?_;rintro r h' n' ⟨i7,_⟩;simp -dsimp [go_sem,i7];rw[zmZ,Expr.valid,hf,zvP (fun x=>zje cells pair) 40 e hd]
 ·have hf:e.formed=false:=by simpa using hf
  simp -dsimp [go_sem,h1,hf];simp[Expr.valid,hf]
end Rg
end
section
-- APPS
namespace Rg
open Go
def Own (h:Nat->Option O) (x:Nat) (v:V) (sz:Nat) (rows:List (List V)):Prop:=
 (v= .t .nils/\rows=[])\/ ∃k,v= .ms k 0 rows.length/\k<x/\h k=some (.rows sz rows false)
theorem zei {α β:Type} (f:α->Option β): ∀(l:List α) (r:List β),(∀i:Nat,∀a,l[i]? =some a-> ∃b,r[i]? =some b/\f a=some b)->l.length=r.length->l.mapM f=some r
 | [],[],_,_=>rfl
 | [],_::_,_,h=>by simp at h
 | _::_,[],_,h=>by simp at h
 | a::l,b::r,h,hl=>by
   rw[List.mapM_cons];obtain⟨b',hb,hf⟩:=h 0 a rfl;simp at hb;subst hb;rw[hf,zei f l r (fun i a' ha=>by simpa using h (i+1) a' (by simpa using ha)) (by simpa using hl)];rfl
theorem zdJ (h:Nat->Option O) (d:Nat) (es:List (List T)) (hn: ∀e∈es,∀t∈e,T.norm t=t):
 (es.map (·.map V.t)).mapM (fun row=>row.mapM (toT h d))=some es:=by
 refine zei _ _ _ (fun i a ha=> ?_) (by simp);rw[zJ]at ha
 cases he:es[i]? with
 | none=>rw[he]at ha;simp at ha
 | some e=>
   rw[he]at ha;simp only[Option.map_some,zA]at ha;subst ha;refine⟨e,rfl,?_⟩;refine zei _ _ _ (fun j b hb=> ?_) (by simp);rw[zJ]at hb
   cases ht:e[j]? with
   | none=>rw[ht]at hb;simp at hb
   | some t=>
     rw[ht]at hb;simp only[Option.map_some,zA]at hb;subst hb;have:=hn e (zL he) t (zL ht);refine⟨t,rfl,?_⟩;cases d<;>simp[toT,this]
theorem zcc {h:Nat->Option O} {x:Nat} {v:V} {sz:Nat} {es:List (List T)} (ho:Own h x v sz (es.map (·.map V.t))) (hn: ∀e∈es,∀t∈e,T.norm t=t):
 toT h 1000 v=some (.sl es):=by
 rcases ho with⟨rfl,he⟩ | ⟨k,rfl,hk,hh⟩
 ·have:es=[]:=by simpa using he
  subst this;rfl
 ·rw[toT,hh];simp only[rd,Nat.zero_add,Nat.le_refl,if_true,List.drop_zero,List.take_length,zC,zD];rw[zdJ h 999 es hn];rfl
theorem zbP (l:List Int): ∀e∈(l.map fun n=>[ti n]),∀t∈e,T.norm t=t:=by
 intro e he t ht;obtain⟨n,_,rfl⟩:=List.mem_map.1 he;simp at ht;subst ht;rfl
def zbJ (l:List Bool) (i:Nat):List Int:=((List.range i).filter fun j=>l.getD j false).map fun j:Nat=>(j:Int)
theorem ze4 (l:List Bool) (i:Nat):zbJ l (i+1)=zbJ l i++if l.getD i false then [(i:Int)]else []:=by
 unfold zbJ;rw[List.range_succ,List.filter_append,List.map_append];cases h:l.getD i false<;>simp only[List.filter_cons,List.filter_nil,h,if_true,if_false,zG,List.map_nil,List.map_cons]
def zae (l:List Int):List (List V):=(l.map fun n=>[ti n]).map (·.map V.t)
theorem zab (l:List Int):(zae l).length=l.length:=by simp[zae]
theorem za4 (l:List Int) (n:Int):zae (l++[n])=zae l++[[vi n]]:=by simp[zae]
theorem zaQ (l:List Int):((zae l).all fun r=>decide (r.length=1))=true:=by simp[zae]
theorem zsd {k x:Nat} (h:k<x) (j:Nat): ¬k=x+j:=by omega
theorem zn1 {k x:Nat} (h:k<x) (j j':Nat): ¬k=x+j+j':=by omega
theorem zsc {k x:Nat} (h:k<x) (j j' j'':Nat): ¬k=x+j+j'+j'':=by omega
theorem zkF (l:List Bool) (hl:l.length<2^20):Den Γ G 159 [.t (.sl (l.map fun b=>[tb b]))]=some (.t (ints (zbJ l l.length))):=by
 (refine zag Γ159 rfl ?_;dsimp only[f159])
 simp -dsimp only[go_sem,seval,zck];refine zaq 524280 l.length (fun i f h x=>(f 4).v=vi i/\Own h x (f 3).v 1 (zae (zbJ l i))) rfl ⟨by simp -dsimp only[go_sem,seval,zck],.inl ⟨by simp -dsimp only[go_sem,seval,zck],rfl⟩⟩ ?_;rintro i f u H x bs hi ⟨h4,Ab⟩;have hw:=zan i (by omega);simp -dsimp only[go_sem,seval,zck,h4];refine zac (fun h=> ?_) (fun h=> ?_)<;>(try simp only[zah]at h)<;>(try simp -dsimp only[go_sem,seval,zck, *])
 ·have hx:l[i]? =some l[i]:=zI (by omega);have gx:l.getD i false=l[i]:=by simp[List.getD,hx]
  simp -dsimp only[go_sem,seval,zck,h4,hx];refine zac (fun h=> ?_) (fun h=> ?_)<;>(try simp only[zah]at h)<;>(try simp -dsimp only[go_sem,seval,zck, *])
  ·have FY:zbJ l (i+1)=zbJ l i++[(i:Int)]:=by rw[ze4,gx,h];rfl
   have N4:(zbJ l i).length<=i:=by
    unfold zbJ;rw[List.length_map];exact Nat.le_trans (List.length_filter_le _ _) (by simp)
   rcases Ab with⟨hv,he⟩ | ⟨k,hv,hk,hh⟩
   ·have BZ:zbJ l i=[]:=by simpa[zae]using he
    simp -dsimp only[go_sem,seval,zck,h4,hv];refine⟨by omega,by simp -dsimp only[go_sem,seval,zck,hw],?_⟩;simp -dsimp only[go_sem,seval,zck,FY,BZ,zae];exact .inr ⟨_,rfl,by omega,by simp -dsimp only[go_sem,seval,zck]⟩
   ·have n1:=zsd hk;have n2:=zn1 hk;have n3:=zsc hk;have Cu:=zaQ (zbJ l i);have Bb:=zab (zbJ l i);have A5:(zae (zbJ l i)).length<=4294967295:=by omega
    simp -dsimp only[go_sem,seval,zck,h4,hv,hh,n1,n2,n3,Cu,Nat.le_refl,List.take_length,A5];refine⟨by omega,by simp -dsimp only[go_sem,seval,zck,hw],?_⟩;simp -dsimp only[go_sem,seval,zck,FY,za4];exact .inr ⟨_,(by rw[zM];rfl),by omega,by simp -dsimp only[go_sem,seval,zck]⟩
  ·have FY:zbJ l (i+1)=zbJ l i:=by rw[ze4,gx,h];simp
   refine⟨by omega,by simp -dsimp only[go_sem,seval,zck,hw],?_⟩;simp -dsimp only[go_sem,seval,zck,FY];rcases Ab with⟨hv,he⟩ | ⟨k,hv,hk,hh⟩
   ·exact .inl ⟨hv,he⟩
   ·exact .inr ⟨k,hv,by omega,hh⟩
 ·have:i=l.length:=by omega
  subst this;have hr:=zcc Ab (zbP _);rcases Ab with⟨hv,he⟩ | ⟨k,hv,hk,hh⟩
  ·simp -dsimp only[go_sem,seval,zck,hv];simpa[zae]using he
  ·simp -dsimp only[go_sem,seval,zck,hv];rw[hv,toT]at hr;simp only[hh,rd,Nat.zero_add,Nat.le_refl,if_true,List.drop_zero,List.take_length,zC,zD]at hr⊢;rw[hr];rfl
end Rg
end
section
-- FULL
namespace Rg
open Go
theorem zir (p:Prog) (c t:Int) (x:Cell) (h0:0<=c) (hc:p.cells[c.toNat]? =some x):Den Γ G 154 [(zP p),vi c,vi t]=some (vb (decide (x.thread=t))):=by
 (refine zag Γ154 rfl ?_;dsimp only[zJc])
 simp -dsimp [go_sem,h0,hc]
theorem zgs (p:Prog) (c:Int) (x:Cell) (h0:0<=c) (hc:p.cells[c.toNat]? =some x):Den Γ G 155 [(zP p),vi c]=some (vb (decide (x.thread= -1))):=by
 (refine zag Γ155 rfl ?_;dsimp only[zJb])
 simp -dsimp [go_sem,h0,hc]
theorem zfA (p:Prog) (c:Int) (x:Cell) (h0:0<=c) (hc:p.cells[c.toNat]? =some x):Den Γ G 163 [(zP p),vi c]=some (vb x.ghost):=by
 (refine zag Γ163 rfl ?_;dsimp only[f163])
 simp -dsimp [go_sem,h0,hc]
def zar (p:Prog) (t c:Int):Bool:=decide (0<=c)&&match p.cells[c.toNat]? with
 | some x=>decide (x.thread=t)
 | none=>false
theorem zch {p:Prog} {c:Int} (h:inR c p.cells.length=true):0<=c/\ ∃x,p.cells[c.toNat]? =some x:=by
 simp only[inR,decide_eq_true_eq]at h;exact⟨h.1,_,zI (by omega)⟩
theorem zeh {p:Prog} {t c:Int} (h:inR c p.cells.length=false):zar p t c=false:=by
 simp only[inR,decide_eq_false_iff_not]at h;unfold zar
 by_cases h0:0<=c
 ·have:p.cells[c.toNat]? =none:=List.getElem?_eq_none_iff.2 (by omega);simp[this]
 ·simp[h0]
theorem zdY (p:Prog) (c:Int):Den Γ G 100 [(zP p),vi c]=some (vb (zar p (-1) c)):=by
 (refine zag Γ100 rfl ?_;dsimp only[f100])
 have hb:=zbR c p.cells.length;simp -dsimp [go_sem,hb];refine zac (fun h=> ?_) (fun h=> ?_)<;>(try simp only[zah]at h)<;>(try simp -dsimp [go_sem, *])
 ·obtain⟨h0,x,hx⟩:=zch h;simp -dsimp [go_sem,h0,hx,h];simp[zar,h0,hx]
 ·rw[zeh h]
theorem zis (p:Prog) (t c:Int):Den Γ G 146 [vi c,.t (.ip [.sl (p.cells.map Cell.enc),.sl (p.modules.map Contract.enc),.sl (p.locks.map Lock.enc),.sl (p.threads.map Thread.enc)]),.t (.ip [ti t])]=some (vb (zar p t c)):=by
 (refine zag Γ146 rfl ?_;dsimp only[f146])
 have hb:=zbR c p.cells.length;simp -dsimp [go_sem,hb];refine zac (fun h=> ?_) (fun h=> ?_)<;>(try simp only[zah]at h)<;>(try simp -dsimp [go_sem, *])
 ·obtain⟨h0,x,hx⟩:=zch h;simp -dsimp [go_sem,h0,hx,h];simp[zar,h0,hx]
 ·rw[zeh h]
theorem zhl (h:Nat->Option O): ∀c:List T,(∀t∈c,T.norm t=t)->(c.map V.t).mapM (toT1 h)=some (c.map V.t)
 | [],_=>rfl
 | t::c,hn=>by
   rw[List.map_cons,List.mapM_cons,zhl h c fun x hx=>hn x (by simp[hx])];have:toT1 h (.t t)=some (.t t):=by simp[toT1,toT,hn t (by simp)]
   rw[this];rfl
theorem zme (c:List T):(c.map V.t).all V.tree=true:=by
 rw[zN];intro v hv;obtain⟨t,_,rfl⟩:=List.mem_map.1 hv;rfl
def IsP (g:Nat) (c:List T) (P:Int->Bool):Prop:=(∀t∈c,T.norm t=t)/\ ∀n:Int,Den Γ G g (vi n::c.map V.t)=some (vb (P n))
def IsF (F:T) (P:Int->Bool):Prop:=T.norm F=F/\ ∃g a b,zfC (.t F)=some (g,a,b)/\(∀(h:Nat->Option O) (n:Int),(a++[vi n]++b).mapM (toT1 h)=some (a++[vi n]++b))/\
 (∀n:Int,(a++[vi n]++b).all V.tree=true)/\ ∀n:Int,Den Γ G g (a++[vi n]++b)=some (vb (P n))
theorem zsE {v:V} {g:Nat} {a b:List V} (hf:zfC v=some (g,a,b)) (K:Nat->List V->List V->Prop) (w:WK K):fnK (some v) K w=K g a b:=by
 simp only[fnK,hf]
theorem IsP.isF {g:Nat} {c:List T} {P:Int->Bool} (h:IsP g c P):IsF (.fn g [] c) P:=by
 refine⟨rfl,g,[],c.map V.t,rfl,fun hh n=> ?_,fun n=> ?_,fun n=> ?_⟩
 ·have:=zhl hh (ti n::c) (fun t ht=>(List.mem_cons.1 ht).elim (fun e=>by rw[e];rfl) (h.1 t));exact this
 ·exact zme (ti n::c)
 ·exact h.2 n
theorem zyI {g:Nat} {c:List T} {P:Int->Bool} (hn: ∀t∈c,T.norm t=t) (hd: ∀n:Int,Den Γ G g [.agg (c.map V.t),vi n]=some (vb (P n))):IsF (.fa g c) P:=by
 refine⟨rfl,g,[.agg (c.map V.t)],[],rfl,fun hh n=> ?_,fun n=> ?_,fun n=>hd n⟩
 ·clear hd
  have h1:toT1 hh (.agg (c.map V.t))=some (.agg (c.map V.t)):=by
   have:(c.map V.t).mapM (toT hh 1000)=some c:=by
    induction c with
    | nil=>rfl
    | cons t c ih=>rw[List.map_cons,List.mapM_cons,ih fun x hx=>hn x (by simp[hx])];simp[toT,hn t (by simp)]
   simp[toT1,this]
  rw[List.append_nil,List.cons_append,List.nil_append,List.mapM_cons,List.mapM_cons,h1];rfl
 ·simp[V.tree]
theorem zsw (F:T) (P:Int->Bool) (hP:IsF F P) (l:List Int) (hl:l.length<2^50):
 Den Γ G 145 [.t (ints l),.t F]=some (vi (match l.findIdx? P with | some i=>i | none=> -1)):=by
 (refine zag Γ145 rfl ?_;dsimp only[f145])
 obtain⟨_,g,a,b,hf,hm,ha,hd⟩:=hP;have hK:=zsE hf;simp -dsimp only[go_sem,seval];refine zaT 524080 l.length (fun i f=>(f 8).v=vi i/\ ∀x∈l.take i,P x=false) rfl rfl ⟨by simp -dsimp only[go_sem,seval],by simp⟩ ?_;rintro i f u kk bb hi ⟨h8,Aa⟩;have hw:=zan i (by omega);simp -dsimp only[go_sem,seval,h8];refine zac (fun h=> ?_) (fun h=> ?_)<;>(try simp only[zah]at h)<;>(try simp -dsimp only[go_sem,seval, *])
 ·obtain⟨y,hy,Fm⟩:=zai ‹i<l.length›;simp -dsimp only[go_sem,seval,h8,hy,hK,hm,ha,hd];refine zac (fun h=> ?_) (fun h=> ?_)<;>(try simp only[zah]at h)<;>(try simp -dsimp only[go_sem,seval, *])
  ·have:l.findIdx? P=some i:=by
    rw[List.findIdx?_eq_some_iff_getElem];have Ad:i<l.length:= ‹i<l.length›;have HG:l[i]=y:=by rw[zI Ad]at hy;exact Option.some.inj hy
    refine⟨Ad,by rw[HG];exact h,fun j hj=> ?_⟩;have:=Aa l[j] (by rw[List.mem_take_iff_getElem];exact⟨j,by omega,rfl⟩);simp[this]
   rw[this]
  ·refine⟨by omega,by simp -dsimp only[go_sem,seval,hw],fun x hx=> ?_⟩;rw[zaf hy]at hx;rcases List.mem_append.1 hx with hx | hx
   ·exact Aa x hx
   ·rw[List.mem_singleton.1 hx];exact h
 ·have:i=l.length:=by omega
  subst this;rw[List.take_length]at Aa;have:l.findIdx? P=none:=by rw[List.findIdx?_eq_none_iff];exact Aa
  rw[this]
theorem znf (F:T) (P:Int->Bool) (hP:IsF F P) (l:List Int) (hl:l.length<2^50):
 Den Γ G 131 [.t (ints l),.t F]=some (vb (l.any P)):=by
 (refine zag Γ131 rfl ?_;dsimp only[f131])
 have hd:=zsw F P hP l hl;have hn:=hP.1;simp only[T.norm]at hn;simp -dsimp only[go_sem,seval,hd,hn]
 cases h:l.findIdx? P with
 | none=>
   rw[List.findIdx?_eq_none_iff]at h;have:l.any P=false:=by rw[List.any_eq_false];intro x hx;simp[h x hx]
   simp[this]
 | some i=>
   have:l.any P=true:=by
    rw[List.findIdx?_eq_some_iff_getElem]at h;obtain⟨hi,hp,_⟩:=h;rw[List.any_eq_true];exact⟨_,List.getElem_mem hi,hp⟩
   simp[this]
theorem znx (F:T) (P:Int->Bool) (hP:IsF F P):IsP 132 [.ip [F]] (fun n=> !P n):=by
 refine⟨by simp[T.norm],fun n=> ?_⟩
 (refine zag Γ132 rfl ?_;dsimp only[f132])
 obtain⟨_,g,a,b,hf,hm,ha,hd⟩:=hP;have hK:=zsE hf;simp -dsimp only[go_sem,seval,hK,hm,ha,hd]
theorem zeC (F:T) (P:Int->Bool) (hP:IsF F P) (l:List Int) (hl:l.length<2^50):
 Den Γ G 102 [.t (ints l),.t F]=some (vb (l.all P)):=by
 (refine zag Γ102 rfl ?_;dsimp only[f102])
 have hn:=hP.1;simp only[T.norm]at hn;have hd:=znf _ _ (znx F P hP).isF l hl;simp -dsimp only[go_sem,seval,hd,hn];rw[List.all_eq_not_any_not]
end Rg
end
section
-- FULL
namespace Rg
open Go
def zbx (p:Prog):T:=.ip [.sl (p.cells.map Cell.enc),.sl (p.modules.map Contract.enc),.sl (p.locks.map Lock.enc),.sl (p.threads.map Thread.enc)]
theorem zBt (p:Prog) (t:Int):IsP 146 [zbx p,.ip [ti t]] (zar p t):=⟨by simp[zbx,T.norm],fun n=>zis p t n⟩
theorem zlp (p:Prog) (t:Int):Den Γ G 133 [(zP p),vi t]=some (.t (.fn 146 [] [zbx p,.ip [ti t]])):=by
 (refine zag Γ133 rfl ?_;dsimp only[f133])
 simp -dsimp [go_sem];rfl
def zjW (p:Prog) (t c:Int):Bool:=zar p (-1) c||zar p t c
theorem zgn (p:Prog) (t:Int):Den Γ G 104 [(zP p),vi t]=some (.t (.fn 134 [] [zbx p,.ip [.fn 146 [] [zbx p,.ip [ti t]]]])):=by
 (refine zag Γ104 rfl ?_;dsimp only[f104])
 have h1:=zlp p t;simp -dsimp [go_sem,h1];rfl
theorem zmb (p:Prog) (t:Int):IsP 134 [zbx p,.ip [.fn 146 [] [zbx p,.ip [ti t]]]] (zjW p t):=by
 refine⟨by simp[zbx,T.norm],fun n=> ?_⟩
 (refine zag Γ134 rfl ?_;dsimp only[f134])
 have h1:=zdY p n;have h2:=zis p t n;simp -dsimp [go_sem,h1,zbx];refine zac (fun h=> ?_) (fun h=> ?_)<;>(try simp only[zah]at h)<;>(try simp -dsimp [go_sem,zbx, *])
 ·simp[zjW,h]
 ·simp[zjW,h]
end Rg
end
section
-- APPS
namespace Rg
open Go
theorem zwN {k x:Nat} (h:k<x) (a b c d:Nat): ¬k=x+a+b+c+d:=by omega
theorem zi2 (l:List Bool) (hl:l.length=32): ∃r h' n',DenR Γ G 78 [.agg (l.map fun b=>vb b)] (fun _=>none) 0=some (r,h',n')/\Own h' n' r 1 (zae (zbJ l 32)):=by
 (refine zay Γ78 rfl ?_;dsimp only[f78])
 have Hy:(l.map fun b=>vb b).length=32:=by simp[hl]
 have Dv:List.take 32 (l.map fun b=>vb b)=l.map fun b=>vb b:=List.take_of_length_le (by omega)
 simp -dsimp only[go_sem,seval,zck,hl,Dv];refine zaq 131000 32 (fun i f h x=>(f 7).v=vi i/\Own h x (f 3).v 1 (zae (zbJ l i))) rfl ⟨by simp -dsimp only[go_sem,seval,zck],.inl ⟨by simp -dsimp only[go_sem,seval,zck],rfl⟩⟩ ?_;rintro i f u H x bs hi ⟨h4,Ab⟩;have hw:=zan i (by omega);have Dq:(0:Int)<=(i:Int):=by omega
 simp -dsimp only[go_sem,seval,zck,h4];refine zac (fun h=> ?_) (fun h=> ?_)<;>(try simp only[zah]at h)<;>(try simp -dsimp only[go_sem,seval,zck, *])
 ·have Ad:i<32:=by omega
  have hx:l[i]? =some (l[i]'(by omega)):=zI (by omega)
  generalize hb:l[i]'(by omega)=b at hx
  have gx:l.getD i false=b:=by simp[List.getD,hx]
  have QG:List.take 1 (List.drop (i*1) (l.map fun b=>vb b))=[vb b]:=by
   rw[Nat.mul_one,<- List.map_drop,<- List.map_take]
   have:(l.drop i).take 1=[b]:=by
    rw[List.drop_eq_getElem_cons (by omega),hb];rfl
   rw[this];rfl
  have NB:i*1<=31:=by omega
  simp -dsimp only[go_sem,seval,zck,h4,QG,hl,NB];refine zac (fun h=> ?_) (fun h=> ?_)<;>(try simp only[zah]at h)<;>(try simp -dsimp only[go_sem,seval,zck, *])
  ·have FY:zbJ l (i+1)=zbJ l i++[(i:Int)]:=by rw[ze4,gx,h];rfl
   have N4:(zbJ l i).length<=i:=by
    unfold zbJ;rw[List.length_map];exact Nat.le_trans (List.length_filter_le _ _) (by simp)
   rcases Ab with⟨hv,he⟩ | ⟨k,hv,hk,hh⟩
   ·have BZ:zbJ l i=[]:=by simpa[zae]using he
    simp -dsimp only[go_sem,seval,zck,h4,hv];refine⟨by omega,by simp -dsimp only[go_sem,seval,zck,hw],?_⟩;simp -dsimp only[go_sem,seval,zck,FY,BZ,zae];exact .inr ⟨_,rfl,by omega,by simp -dsimp only[go_sem,seval,zck]⟩
   ·have n1:=zsd hk;have n2:=zn1 hk;have n3:=zsc hk;have n4:=zwN hk;have Cu:=zaQ (zbJ l i);have Bb:=zab (zbJ l i);have A5:(zae (zbJ l i)).length<=4294967295:=by omega
    simp -dsimp only[go_sem,seval,zck,h4,hv,hh,n1,n2,n3,n4,Cu,Nat.le_refl,List.take_length,A5];refine⟨by omega,by simp -dsimp only[go_sem,seval,zck,hw],?_⟩;simp -dsimp only[go_sem,seval,zck,FY,za4];exact .inr ⟨_,(by rw[zM];rfl),by omega,by simp -dsimp only[go_sem,seval,zck]⟩
  ·have FY:zbJ l (i+1)=zbJ l i:=by rw[ze4,gx,h];simp
   refine⟨by omega,by simp -dsimp only[go_sem,seval,zck,hw],?_⟩;simp -dsimp only[go_sem,seval,zck,FY];rcases Ab with⟨hv,he⟩ | ⟨k,hv,hk,hh⟩
   ·exact .inl ⟨hv,he⟩
   ·exact .inr ⟨k,hv,by omega,hh⟩
 ·have:i=32:=by omega
  subst this;rcases Ab with⟨hv,he⟩ | ⟨k,hv,hk,hh⟩
  ·simp -dsimp only[go_sem,seval,zck,hv];exact .inl ⟨rfl,he⟩
  ·simp -dsimp only[go_sem,seval,zck,hv];exact .inr ⟨k,rfl,Nat.lt_of_lt_of_le hk (by first | omega | exact Nat.le_trans (zhI _ _) (zhI _ _) | exact zhI _ _),hh⟩
def vbs (l:List Bool):List V:=l.map fun b=>vb b
theorem zvB {l:List Bool} {i:Nat} (h:i<l.length):wr (vbs l) i [vb true]=some (vbs (l.set i true)):=by
 unfold wr vbs;rw[if_pos (by simp;omega)]
 congr 1
 rw[List.map_set,List.set_eq_take_append_cons_drop,if_pos (by simpa using h)];simp
def zb2 (op:Int) (s:List Bool) (x:Expr):List Bool:=if x.op=op then s.set x.n.toNat true else s
theorem zsg (op:Int) (s:List Bool) (x:Expr):(zb2 op s x).length=s.length:=by unfold zb2;split<;>simp
def lcS (x:Expr):Bool:=decide (0<=x.n/\(x.kids=[]->x.op=1\/((x.op=2\/x.op=3)/\x.n<32)))
def IS (k1 k4 k5:Nat) (e:Expr) (s:List Bool×List Bool) (h:Nat->Option O):Prop:=
 s.1.length=32/\s.2.length=32/\h k4=some (.rows 32 [vbs s.1] false)/\h k5=some (.rows 32 [vbs s.2] false)/\
 h k1=some (.rows 4 [[.t (ti e.op),.t (ti e.w),.t (ti e.n),.t (.sl (e.kids.map Expr.enc))]] false)
theorem zmi (k1 k4 k5:Nat) (e:Expr) (Gh:k4≠k5) (C0:k1≠k4) (Cy:k1≠k5) (s:List Bool×List Bool) (H:Nat->Option O) (n:Nat) (v:V) (x:Expr)
 (hI:IS k1 k4 k5 e s H) (hk:x.kids=[]) (hl:lcS x=true) (hs:Sh H v x):
 ∃r h' n',DenR Γ G 77 [v,.mp k4 0 0,.mp k5 0 0] H n=some (r,h',n')/\IS k1 k4 k5 e (zb2 3 s.1 x,zb2 2 s.2 x) h'/\ ∀k,k≠k4->k≠k5->h' k=H k:=by
 obtain⟨l1,l2,i4,i5,i1⟩:=hI;simp only[lcS,decide_eq_true_eq]at hl;obtain⟨Cg,Ao⟩:=hl;have Ao:=Ao hk
 (refine zay Γ77 rfl ?_;dsimp only[f77])
 have Bo: ∃fz,v= .t (.ip [ti x.op,ti x.w,ti x.n,.sl (x.kids.map Expr.enc)])\/ ∃k,v= .mp k 0 0/\H k=some (.rows 4 [[.t (ti x.op),.t (ti x.w),.t (ti x.n),.t (.sl (x.kids.map Expr.enc))]] fz):=by
  rcases hs with h | ⟨k,fz,h1,h2⟩
  ·exact⟨false,.inl h⟩
  ·exact⟨fz,.inr ⟨k,h1,h2⟩⟩
 obtain⟨fz,Bo⟩:=Bo;rcases Ao with ho | ⟨ho,Ad⟩
 ·have m1:zb2 3 s.1 x=s.1:=by simp[zb2,ho]
  have m2:zb2 2 s.2 x=s.2:=by simp[zb2,ho]
  rcases Bo with rfl | ⟨k,rfl,AB⟩
  ·simp -dsimp only[go_sem,seval,ho];rw[m1,m2];exact⟨⟨l1,l2,i4,i5,i1⟩,fun _ _ _=>rfl⟩
  ·simp -dsimp only[go_sem,seval,ho,AB];rw[m1,m2];exact⟨⟨l1,l2,i4,i5,i1⟩,fun _ _ _=>rfl⟩
 ·have hn:0<=x.n/\x.n<32:=⟨Cg,Ad⟩
  have Lo:x.n.toNat<32:=by omega
  have v1:(vbs s.1).length=32:=by simp[vbs,l1]
  have v2:(vbs s.2).length=32:=by simp[vbs,l2]
  have c1:x.n.toNat*1<=31:=by omega
  have w1:=zvB (l:=s.1) (i:=x.n.toNat) (by omega);have w2:=zvB (l:=s.2) (i:=x.n.toNat) (by omega);unfold wr at w1 w2;rw[if_pos (by rw[v1];simp;omega)]at w1;rw[if_pos (by rw[v2];simp;omega)]at w2;simp only[zA,List.length_cons,List.length_nil,Nat.zero_add,zQ,List.cons_append,List.nil_append]at w1 w2;rcases ho with ho | ho
  ·have m1:zb2 3 s.1 x=s.1:=by simp[zb2,ho]
   have m2:zb2 2 s.2 x=s.2.set x.n.toNat true:=by simp[zb2,ho]
   rw[m1,m2];rcases Bo with rfl | ⟨k,rfl,AB⟩
   ·simp -dsimp only[go_sem,seval,ho,hn,i5,v2,c1];refine⟨⟨l1,by simp[l2],by simp -dsimp only[go_sem,seval,Gh,i4],?_,by simp -dsimp only[go_sem,seval,Cy,i1]⟩,fun q _ hq=>by simp -dsimp only[go_sem,seval,hq]⟩;simp -dsimp only[go_sem,seval,Nat.mul_one,zQ,w2]
   ·simp -dsimp only[go_sem,seval,ho,hn,i5,v2,c1,AB];refine⟨⟨l1,by simp[l2],by simp -dsimp only[go_sem,seval,Gh,i4],?_,by simp -dsimp only[go_sem,seval,Cy,i1]⟩,fun q _ hq=>by simp -dsimp only[go_sem,seval,hq]⟩;simp -dsimp only[go_sem,seval,Nat.mul_one,zQ,w2]
  ·have m1:zb2 3 s.1 x=s.1.set x.n.toNat true:=by simp[zb2,ho]
   have m2:zb2 2 s.2 x=s.2:=by simp[zb2,ho]
   rw[m1,m2];rcases Bo with rfl | ⟨k,rfl,AB⟩
   ·simp -dsimp only[go_sem,seval,ho,hn,i4,v1,c1];refine⟨⟨by simp[l1],l2,?_,by simp -dsimp only[go_sem,seval,Ne.symm Gh,i5],by simp -dsimp only[go_sem,seval,C0,i1]⟩,fun q hq _=>by simp -dsimp only[go_sem,seval,hq]⟩;simp -dsimp only[go_sem,seval,Nat.mul_one,zQ,w1]
   ·simp -dsimp only[go_sem,seval,ho,hn,i4,v1,c1,AB];refine⟨⟨by simp[l1],l2,?_,by simp -dsimp only[go_sem,seval,Ne.symm Gh,i5],by simp -dsimp only[go_sem,seval,C0,i1]⟩,fun q hq _=>by simp -dsimp only[go_sem,seval,hq]⟩;simp -dsimp only[go_sem,seval,Nat.mul_one,zQ,w1]
end Rg
end
section
-- FULL
namespace Rg
open Go
theorem zhz {α β γ:Type} (f:α->γ->α) (g:β->γ->β): ∀(l:List γ) (a:α) (b:β),l.foldl (fun s x=>(f s.1 x,g s.2 x)) (a,b)=(l.foldl f a,l.foldl g b)
 | [],a,b=>rfl
 | x::l,a,b=>by simp only[List.foldl_cons];exact zhz f g l _ _
def Expr.occ (op:Int) (e:Expr):List Bool:=e.lv.foldl (zb2 op) (List.replicate 32 false)
def Expr.sup (op:Int) (e:Expr):List Int:=if e.formed then zbJ (e.occ op) 32 else []
theorem zlt (op:Int) (e:Expr):(e.occ op).length=32:=by
 unfold Expr.occ
 generalize e.lv=l
 have : ∀(l:List Expr) (s:List Bool),(l.foldl (zb2 op) s).length=s.length:=by
  intro l
  induction l with
  | nil=>intro s;rfl
  | cons x l ih=>intro s;rw[List.foldl_cons,ih,zsg]
 rw[this];simp
theorem zpJ (d:Nat): ∀e:Expr,e.deep d=true->e.allE (fun x=>lcS x&&decide (x.kids.length<=3))=true:=by
 induction d with
 | zero=>intro e h;simp[Expr.deep]at h
 | succ d ih=>
   intro e h;rw[Expr.allE_eq];have hn:=zcq h;simp only[zF,zN,decide_eq_true_eq,lcS];refine⟨⟨⟨zfZ hn,fun hk=> ?_⟩,zdj hn⟩,fun k hk=> ?_⟩
   ·have ha:=zct hn;have hw:=zmO hn;rw[hk]at ha;obtain⟨op,w,n,ks⟩:=e;simp only[go_sem]at *;rcases zeg op with hh | hh | hh | hh | hh | hh | hh | hh | hh | hh | hh | hh | hh | hh | Ao
    ·exact .inl hh
    ·refine .inr ⟨.inl hh,?_⟩;rw[ze3 (by omega) hw]at hn;simp[hh]at hn;omega
    ·refine .inr ⟨.inr hh,?_⟩;rw[ze3 (by omega) hw]at hn;simp[hh]at hn;omega
    all_goals(try(rw[hh]at ha;simp[zcO]at ha;done))
    rw[zd7 Ao]at ha;simp at ha
   ·have:=ih k (zc7 h hk);simpa only[lcS]using this
def zea (l:List Bool):List (List V):=l.map fun b=>[vb b]
theorem zms (l:List Bool) (i:Nat):(zea l).set i [vb true]=zea (l.set i true):=by simp[zea,List.map_set]
def lcM (x:Expr):Bool:=lcS x&&decide (x.kids=[]\/(x.op≠2/\x.op≠3))&&decide (x.kids.length<=3)
def IM (k4 k5:Nat) (s:List Bool×List Bool) (h:Nat->Option O):Prop:=
 s.1.length=32/\s.2.length=32/\h k4=some (.rows 1 (zea s.1) false)/\h k5=some (.rows 1 (zea s.2) false)
def zih (s:List Bool×List Bool) (x:Expr):List Bool×List Bool:=(zb2 3 s.1 x,zb2 2 s.2 x)
theorem zsf (k4 k5:Nat) (Gh:k4≠k5): ∀(e:Expr) (s:List Bool×List Bool) (H:Nat->Option O) (n:Nat),e.allE lcM=true->IM k4 k5 s H->
 ∃r h' n',DenR Γ G 158 [(.agg [.t (ti (e).op),.t (ti (e).w),.t (ti (e).n),.t (.sl ((e).kids.map (Expr.enc)))]),.ms k4 0 32,.ms k5 0 32] H n=some (r,h',n')/\IM k4 k5 (e.lv.foldl zih s) h':=by
 intro e
 induction e using Expr.ind with
 | _ e ih=>
 intro s H n Aa hI;have DX:=Expr.allE_self Aa;simp only[lcM,lcS,zF,decide_eq_true_eq]at DX;obtain⟨⟨⟨Cg,Eg⟩,Aj⟩,D9⟩:=DX;obtain⟨l1,l2,i4,i5⟩:=hI
 (refine zay Γ158 rfl ?_;dsimp only[f158])
 by_cases hk:e.kids=[]
 ·have F8:e.lv=[e]:=by rw[Expr.lv_eq,if_pos hk]
  rw[F8];rcases Eg hk with ho | ⟨ho,Ad⟩
  ·simp -dsimp only[go_sem,seval,ho,hk];refine zaD ?_;simp -dsimp only[go_sem,seval];have m1:zb2 3 s.1 e=s.1:=by simp[zb2,ho]
   have m2:zb2 2 s.2 e=s.2:=by simp[zb2,ho]
   rw[show [e].foldl zih s=zih s e from rfl,zih,m1,m2];exact⟨l1,l2,i4,i5⟩
  ·have hn:0<=e.n/\e.n<32:=⟨Cg,Ad⟩
   have g1:(zea s.1)[e.n.toNat]? =some [vb (s.1[e.n.toNat]'(by omega))]:=by
    simp only[zea,zJ,zI (show e.n.toNat<s.1.length by omega)];rfl
   have g2:(zea s.2)[e.n.toNat]? =some [vb (s.2[e.n.toNat]'(by omega))]:=by
    simp only[zea,zJ,zI (show e.n.toNat<s.2.length by omega)];rfl
   rcases ho with ho | ho
   ·simp -dsimp only[go_sem,seval,ho,hk,hn,i5,g2];refine zaD ?_;simp -dsimp only[go_sem,seval];have m1:zb2 3 s.1 e=s.1:=by simp[zb2,ho]
    have m2:zb2 2 s.2 e=s.2.set e.n.toNat true:=by simp[zb2,ho]
    rw[show [e].foldl zih s=zih s e from rfl,zih,m1,m2];refine⟨l1,by simp[l2],by simp -dsimp only[go_sem,seval,Gh,i4],?_⟩;simp -dsimp only[go_sem,seval,zms]
   ·simp -dsimp only[go_sem,seval,ho,hk,hn,i4,g1];refine zaD ?_;simp -dsimp only[go_sem,seval];have m1:zb2 3 s.1 e=s.1.set e.n.toNat true:=by simp[zb2,ho]
    have m2:zb2 2 s.2 e=s.2:=by simp[zb2,ho]
    rw[show [e].foldl zih s=zih s e from rfl,zih,m1,m2];refine⟨by simp[l1],l2,?_,by simp -dsimp only[go_sem,seval,Ne.symm Gh,i5]⟩;simp -dsimp only[go_sem,seval,zms]
 ·have F8:e.lv=e.kids.flatMap Expr.lv:=by rw[Expr.lv_eq,if_neg hk]
  obtain⟨o2,o3⟩:=Aj.resolve_left hk;rw[F8];simp -dsimp only[go_sem,seval,o2,o3];refine zaq 68717379648 e.kids.length (fun i f hh x=>(f 6).v=vi i/\IM k4 k5 (((e.kids.take i).flatMap Expr.lv).foldl zih s) hh) rfl ⟨by simp -dsimp only[go_sem,seval],by simpa using⟨l1,l2,i4,i5⟩⟩ ?_;rintro i f u hh x bs hi ⟨EZ,DI⟩;have BF:=zan i (by omega);simp -dsimp only[go_sem,seval,EZ];refine zac (fun h=> ?_) (fun h=> ?_)<;>(try simp only[zah]at h)<;>(try simp -dsimp only[go_sem,seval, *])
  ·obtain⟨y,hy,hm⟩:=zai ‹i<e.kids.length›;simp -dsimp only[go_sem,seval,EZ,hy];refine zas (ih y hm _ _ _ (Expr.allE_kid Aa hm) DI) ?_;intro r h' n' IG;simp -dsimp only[go_sem,seval,EZ];refine⟨by omega,by simp -dsimp only[go_sem,seval,BF],?_⟩;rw[zaf hy,List.flatMap_append,List.foldl_append];simpa using IG
  ·have:i=e.kids.length:=by omega
   subst this;rw[List.take_length]at DI;exact DI
theorem zoh (l:List Expr) (s:List Bool×List Bool):l.foldl zih s=(l.foldl (zb2 3) s.1,l.foldl (zb2 2) s.2):=by
 have:=zhz (zb2 3) (zb2 2) l s.1 s.2;exact this
theorem zva (d:Nat): ∀e:Expr,e.deep d=true->e.allE lcM=true:=by
 induction d with
 | zero=>intro e h;simp[Expr.deep]at h
 | succ d ih=>
   intro e h;have h1:=Expr.allE_self (zpJ (d+1) e h);have hn:=zcq h;rw[Expr.allE_eq];simp only[zF,zN];refine⟨?_,fun k hk=>ih k (zc7 h hk)⟩;simp only[lcM,zF,decide_eq_true_eq];simp only[zF,decide_eq_true_eq]at h1;refine⟨⟨h1.1,?_⟩,h1.2⟩
   by_cases hk:e.kids=[]
   ·exact .inl hk
   ·refine .inr ?_;have ha:=zct hn;have hl: ¬e.kids.length=0:=by simpa using hk
    constructor
    ·intro hh;rw[hh]at ha;simp[zcO]at ha;omega
    ·intro hh;rw[hh]at ha;simp[zcO]at ha;omega
theorem zgv (h:Nat->Option O) (d:Nat) (l:List Bool):(zea l).mapM (fun row=>row.mapM (toT h d))=some (l.map fun b=>[tb b]):=by
 have:=zdJ h d (l.map fun b=>[tb b]) (by
  intro e he t ht;obtain⟨n,_,rfl⟩:=List.mem_map.1 he
  simp at ht;subst ht;rfl)
 simpa[zea,Function.comp_def]using this
theorem zku (h:Nat->Option O) (d:Nat) {rs:List (List V)} (hf: ∀r∈rs,∀v∈r,V.tree v=true):rs.flatMap (·.flatMap (zca h d))=[]:=by
 simp only[List.flatMap_eq_nil_iff];intro r hr v hv;have:=hf r hr v hv;cases v<;>simp_all [V.tree]<;>cases d<;>rfl
theorem zs5 {r:V} {h:Nat->Option O} {vs:List V} {K:V->(Nat->Option O)->Prop} {w:WK K} {k sz:Nat} {rs:List (List V)} {fz:Bool}
 (hk:h k=some (.rows sz rs fz)) (hr:vs.flatMap (zba h)=[k]) (hK: ∀h',(∀j,j≠k->h' j=h j)->(∃fz',h' k=some (.rows sz rs fz'))->K r h'):zlN (some r) false h vs K w:=by
 unfold zlN;simp only;split
 ·exact hK h (fun _ _=>rfl) ⟨fz,hk⟩
 ·refine⟨by simp,hK _ (fun j hj=> ?_) ⟨true,?_⟩⟩
  ·simp[hr,freezes,hk,zaC,zaA,zaa,hj]
  ·simp[hr,freezes,hk,zaC,zaA,zaa]
theorem zo6 {h:Nat->Option O} {k sz:Nat} {rs:List (List V)} {fz:Bool} {i n:Nat} (hk:h k=some (.rows sz rs fz)) (hf: ∀r∈rs,∀v∈r,V.tree v=true): [V.ms k i n].flatMap (zba h)=[k]:=by
 simp only[List.flatMap_cons,List.flatMap_nil,List.append_nil,zba,zca,hk,zku h 999 hf]
theorem zkp (l:List Bool): ∀r∈zea l,∀v∈r,V.tree v=true:=by
 intro r hr v hv;obtain⟨b,_,rfl⟩:=List.mem_map.1 hr;simp at hv;subst hv;rfl
theorem zmh (e:Expr):Den Γ G 138 [(.agg [.t (ti (e).op),.t (ti (e).w),.t (ti (e).n),.t (.sl ((e).kids.map (Expr.enc)))])]=some (.tup [.t (ints (e.sup 3)),.t (ints (e.sup 2))]):=by
 (refine zag Γ138 rfl ?_;dsimp only[f138])
 have h1:=zhy e
 by_cases hf:e.formed=true
 ·simp -dsimp only[go_sem,seval,h1,hf];have hd:=zcp hf;refine zas (zsf _ _ (by decide) e (List.replicate 32 false,List.replicate 32 false) _ _ (zva 40 e hd) ⟨rfl,rfl,by simp -dsimp only[go_sem,seval];rfl,by simp -dsimp only[go_sem,seval];rfl⟩) ?_;intro r h' n' hI;rw[zoh]at hI;obtain⟨l1,l2,i4,i5⟩:=hI;have o3:=zlt 3 e;have o2:=zlt 2 e;have m3:=zkF (e.occ 3) (by omega);have m2:=zkF (e.occ 2) (by omega);rw[o3]at m3;rw[o2]at m2;change h' _=some (.rows 1 (zea (e.occ 3)) false)at i4;change h' _=some (.rows 1 (zea (e.occ 2)) false)at i5;have v3:(zea (e.occ 3)).length=32:=by simp[zea,o3]
  have v2:(zea (e.occ 2)).length=32:=by simp[zea,o2]
  have t3:List.take 32 (zea (e.occ 3))=zea (e.occ 3):=List.take_of_length_le (by omega);have t2:List.take 32 (zea (e.occ 2))=zea (e.occ 2):=List.take_of_length_le (by omega);have b3:=fun d=>zgv h' d (e.occ 3)
  have b2:=fun d=>zgv h' d (e.occ 2)
  simp -dsimp only[go_sem,seval,i4,v3,t3,b3,m3];refine zs5 i4 (zo6 i4 (zkp _)) ?_;rintro h2 Az -;have i5:=(Az 8 (by decide)).trans i5;have b2:=fun d=>zgv h2 d (e.occ 2)
  simp -dsimp only[go_sem,seval,i5,v2,t2,b2,m2];refine zs5 i5 (zo6 i5 (zkp _)) ?_;rintro h3 - -;simp -dsimp only[go_sem,seval];simp[Expr.sup,hf]
 ·have hf:e.formed=false:=by simpa using hf
  simp -dsimp only[go_sem,seval,h1,hf];simp[Expr.sup,hf]
namespace Expr
mutual
def beq:Expr->Expr->Bool
 | .mk o w n k,.mk o' w' n' k'=>decide (o=o'/\w=w'/\n=n')&&zCP k k'
def zCP:List Expr->List Expr->Bool
 | [],[]=>true
 | e::r,e'::r'=>beq e e'&&zCP r r'
 | _,_=>false
end
end Expr
theorem znM (e:Expr):Den Γ G 156 [(.agg [.t (ti (e).op),.t (ti (e).w),.t (ti (e).n),.t (.sl ((e).kids.map (Expr.enc)))]),.agg [vi 1,vi 1,vi 1,.t (.sl [])]]=some (vb (decide (e.op=1/\e.w=1/\e.n=1/\e.kids=[]))):=by
 (refine zag Γ156 rfl ?_;dsimp only[zJa])
 simp -dsimp only[go_sem,seval]
 repeat'(refine zac (fun h=> ?_) (fun h=> ?_)<;>(try simp only[zah]at h)<;>(try simp -dsimp only[go_sem,seval, *]))
 ·simp[*]
 ·simp[*]
 ·simp[*]
 ·have : ¬e.kids=[]:=by intro h0;rw[h0]at h;simp at h
  simp[*]
 ·have:e.kids=[]:=by simpa using‹(e.kids.length:Int)=0›
  refine zaD ?_;simp -dsimp only[go_sem,seval,this];simp[*]
def zaF (h:Nat->Option O) (x:Nat) (v:V) (sz:Nat) (rows:List (List V)):Prop:=
 (v= .t .nils/\rows=[])\/ ∃k,v= .ms k 0 rows.length/\k<x/\h k=some (.rows sz rows false)
theorem zaF.rowsS {h:Nat->Option O} {x:Nat} {v:V} {sz:Nat} {rows:List (List V)} (o:zaF h x v sz rows):rowsS h v=some rows:=by
 rcases o with⟨rfl,rfl⟩ | ⟨k,rfl,_,hk⟩
 ·rfl
 ·simp[Rg.rowsS,hk,rd]
theorem zaF.lenS {h:Nat->Option O} {x:Nat} {v:V} {sz:Nat} {rows:List (List V)} (o:zaF h x v sz rows):lenS h v=some rows.length:=by
 rcases o with⟨rfl,rfl⟩ | ⟨k,rfl,_,hk⟩
 ·rfl
 ·simp[Rg.lenS,hk]
theorem zaF.valOf {h:Nat->Option O} {x:Nat} {v:V} {sz:Nat} {rows:List (List V)} (o:zaF h x v sz rows):valOf v=some v:=by
 rcases o with⟨rfl,rfl⟩ | ⟨k,rfl,_,hk⟩<;>rfl
theorem zpb {h:Nat->Option O} {x q sz bytes:Nat} {u:V} {a b:List (List V)} {K:V->List (Nat×O)->Prop} {w:WK K}
 (ho:zaF h x u sz a) (hx:x<=q) (Ac:a.length+b.length<=2^32) (ET:bytes<=2^12) (hb:(b.all fun r=>decide (r.length=sz))=true) (ha:(a.all fun r=>decide (r.length=sz))=true)
 (hK: ∀v hp,zaF (At h hp) (q+1) v sz (a++b)->(∀j,j<q->(∀i n,u≠ .ms j i n)->At h hp j=h j)->(∀j,q<j->At h hp j=h j)->K v hp):
 ziX false (zck h q sz bytes u a b) K w:=by
 unfold zck;rw[if_pos ⟨⟨Ac,ET⟩,hb,ha⟩]
 cases b with
 | nil=>
   simp only[List.isEmpty_nil,if_true,zcb];refine hK _ _ ?_ (fun j _ _=>by rw[zaA]) (fun j _=>by rw[zaA]);rw[zaA,List.append_nil];rcases ho with h1 | ⟨k,h1,h2,h3⟩
   ·exact .inl h1
   ·exact .inr ⟨k,h1,by omega,h3⟩
 | cons r b=>
   simp only[List.isEmpty_cons,zG,if_false];rcases ho with⟨rfl,rfl⟩ | ⟨k,rfl,hk,hh⟩
   ·simp only[zcb];refine hK _ _ (.inr ⟨q,rfl,by omega,?_⟩) (fun j hj _=> ?_) (fun j hj=> ?_)
    ·simp[zaC,zaA,zaa]
    ·have:j≠q:=by omega
     simp[zaC,zaA,zaa,this]
    ·have:j≠q:=by omega
     simp[zaC,zaA,zaa,this]
   ·simp only[hh,and_self,if_true,zcb,zfP];refine hK _ _ (.inr ⟨q,by rw[zM],by omega,?_⟩) (fun j hj Az=> ?_) (fun j hj=> ?_)
    ·simp[zaC,zaA,zaa]
    ·have h1:j≠q:=by omega
     have h2:j≠k:=by rintro rfl;exact Az 0 _ rfl
     simp[zaC,zaA,zaa,h1,h2]
    ·have h1:j≠q:=by omega
     have h2:j≠k:=by omega
     simp[zaC,zaA,zaa,h1,h2]
theorem zmF {h:Nat->Option O} {x q sz bytes k0 n0:Nat} {a b:List (List V)} {K:V->List (Nat×O)->Prop} {w:WK K}
 (hh:h k0=some (.rows sz a false)) (hn:n0=a.length) (hx:k0<x) (Ry:x<=q) (Ac:a.length+b.length<=2^32) (ET:bytes<=2^12) (hb:(b.all fun r=>decide (r.length=sz))=true) (ha:(a.all fun r=>decide (r.length=sz))=true)
 (hK: ∀k hp,k<q+1->At h hp k=some (.rows sz (a++b) false)->(∀j,j<q->j≠k0->At h hp j=h j)->(∀j,q<j->At h hp j=h j)->K (.ms k 0 (a++b).length) hp):
 ziX false (zck h q sz bytes (.ms k0 0 n0) a b) K w:=by
 subst hn;unfold zck;rw[if_pos ⟨⟨Ac,ET⟩,hb,ha⟩]
 cases b with
 | nil=>
   simp only[List.isEmpty_nil,if_true,zcb];have:=hK k0 [] (by omega) (by rw[zaA,List.append_nil];exact hh) (fun j _ _=>by rw[zaA]) (fun j _=>by rw[zaA])
   rwa[List.append_nil]at this
 | cons r b=>
   simp only[List.isEmpty_cons,zG,if_false,hh,and_self,if_true,zcb,zfP]
   have:=hK q [(k0,.dead),(q,.rows sz (a++r::b) false)] (by omega) (by simp[zaC,zaA,zaa]) (fun j hj Az=>by
    have h1:j≠q:=by omega
    simp[zaC,zaA,zaa,h1,Az]) (fun j hj=>by
    have h1:j≠q:=by omega
    have h2:j≠k0:=by omega
    simp[zaC,zaA,zaa,h1,h2])
   rwa[zM]at this
def zod (p:Prog) (e:Expr):Prop:= ∀op,op=2\/op=3-> ∀c∈e.sup op,0<=c/\c<p.cells.length
def zxu (p:Prog) (shared:Bool) (t c:Int):Bool:=match p.cells[c.toNat]? with
 | some x=> !((decide (x.thread= -1)&& !shared)||(decide (0<=x.thread)&&decide (x.thread≠t)))
 | none=>false
theorem zfp (op:Int) (e:Expr):(e.sup op).length<=32:=by
 unfold Expr.sup;split
 ·unfold zbJ;rw[List.length_map];exact Nat.le_trans (List.length_filter_le _ _) (by simp)
 ·simp
theorem zlh (l:List Int):(l.map fun n=>[ti n]).map (fun x=>x.map V.t)=zae l:=rfl
theorem zr2 (p:Prog) (e:Expr) (sh:Bool) (t:Int) (Aj:zod p e):
 Den Γ G 115 [(zP p),(.agg [.t (ti (e).op),.t (ti (e).w),.t (ti (e).n),.t (.sl ((e).kids.map (Expr.enc)))]),vb sh,vi t]=some (vb ((e.sup 3++e.sup 2).all (zxu p sh t))):=by
 (refine zag Γ115 rfl ?_;dsimp only[f115])
 have h1:=zmh e;have s3:=zfp 3 e;have s2:=zfp 2 e
 have Aa: ∀c∈e.sup 3++e.sup 2,0<=c/\c<p.cells.length:=by
  intro c hc;rcases List.mem_append.1 hc with hc | hc
  ·exact Aj 3 (.inr rfl) c hc
  ·exact Aj 2 (.inl rfl) c hc
 have FI:zae (e.sup 3)++zae (e.sup 2)=zae (e.sup 3++e.sup 2):=by simp[zae]
 have Ac:(e.sup 3++e.sup 2).length<=64:=by rw[zM];omega
 simp -dsimp only[go_sem,seval,h1,zlh];refine zmF (x:=11) (by simp -dsimp only[go_sem,seval]) rfl (by decide) (by decide) (by rw[zab];simp;omega) (by decide) (zaQ _) (by decide) ?_;intro k hp hk hh _ _;rw[List.nil_append]at hh⊢;simp -dsimp only[go_sem,seval,hh,zlh,Nat.le_refl,List.take_length];refine zmF hh rfl hk (by decide) (by rw[zab,zab];omega) (by decide) (zaQ _) (zaQ _) ?_;intro k2 D0 AF Cl _ _;rw[FI]at Cl⊢
 generalize e.sup 3++e.sup 2=l at *
 obtain⟨M,hM⟩: ∃M,M=zxu p sh t:=⟨_,rfl⟩
 rw[<- hM];replace hM: ∀c,zxu p sh t c=M c:=fun c=>by rw[hM]
 cases sh
 all_goals(
  simp -dsimp only[go_sem,seval];refine zaq 18014398492717312 l.length (fun i f hh x=>(f 12).v=vi i/\hh k2=some (.rows 1 (zae l) false)/\(l.take i).all M=true) rfl ⟨by simp -dsimp only[go_sem,seval],by simp -dsimp only[go_sem,seval,Cl],by simp⟩ ?_;clear Cl;rintro i f u hh x bs hi ⟨h12,Cl,Dv⟩;have BF:=zan i (by omega);simp -dsimp only[go_sem,seval,h12,Cl,zab];refine zac (fun h=> ?_) (fun h=> ?_)<;>(try simp only[zah]at h)<;>(try simp -dsimp only[go_sem,seval, *])
  ·obtain⟨c,hc,hm⟩:=zai (show i<l.length by omega);obtain⟨c0,c1⟩:=Aa c hm;obtain⟨y,hy⟩: ∃y,p.cells[c.toNat]? =some y:=⟨_,zI (by omega)⟩
   have Ap:(zae l)[i]? =some [vi c]:=by simp[zae,hc]
   have Dq:(0:Int)<=(i:Int):=by omega
   have B8:i<l.length:=by omega
   have Jx:=(hM c).symm;simp only[zxu,hy]at Jx;have Be:M c=false->l.all M=false:=fun h0=>zcr hm h0
   simp -dsimp only[go_sem,seval,h12,Cl,Ap,B8,c0,hy,zab]
   repeat'(refine zac (fun h=> ?_) (fun h=> ?_)<;>(try simp only[zah]at h)<;>(try simp -dsimp only[go_sem,seval, *]))
   all_goals first
    | (rw[Be (by rw[Jx];simp[*])];done)
    | (refine⟨by omega,by simp -dsimp only[go_sem,seval,BF],by simp -dsimp only[go_sem,seval,Cl],?_⟩
       rw[zaf hc,List.all_append,Dv];simp only[List.all_cons,List.all_nil,Jx]
       simp[*];(try omega);done)
  ·have:i=l.length:=by omega
   subst this;rw[List.take_length]at Dv
   rw[Dv])
theorem zaF.upd {h:Nat->Option O} {x:Nat} {v:V} {sz:Nat} {rows:List (List V)} (o:zaF h x v sz rows) {q:Nat} (hq:x<=q) (b:Option O):zaF (updC h q b) (q+1) v sz rows:=by
 rcases o with o | ⟨k,h1,h2,h3⟩
 ·exact .inl o
 ·exact .inr ⟨k,h1,by omega,by rw[zaa,if_neg (by omega)];exact h3⟩
theorem zaF.le {h:Nat->Option O} {x y:Nat} {v:V} {sz:Nat} {rows:List (List V)} (o:zaF h x v sz rows) (hq:x<=y):zaF h y v sz rows:=by
 rcases o with o | ⟨k,h1,h2,h3⟩
 ·exact .inl o
 ·exact .inr ⟨k,h1,by omega,h3⟩
theorem zaF.r1 {h:Nat->Option O} {x:Nat} {v:V} {sz:Nat} {rows:List (List V)} (o:zaF h x v sz rows) (a:Nat) (b:Option O):Rg.rowsS (updC h (x+a) b) v=some rows:=(o.upd (by omega) b).rowsS
theorem zaF.r2 {h:Nat->Option O} {x:Nat} {v:V} {sz:Nat} {rows:List (List V)} (o:zaF h x v sz rows) (a c:Nat) (b:Option O):Rg.rowsS (updC h (x+a+c) b) v=some rows:=(o.upd (by omega) b).rowsS
theorem zaF.r3 {h:Nat->Option O} {x:Nat} {v:V} {sz:Nat} {rows:List (List V)} (o:zaF h x v sz rows) (a c d:Nat) (b:Option O):Rg.rowsS (updC h (x+a+c+d) b) v=some rows:=(o.upd (by omega) b).rowsS
theorem zaF.r4 {h:Nat->Option O} {x:Nat} {v:V} {sz:Nat} {rows:List (List V)} (o:zaF h x v sz rows) (a c d e:Nat) (b:Option O):Rg.rowsS (updC h (x+a+c+d+e) b) v=some rows:=(o.upd (by omega) b).rowsS
theorem zaF.r5 {h:Nat->Option O} {x:Nat} {v:V} {sz:Nat} {rows:List (List V)} (o:zaF h x v sz rows) (a c d e f:Nat) (b:Option O):Rg.rowsS (updC h (x+a+c+d+e+f) b) v=some rows:=(o.upd (by omega) b).rowsS
theorem zaF.reify {h:Nat->Option O} {x:Nat} {v:V} {sz:Nat} {es:List (List T)} (o:zaF h x v sz (es.map (·.map V.t))) (hn: ∀e∈es,∀t∈e,T.norm t=t):Rg.reify h v=some (.t (.sl es)):=by
 have:=zcc o hn;rcases o with⟨rfl,he⟩ | ⟨k,rfl,_,_⟩
 ·have:es=[]:=by simpa using he
  subst this;rfl
 ·simp only[Rg.reify,toT1,this,Option.map_some]
theorem zaF.one {h:Nat->Option O} {x:Nat} {v:V} {sz:Nat} {rows:List (List V)} (o:zaF h x v sz rows):v.one=true:=by
 rcases o with⟨rfl,_⟩ | ⟨k,rfl,_,_⟩<;>rfl
theorem zaF.resVal {h:Nat->Option O} {x:Nat} {v:V} {sz:Nat} {rows:List (List V)} (o:zaF h x v sz rows):Rg.resVal v=some v:=by
 rcases o with⟨rfl,_⟩ | ⟨k,rfl,_,_⟩<;>rfl
def zbg (v:V) (k:Nat):Prop:= ∀i n,v≠ .ms k i n
theorem za3 {q k:Nat} (h:k≠q) (i n:Nat):zbg (.ms q i n) k:=by
 intro i' n' he;cases he;exact h rfl
theorem zav {h:Nat->Option O} {x q sz bytes:Nat} {u:V} {a:List (List V)} {r:List V} {K:V->List (Nat×O)->Prop} {w:WK K}
 (ho:zaF h x u sz a) (hx:x<=q) (Ac:a.length<2^32) (ET:bytes<=2^12) (hb:r.length=sz) (ha:(a.all fun r=>decide (r.length=sz))=true)
 (hK: ∀v hp,zaF (At h hp) (q+1) v sz (a++[r])->(∀j,j<x->zbg v j)->(∀j,j<x->zbg u j->At h hp j=h j)->K v hp):
 ziX false (zck h q sz bytes u a [r]) K w:=by
 unfold zck;rw[if_pos ⟨⟨by simp;omega,ET⟩,by simp[hb],ha⟩];simp only[List.isEmpty_cons,zG,if_false];rcases ho with⟨rfl,rfl⟩ | ⟨k,rfl,hk,hh⟩
 ·simp only[zcb];refine hK _ _ (.inr ⟨q,rfl,by omega,?_⟩) (fun j hj=>za3 (by omega) _ _) (fun j hj _=> ?_)
  ·simp[zaC,zaA,zaa]
  ·have:j≠q:=by omega
   simp[zaC,zaA,zaa,this]
 ·simp only[hh,and_self,if_true,zcb,zfP];refine hK _ [(k,.dead),(q,.rows sz (a++[r]) false)] (.inr ⟨q,by rw[zM],by omega,by simp[zaC,zaA,zaa]⟩) (fun j hj=>za3 (by omega) _ _) (fun j hj Az=> ?_);have h1:j≠q:=by omega
  have h2:j≠k:=by rintro rfl;exact Az 0 _ rfl
  simp[zaC,zaA,zaa,h1,h2]
theorem zaF.keep {h h':Nat->Option O} {x y:Nat} {v:V} {sz:Nat} {rows:List (List V)} (o:zaF h x v sz rows) (BW:x<=y) (hh: ∀k,k<x-> ¬zbg v k->h' k=h k):zaF h' y v sz rows:=by
 rcases o with o | ⟨k,rfl,h2,h3⟩
 ·exact .inl o
 ·exact .inr ⟨k,rfl,by omega,by rw[hh k h2 (fun h0=>h0 _ _ rfl)];exact h3⟩
theorem zhx {h:Nat->Option O} {key g sz:Nat} {vs rs:List V} {es:List (List T)} {K:V->List (Nat×O)->Prop} {w:WK K} (ht:vs.all V.tree=true) (AD:vs.mapM (toT1 h)=some rs)
 (hd: ∃r h' n',DenR Γ G g rs (fun _=>none) 0=some (r,h',n')/\zaF h' n' r sz (es.map (·.map V.t)))
 (hK: ∀v hp,zaF (At h hp) (key+1) v sz (es.map (·.map V.t))->(∀j,j≠key->At h hp j=h j)->(∀j,j≠key->zbg v j)->K v hp):zyL (Γ:=Γ) (G:=G) false h key g vs K w:=by
 obtain⟨r,h',n',CF,Ab⟩:=hd
 have Je:vs.flatMap (zba h)=[]:=by
  simp only[List.flatMap_eq_nil_iff];intro v hv;exact zkt (zN.1 ht v hv)
 refine⟨rfl,Je,rs,AD,r,h',n',CF,?_⟩;rcases Ab with⟨rfl,he⟩ | ⟨k,rfl,hk,hh⟩
 ·refine⟨{ val:=.t .nils },rfl,hK _ _ (.inl ⟨rfl,he⟩) (fun j _=>by rw[zaA]) (fun j _ i n h=>by cases h)⟩
 ·have Aa:(es.map (·.map V.t)).all (fun row=>row.all V.isTr)=true:=by
   simp[V.isTr]
  refine⟨{ val:=.ms key 0 (es.map (·.map V.t)).length,hp:=[(key,.rows sz (es.map (·.map V.t)) false)] },?_,hK _ _ (.inr ⟨key,rfl,by omega,by simp[zaC,zaA,zaa]⟩) (fun j hj=>by simp[zaC,zaA,zaa,hj]) (fun j hj=>za3 (by omega) _ _)⟩;simp only[zqm,hh];rw[if_pos ⟨trivial,trivial,Aa⟩]
def zxq:Task->Out->Prop
 | .code _ s,.code _ s'=>s.nxt<=s'.nxt
 | .loop _ s,.code _ s'=>s.nxt<=s'.nxt
 | .ops _ _ _ s,.ops s'=>s.nxt<=s'.nxt
 | .rcall _ _ _ n,.vals _ _ n'=>n<=n'
 | _,_=>True
theorem zxh {Γ:Nat->Option F} {G:Nat->List T} {t:Task} {o:Out} (h:Big Γ G t o):zxq t o:=by
 induction h with
 | rext hg hr hb h=>exact(zm6 h).1
 | opsYield hw hf ho As AB Au Ac Bi AT CL AF h iha ihb ih=>
   simp only[zxq,St.apply,zht]at *
   omega
 | _=>simp_all [zxq,St.begin,St.apply,St.init]<;>omega
theorem zu9 {Γ:Nat->Option F} {G:Nat->List T} {g:Nat} {args:List V} {h h':Nat->Option O} {n n':Nat} {r:V} (hd:DenR Γ G g args h n=some (r,h',n')):n<=n':=zxh (zcI.1 hd)
theorem zyv {Γ:Nat->Option F} {G:Nat->List T} {g:Nat} {args:List V} {h:Nat->Option O} {n:Nat} {P:V->(Nat->Option O)->Nat->Prop} (hd: ∃r h' n',DenR Γ G g args h n=some (r,h',n')/\P r h' n'):
 ∃r h' n',DenR Γ G g args h n=some (r,h',n')/\(P r h' n'/\n<=n'):=
 let⟨r,h',n',h1,h2⟩:=hd
 ⟨r,h',n',h1,h2,zu9 h1⟩
theorem zfo (e:Expr) (H0:Nat->Option O) (n0:Nat):
 ∃r h' n',DenR Γ G 60 [(.agg [.t (ti (e).op),.t (ti (e).w),.t (ti (e).n),.t (.sl ((e).kids.map (Expr.enc)))])] H0 n0=some (r,h',n')/\ ∃v3 v2,r= .tup [v3,v2]/\zaF h' n' v3 1 (zae (e.sup 3))/\zaF h' n' v2 1 (zae (e.sup 2))/\n0<=n'/\ ∀k,k<n0->h' k=H0 k/\zbg v3 k/\zbg v2 k:=by
 (refine zay Γ60 rfl ?_;dsimp only[f60])
 have h1:=zeo e
 by_cases hf:e.formed=true
 ·simp -dsimp only[go_sem,seval,h1,hf];have hd:=zcp hf;refine zas (zyv (zkJ 77 _ (fun s h=>IS (n0+0) (n0+3+3+0) (n0+3+3+1) e s h/\ ∀k,k<n0->h k=H0 k) (fun s x=>(zb2 3 s.1 x,zb2 2 s.2 x)) lcS ?_ e _ (List.replicate 32 false,List.replicate 32 false) _ _ (zpJ 40 e hd) ⟨⟨rfl,rfl,?_,?_,?_⟩,?_⟩ (fun s h hI=> .inr ⟨n0+0,false,rfl,hI.1.2.2.2.2⟩))) ?_
  ·rintro s h n v x ⟨hI,A8⟩ hk hl hs;obtain⟨r,h',n',hd,DI,NF⟩:=zmi (n0+0) (n0+3+3+0) (n0+3+3+1) e (by omega) (by omega) (by omega) s h n v x hI hk hl hs;exact⟨r,h',n',hd,DI,fun k hk=>(NF k (by omega) (by omega)).trans (A8 k hk)⟩
  ·rw[zaa,if_neg (by omega),zaa,if_pos rfl];rfl
  ·rw[zaa,if_pos rfl];rfl
  ·rw[zaa,if_neg (by omega),zaa,if_neg (by omega),zaa,if_pos rfl]
  ·intro k hk;rw[zaa,if_neg (by omega),zaa,if_neg (by omega),zaa,if_neg (by omega)]
  rintro r h' n' ⟨⟨hI,A8⟩,RG⟩;rw[zhz]at hI;obtain⟨l1,l2,i4,i5,i1⟩:=hI;change h' (n0+3+3+0)=some (.rows 32 [vbs (e.occ 3)] false)at i4;change h' (n0+3+3+1)=some (.rows 32 [vbs (e.occ 2)] false)at i5;have o3:=zlt 3 e;have o2:=zlt 2 e;have v3:(vbs (e.occ 3)).length=32:=by simp[vbs,o3]
  have v2:(vbs (e.occ 2)).length=32:=by simp[vbs,o2]
  have t3:List.take 32 (vbs (e.occ 3))=vbs (e.occ 3):=List.take_of_length_le (by omega);have t2:List.take 32 (vbs (e.occ 2))=vbs (e.occ 2):=List.take_of_length_le (by omega);have m3:=zi2 (e.occ 3) o3;have m2:=zi2 (e.occ 2) o2;change ∃r h' n',DenR Γ G 78 [V.agg (vbs (e.occ 3))] (fun _=>none) 0=some (r,h',n')/\_ at m3;change ∃r h' n',DenR Γ G 78 [V.agg (vbs (e.occ 2))] (fun _=>none) 0=some (r,h',n')/\_ at m2
  have tr: ∀l:List Bool,[V.agg (vbs l)].all V.tree=true:=fun l=>by
   simp only[List.all_cons,List.all_nil,Bool.and_true,V.tree,vbs,List.all_map,zN];intros;rfl
  have mt: ∀(g:Nat->Option O) (l:List Bool),[V.agg (vbs l)].mapM (toT1 g)=some [V.agg (vbs l)]:=fun g l=>by
   have:List.mapM (toT g 1000) (vbs l)=some (l.map fun b=>tb b):=by
    refine zei _ _ _ (fun i a ha=> ?_) (by simp[vbs]);rw[vbs,zJ]at ha;rw[zJ]
    cases hb:l[i]? with
    | none=>rw[hb]at ha;simp at ha
    | some x=>rw[hb]at ha;simp at ha;subst ha;exact⟨_,rfl,rfl⟩
   have h2:List.map V.t (l.map fun b=>tb b)=vbs l:=by simp[vbs]
   simp only[List.mapM_cons,List.mapM_nil,toT1,this,Option.map_some,h2];rfl
  simp -dsimp only[go_sem,seval,i4,v3,t3];refine zhx (tr _) (mt _ _) m3 ?_;intro w3 Qi Hl B4 QD;have x3:=Hl.valOf;have i5':=(B4 (n0+3+3+1) (by omega)).trans i5;simp -dsimp only[go_sem,seval,i5',v2,t2,x3];refine zhx (tr _) (mt _ _) m2 ?_;intro w2 D0 Cz AF Cv;have x2:=Cz.valOf;have y3:=Hl.resVal;have y2:=Cz.resVal;simp only[Rg.resVal]at y3 y2;simp -dsimp only[go_sem,seval,x3,x2,y3,y2];have hs: ∀op,zbJ (e.occ op) 32=e.sup op:=fun op=>by simp[Expr.sup,hf]
  have Oz:=Hl.keep (y:=n'+6) (h':=At (At h' Qi) D0) (by omega) (fun k hk _=>AF k (by omega));have ha: ∀l:List ROp,l.length=6->addC n' l=n'+6:=fun l hl=>by rw[zfQ];simp[hl]
  refine⟨w3,w2,rfl,?_,?_,?_,fun k hk=>⟨?_,QD k (by omega),Cv k (by omega)⟩⟩
  ·rw[<- hs 3,ha _ rfl];exact Oz
  ·rw[<- hs 2,ha _ rfl];exact Cz.le (by omega)
  ·rw[ha _ rfl];omega
  ·rw[AF k (by omega),B4 k (by omega)];exact A8 k hk
 ·have hf:e.formed=false:=by simpa using hf
  simp -dsimp only[go_sem,seval,h1,hf];have hs: ∀op,e.sup op=[]:=fun op=>by simp[Expr.sup,hf]
  rw[hs,hs];exact⟨_,_,rfl,.inl ⟨rfl,rfl⟩,.inl ⟨rfl,rfl⟩,Nat.le_trans (zhI _ _) (Nat.le_trans (zhI _ _) (zhI _ _)),fun k hk=>⟨by rw[zaa,if_neg (by omega)],(fun i n h=>by cases h),(fun i n h=>by cases h)⟩⟩
end Rg
end
