/- Part of the proof of the laws of the package relyguardlaw36: an abstract machine for the program's functions, what they compute, and that the machine is the program's. No condition. (H06v H06w H07a H06u H06t H06s H07b H07c H07d) -/
import Derived.Test.YtaiokglcgiemnaaGreatDoorPartAW
set_option linter.unusedSimpArgs false
set_option linter.unusedVariables false
section
namespace Rg
open Go
theorem and_maskL (x m w:Int) (hw:0<=w/\w<=62) (hm:m=2^w.toNat-1):IntKind.i64.wrap ((BitVec.ofInt IntKind.i64.bits x&&& BitVec.ofInt IntKind.i64.bits m).toNat)=x % 2^w.toNat:=by
 subst hm;exact and_mask x w hw
theorem appP_mod {op w a b c:Int} (hop:4<=op/\op<=14) (hw:1<=w) (ho:0<=opv op w a b c/\opv op w a b c<2^w.toNat) (ha:0<=a):appP op a b c % 2^w.toNat=opv op w a b c:=by
 have hp0:=pow2_pos w.toNat
 have hcs:op=4\/op=5\/op=6\/op=7\/op=8\/op=9\/op=10\/op=11\/op=12\/op=13\/op=14:=by omega
 rcases hcs with rfl | rfl | rfl | rfl | rfl | rfl | rfl | rfl | rfl | rfl | rfl
 ·have h1:(-1-a) % 2^w.toNat=(2^w.toNat-1-a) % 2^w.toNat:=by
   rw[show 2^w.toNat-1-a=(-1-a)+2^w.toNat by omega,Int.add_emod_right]
  show(-1-a) % 2^w.toNat=2^w.toNat-1-a
  rw[h1];exact Int.emod_eq_of_lt ho.1 ho.2
 ·exact Int.emod_eq_of_lt ho.1 ho.2
 ·exact Int.emod_eq_of_lt ho.1 ho.2
 ·exact Int.emod_eq_of_lt ho.1 ho.2
 ·rfl
 ·rfl
 ·rfl
 ·exact Int.emod_eq_of_lt ho.1 ho.2
 ·exact Int.emod_eq_of_lt ho.1 ho.2
 ·exact Int.emod_eq_of_lt ho.1 ho.2
 ·exact Int.emod_eq_of_lt ho.1 ho.2
theorem leaf_kids {e:Expr} (h:nodeOk e=true) (h1: ¬e.op=1) (h2: ¬e.op=2) (h3: ¬e.op=3):4<=e.op/\e.op<=14:=by
 have:=node_arity h
 rcases op_cases e.op with hh | hh | hh | hh | hh | hh | hh | hh | hh | hh | hh | hh | hh | hh | hop
 all_goals(try omega)
 rw[arity_bad hop]at this;omega
set_option maxHeartbeats 4000000 in
theorem valueP_den (old now:List Int) (d:Nat): ∀e:Expr,e.deep d=true->Den Γ G 56 [.t (.ip [ti e.op,ti e.w,ti e.n,.sl (e.kids.map Expr.enc)]),.t (ints old),.t (ints now)]=some (vi (e.ev old now)):=by
 induction d with
 | zero=>intro e h;simp[Expr.deep]at h
 | succ d ih=>
   intro e h
   have hn:=deep_node h
   have hw:=node_w hn
   have hn0:=nodeOk_n hn
   have hl3:=nodeOk_len hn
   (refine den_ofY Γ56 rfl ?_;dsimp only[f56])
   by_cases h1:e.op=1
   ·simp -dsimp -implicitDefEqProofs only[go_sem,seval,h1]
    rw[Expr.ev_eq,if_pos h1]
   ·have key: ∀m:Int,m=2^e.w.toNat-1->(∀x:Int,IntKind.i64.wrap ((BitVec.ofInt IntKind.i64.bits x&&& BitVec.ofInt IntKind.i64.bits m).toNat)=x % 2^e.w.toNat):=fun m hm x=>and_maskL x m e.w (by omega) hm
    by_cases h2:e.op=2
    ·have h3:=element_den now e.n hn0
     have hev:e.ev old now=atI now e.n % 2^e.w.toNat:=by rw[Expr.ev_eq,if_neg h1,if_pos h2]
     rw[hev]
     generalize e.w=w at *
     rcases mask_cases hw with rfl | rfl | rfl | rfl | rfl | rfl | rfl | rfl
     ·have km:=key 1 rfl;simp -dsimp -implicitDefEqProofs only[go_sem,seval,h2,h3,km]
     ·have km:=key 3 rfl;simp -dsimp -implicitDefEqProofs only[go_sem,seval,h2,h3,km]
     ·have km:=key 7 rfl;simp -dsimp -implicitDefEqProofs only[go_sem,seval,h2,h3,km]
     ·have km:=key 15 rfl;simp -dsimp -implicitDefEqProofs only[go_sem,seval,h2,h3,km]
     ·have km:=key 31 rfl;simp -dsimp -implicitDefEqProofs only[go_sem,seval,h2,h3,km]
     ·have km:=key 63 rfl;simp -dsimp -implicitDefEqProofs only[go_sem,seval,h2,h3,km]
     ·have km:=key 127 rfl;simp -dsimp -implicitDefEqProofs only[go_sem,seval,h2,h3,km]
     ·have km:=key 255 rfl;simp -dsimp -implicitDefEqProofs only[go_sem,seval,h2,h3,km]
    ·by_cases h3:e.op=3
     ·have h3':=element_den old e.n hn0
      have hev:e.ev old now=atI old e.n % 2^e.w.toNat:=by rw[Expr.ev_eq,if_neg h1,if_neg h2,if_pos h3]
      rw[hev]
      generalize e.w=w at *
      rcases mask_cases hw with rfl | rfl | rfl | rfl | rfl | rfl | rfl | rfl
      ·have km:=key 1 rfl;simp -dsimp -implicitDefEqProofs only[go_sem,seval,h3,h3',km]
      ·have km:=key 3 rfl;simp -dsimp -implicitDefEqProofs only[go_sem,seval,h3,h3',km]
      ·have km:=key 7 rfl;simp -dsimp -implicitDefEqProofs only[go_sem,seval,h3,h3',km]
      ·have km:=key 15 rfl;simp -dsimp -implicitDefEqProofs only[go_sem,seval,h3,h3',km]
      ·have km:=key 31 rfl;simp -dsimp -implicitDefEqProofs only[go_sem,seval,h3,h3',km]
      ·have km:=key 63 rfl;simp -dsimp -implicitDefEqProofs only[go_sem,seval,h3,h3',km]
      ·have km:=key 127 rfl;simp -dsimp -implicitDefEqProofs only[go_sem,seval,h3,h3',km]
      ·have km:=key 255 rfl;simp -dsimp -implicitDefEqProofs only[go_sem,seval,h3,h3',km]
     ·have hop:=leaf_kids hn h1 h2 h3
      have hb:=ev_bound old now _ e h
      have hev:e.ev old now=opv e.op e.w ((e.kids.map (Expr.ev old now)).getD 0 0) ((e.kids.map (Expr.ev old now)).getD 1 0) ((e.kids.map (Expr.ev old now)).getD 2 0):=by
       rw[Expr.ev_eq,if_neg h1,if_neg h2,if_neg h3]
      have hk: ∀k∈e.kids,Den Γ G 56 [.t (.ip [ti k.op,ti k.w,ti k.n,.sl (k.kids.map Expr.enc)]),.t (ints old),.t (ints now)]=some (vi (k.ev old now)):=fun k hk=>ih k (deep_kid h hk)
      have hfit:=(kids_fit old now h).2.2.1
      rw[hev]at hb
      have hmod:=appP_mod (a:=((e.kids.map (Expr.ev old now)).getD 0 0)) (b:=((e.kids.map (Expr.ev old now)).getD 1 0)) (c:=((e.kids.map (Expr.ev old now)).getD 2 0)) hop hw.1 hb
      rw[hev]
      clear hev hb ih
      simp -dsimp -implicitDefEqProofs only[go_sem,seval,h1,h2,h3]
      generalize he:e.kids=ks at *
      rcases ks with _ | ⟨a,_ | ⟨b,_ | ⟨c,_ | ⟨x,r⟩⟩⟩⟩
      ·exfalso
       have ha:=node_arity hn
       rw[he]at ha
       rcases hop with⟨o1,o2⟩
       have:1<=arity e.op:=by unfold arity;grind
       simp at ha;omega
      ·have hka:=hk a (by simp)
       have hfa:=hfit (a.ev old now) (by simp)
       have hd:=applyP_den e.op (a.ev old now) 0 0 hop (by omega) (by omega) (by omega)
       have hmod:=hmod (by simp only[List.map_cons,List.getD_cons_zero];omega)
       rw[<- hmod]
       clear hmod
       refine wL_step ?_
       simp -dsimp -implicitDefEqProofs only[go_sem,seval,he,hka]
       refine wL_step ?_
       generalize e.w=w at *
       rcases mask_cases hw with rfl | rfl | rfl | rfl | rfl | rfl | rfl | rfl
       ·have km:=key 1 rfl;simp -dsimp -implicitDefEqProofs only[go_sem,seval,he,hd,km,List.map_cons,List.map_nil,List.getD_cons_zero,List.getD_cons_succ,List.getD_nil]
       ·have km:=key 3 rfl;simp -dsimp -implicitDefEqProofs only[go_sem,seval,he,hd,km,List.map_cons,List.map_nil,List.getD_cons_zero,List.getD_cons_succ,List.getD_nil]
       ·have km:=key 7 rfl;simp -dsimp -implicitDefEqProofs only[go_sem,seval,he,hd,km,List.map_cons,List.map_nil,List.getD_cons_zero,List.getD_cons_succ,List.getD_nil]
       ·have km:=key 15 rfl;simp -dsimp -implicitDefEqProofs only[go_sem,seval,he,hd,km,List.map_cons,List.map_nil,List.getD_cons_zero,List.getD_cons_succ,List.getD_nil]
       ·have km:=key 31 rfl;simp -dsimp -implicitDefEqProofs only[go_sem,seval,he,hd,km,List.map_cons,List.map_nil,List.getD_cons_zero,List.getD_cons_succ,List.getD_nil]
       ·have km:=key 63 rfl;simp -dsimp -implicitDefEqProofs only[go_sem,seval,he,hd,km,List.map_cons,List.map_nil,List.getD_cons_zero,List.getD_cons_succ,List.getD_nil]
       ·have km:=key 127 rfl;simp -dsimp -implicitDefEqProofs only[go_sem,seval,he,hd,km,List.map_cons,List.map_nil,List.getD_cons_zero,List.getD_cons_succ,List.getD_nil]
       ·have km:=key 255 rfl;simp -dsimp -implicitDefEqProofs only[go_sem,seval,he,hd,km,List.map_cons,List.map_nil,List.getD_cons_zero,List.getD_cons_succ,List.getD_nil]
      ·have hka:=hk a (by simp)
       have hfa:=hfit (a.ev old now) (by simp)
       have hkb:=hk b (by simp)
       have hfb:=hfit (b.ev old now) (by simp)
       have hd:=applyP_den e.op (a.ev old now) (b.ev old now) 0 hop (by omega) (by omega) (by omega)
       have hmod:=hmod (by simp only[List.map_cons,List.getD_cons_zero];omega)
       rw[<- hmod]
       clear hmod
       refine wL_step ?_
       simp -dsimp -implicitDefEqProofs only[go_sem,seval,he,hka]
       refine wL_step ?_
       simp -dsimp -implicitDefEqProofs only[go_sem,seval,he,hkb]
       refine wL_step ?_
       generalize e.w=w at *
       rcases mask_cases hw with rfl | rfl | rfl | rfl | rfl | rfl | rfl | rfl
       ·have km:=key 1 rfl;simp -dsimp -implicitDefEqProofs only[go_sem,seval,he,hd,km,List.map_cons,List.map_nil,List.getD_cons_zero,List.getD_cons_succ,List.getD_nil]
       ·have km:=key 3 rfl;simp -dsimp -implicitDefEqProofs only[go_sem,seval,he,hd,km,List.map_cons,List.map_nil,List.getD_cons_zero,List.getD_cons_succ,List.getD_nil]
       ·have km:=key 7 rfl;simp -dsimp -implicitDefEqProofs only[go_sem,seval,he,hd,km,List.map_cons,List.map_nil,List.getD_cons_zero,List.getD_cons_succ,List.getD_nil]
       ·have km:=key 15 rfl;simp -dsimp -implicitDefEqProofs only[go_sem,seval,he,hd,km,List.map_cons,List.map_nil,List.getD_cons_zero,List.getD_cons_succ,List.getD_nil]
       ·have km:=key 31 rfl;simp -dsimp -implicitDefEqProofs only[go_sem,seval,he,hd,km,List.map_cons,List.map_nil,List.getD_cons_zero,List.getD_cons_succ,List.getD_nil]
       ·have km:=key 63 rfl;simp -dsimp -implicitDefEqProofs only[go_sem,seval,he,hd,km,List.map_cons,List.map_nil,List.getD_cons_zero,List.getD_cons_succ,List.getD_nil]
       ·have km:=key 127 rfl;simp -dsimp -implicitDefEqProofs only[go_sem,seval,he,hd,km,List.map_cons,List.map_nil,List.getD_cons_zero,List.getD_cons_succ,List.getD_nil]
       ·have km:=key 255 rfl;simp -dsimp -implicitDefEqProofs only[go_sem,seval,he,hd,km,List.map_cons,List.map_nil,List.getD_cons_zero,List.getD_cons_succ,List.getD_nil]
      ·have hka:=hk a (by simp)
       have hfa:=hfit (a.ev old now) (by simp)
       have hkb:=hk b (by simp)
       have hfb:=hfit (b.ev old now) (by simp)
       have hkc:=hk c (by simp)
       have hfc:=hfit (c.ev old now) (by simp)
       have hd:=applyP_den e.op (a.ev old now) (b.ev old now) (c.ev old now) hop (by omega) (by omega) (by omega)
       have hmod:=hmod (by simp only[List.map_cons,List.getD_cons_zero];omega)
       rw[<- hmod]
       clear hmod
       refine wL_step ?_
       simp -dsimp -implicitDefEqProofs only[go_sem,seval,he,hka]
       refine wL_step ?_
       simp -dsimp -implicitDefEqProofs only[go_sem,seval,he,hkb]
       refine wL_step ?_
       simp -dsimp -implicitDefEqProofs only[go_sem,seval,he,hkc]
       refine wL_step ?_
       generalize e.w=w at *
       rcases mask_cases hw with rfl | rfl | rfl | rfl | rfl | rfl | rfl | rfl
       ·have km:=key 1 rfl;simp -dsimp -implicitDefEqProofs only[go_sem,seval,he,hd,km,List.map_cons,List.map_nil,List.getD_cons_zero,List.getD_cons_succ,List.getD_nil]
       ·have km:=key 3 rfl;simp -dsimp -implicitDefEqProofs only[go_sem,seval,he,hd,km,List.map_cons,List.map_nil,List.getD_cons_zero,List.getD_cons_succ,List.getD_nil]
       ·have km:=key 7 rfl;simp -dsimp -implicitDefEqProofs only[go_sem,seval,he,hd,km,List.map_cons,List.map_nil,List.getD_cons_zero,List.getD_cons_succ,List.getD_nil]
       ·have km:=key 15 rfl;simp -dsimp -implicitDefEqProofs only[go_sem,seval,he,hd,km,List.map_cons,List.map_nil,List.getD_cons_zero,List.getD_cons_succ,List.getD_nil]
       ·have km:=key 31 rfl;simp -dsimp -implicitDefEqProofs only[go_sem,seval,he,hd,km,List.map_cons,List.map_nil,List.getD_cons_zero,List.getD_cons_succ,List.getD_nil]
       ·have km:=key 63 rfl;simp -dsimp -implicitDefEqProofs only[go_sem,seval,he,hd,km,List.map_cons,List.map_nil,List.getD_cons_zero,List.getD_cons_succ,List.getD_nil]
       ·have km:=key 127 rfl;simp -dsimp -implicitDefEqProofs only[go_sem,seval,he,hd,km,List.map_cons,List.map_nil,List.getD_cons_zero,List.getD_cons_succ,List.getD_nil]
       ·have km:=key 255 rfl;simp -dsimp -implicitDefEqProofs only[go_sem,seval,he,hd,km,List.map_cons,List.map_nil,List.getD_cons_zero,List.getD_cons_succ,List.getD_nil]
      ·exfalso;simp at hl3
end Rg
end
section
namespace Rg
open Go
theorem evalP_den (e:Expr) (old now:List Int):Den Γ G 27 [(.agg [.t (ti (e).op),.t (ti (e).w),.t (ti (e).n),.t (.sl ((e).kids.map (Expr.enc)))]),.t (ints old),.t (ints now)]=some (vi (e.eval old now)):=by
 (refine den_ofY Γ27 rfl ?_;dsimp only[f27])
 have h1:=wellFormed_den e
 by_cases hf:e.formed=true
 ·have h2:=valueP_den old now 40 e (formed_deep hf)
  simp -dsimp -implicitDefEqProofs only[go_sem,seval,h1,h2,hf]
  simp[Expr.eval,hf]
 ·have hf:e.formed=false:=by simpa using hf
  simp -dsimp -implicitDefEqProofs only[go_sem,seval,h1,hf]
  simp[Expr.eval,hf]
def inR (i n:Int):Bool:=decide (0<=i/\i<n)
theorem below_den (i n:Int):Den Γ G 96 [vi i,vi n]=some (vb (inR i n)):=by
 (refine den_ofY Γ96 rfl ?_;dsimp only[f96])
 simp -dsimp -implicitDefEqProofs only[go_sem,seval]
 refine csplit (fun h=> ?_) (fun h=> ?_)<;>(try simp only[bools]at h)<;>(try simp -dsimp -implicitDefEqProofs only[go_sem,seval, *])
 ·simp[inR];omega
 ·simp[inR];omega
theorem in_den (i n:Int):Den Γ G 110 [vi i,vi n]=some (vb (inR i n)):=by
 (refine den_ofY Γ110 rfl ?_;dsimp only[f110])
 simp -dsimp -implicitDefEqProofs only[go_sem,seval]
 refine csplit (fun h=> ?_) (fun h=> ?_)<;>(try simp only[bools]at h)<;>(try simp -dsimp -implicitDefEqProofs only[go_sem,seval, *])
 ·simp[inR];omega
 ·simp[inR];omega
def Expr.absent (e:Expr):Bool:=decide (e.op=0/\e.w=0/\e.n=0/\e.kids=[])
theorem absentP_den (e:Expr):Den Γ G 98 [(.agg [.t (ti (e).op),.t (ti (e).w),.t (ti (e).n),.t (.sl ((e).kids.map (Expr.enc)))])]=some (vb e.absent):=by
 (refine den_ofY Γ98 rfl ?_;dsimp only[f98])
 simp -dsimp -implicitDefEqProofs only[go_sem,seval]
 repeat'(refine csplit (fun h=> ?_) (fun h=> ?_)<;>(try simp only[bools]at h)<;>(try simp -dsimp -implicitDefEqProofs only[go_sem,seval, *]))
 all_goals(simp[Expr.absent, *])
theorem absentR_den (e:Expr):Den Γ G 111 [(.agg [.t (ti (e).op),.t (ti (e).w),.t (ti (e).n),.t (.sl ((e).kids.map (Expr.enc)))])]=some (vb e.absent):=by
 (refine den_ofY Γ111 rfl ?_;dsimp only[f111])
 simp -dsimp -implicitDefEqProofs only[go_sem,seval]
 repeat'(refine csplit (fun h=> ?_) (fun h=> ?_)<;>(try simp only[bools]at h)<;>(try simp -dsimp -implicitDefEqProofs only[go_sem,seval, *]))
 all_goals(simp[Expr.absent, *])
def Expr.one (e:Expr):Bool:=decide (e.op=1/\e.w=1/\e.n=1/\e.kids=[])
theorem one_den (e:Expr):Den Γ G 166 [(.agg [.t (ti (e).op),.t (ti (e).w),.t (ti (e).n),.t (.sl ((e).kids.map (Expr.enc)))])]=some (vb e.one):=by
 (refine den_ofY Γ166 rfl ?_;dsimp only[f166])
 simp -dsimp -implicitDefEqProofs only[go_sem,seval]
 repeat'(refine csplit (fun h=> ?_) (fun h=> ?_)<;>(try simp only[bools]at h)<;>(try simp -dsimp -implicitDefEqProofs only[go_sem,seval, *]))
 all_goals(simp[Expr.one, *])
def rising (l:List Int):Bool:=(List.range (l.length-1)).all fun i=>decide (l.getD i 0<l.getD (i+1) 0)
theorem rising_no {l:List Int} {i:Nat} (h:i+1<l.length) (h2: ¬l.getD i 0<l.getD (i+1) 0):rising l=false:=
 all_false_of (List.mem_range.2 (by omega)) (decide_eq_false h2)
theorem rising_yes {l:List Int} (h: ∀j,j+1<l.length->l.getD j 0<l.getD (j+1) 0):rising l=true:=by
 simp only[rising,List.all_eq_true,List.mem_range,decide_eq_true_eq]
 exact fun j hj=>h j (by omega)
theorem rising_den (l:List Int) (hl:l.length<2^50):Den Γ G 113 [.t (ints l)]=some (vb (rising l)):=by
 (refine den_ofY Γ113 rfl ?_;dsimp only[f113])
 simp -dsimp -implicitDefEqProofs only[go_sem,seval]
 refine loopY 1048572 (l.length-1) (fun i f=>(f 3).v=vi ((i+1:Nat):Int)/\ ∀j<i,l.getD j 0<l.getD (j+1) 0) rfl rfl ⟨by simp -dsimp -implicitDefEqProofs only[go_sem,seval],by simp⟩ ?_
 rintro i f u kk bb hi ⟨h3,hall⟩
 have hw:=wrapS (i+1) (by omega)
 have hw2:IntKind.i64.wrap (((i+1:Nat):Int)-1)=(i:Int):=by rw[wrap64 (by omega)];omega
 simp -dsimp -implicitDefEqProofs only[go_sem,seval,h3]
 refine csplit (fun h=> ?_) (fun h=> ?_)<;>(try simp only[bools]at h)<;>(try simp -dsimp -implicitDefEqProofs only[go_sem,seval, *])
 ·have hlt:i+1<l.length:=by omega
  have hx:l[i+1]? =some l[i+1]:=List.getElem?_eq_getElem hlt
  have hy:l[i]? =some l[i]:=List.getElem?_eq_getElem (by omega)
  have gx:l.getD (i+1) 0=l[i+1]:=by simp[List.getD,hx]
  have gy:l.getD i 0=l[i]:=by simp[List.getD,hy]
  simp -dsimp -implicitDefEqProofs only[go_sem,seval,h3,hx,hy,hw2]
  refine csplit (fun h=> ?_) (fun h=> ?_)<;>(try simp only[bools]at h)<;>(try simp -dsimp -implicitDefEqProofs only[go_sem,seval, *])
  ·have:rising l=false:=rising_no hlt (by rw[gx,gy];omega)
   rw[this]
  ·refine⟨by omega,by simp -dsimp -implicitDefEqProofs only[go_sem,seval,hw],fun j hj=> ?_⟩
   by_cases hji:j=i
   ·subst hji;rw[gx,gy];omega
   ·exact hall j (by omega)
 ·have:rising l=true:=rising_yes fun j hj=>hall j (by omega)
  rw[this]
theorem increasing_den (l:List Int) (hl:l.length<2^50):Den Γ G 101 [.t (ints l)]=some (vb (rising l)):=by
 (refine den_ofY Γ101 rfl ?_;dsimp only[f101])
 simp -dsimp -implicitDefEqProofs only[go_sem,seval]
 refine loopY 1048572 (l.length-1) (fun i f=>(f 3).v=vi ((i+1:Nat):Int)/\ ∀j<i,l.getD j 0<l.getD (j+1) 0) rfl rfl ⟨by simp -dsimp -implicitDefEqProofs only[go_sem,seval],by simp⟩ ?_
 rintro i f u kk bb hi ⟨h3,hall⟩
 have hw:=wrapS (i+1) (by omega)
 have hw2:IntKind.i64.wrap (((i+1:Nat):Int)-1)=(i:Int):=by rw[wrap64 (by omega)];omega
 simp -dsimp -implicitDefEqProofs only[go_sem,seval,h3]
 refine csplit (fun h=> ?_) (fun h=> ?_)<;>(try simp only[bools]at h)<;>(try simp -dsimp -implicitDefEqProofs only[go_sem,seval, *])
 ·have hlt:i+1<l.length:=by omega
  have hx:l[i+1]? =some l[i+1]:=List.getElem?_eq_getElem hlt
  have hy:l[i]? =some l[i]:=List.getElem?_eq_getElem (by omega)
  have gx:l.getD (i+1) 0=l[i+1]:=by simp[List.getD,hx]
  have gy:l.getD i 0=l[i]:=by simp[List.getD,hy]
  simp -dsimp -implicitDefEqProofs only[go_sem,seval,h3,hx,hy,hw2]
  refine csplit (fun h=> ?_) (fun h=> ?_)<;>(try simp only[bools]at h)<;>(try simp -dsimp -implicitDefEqProofs only[go_sem,seval, *])
  ·have:rising l=false:=rising_no hlt (by rw[gx,gy];omega)
   rw[this]
  ·refine⟨by omega,by simp -dsimp -implicitDefEqProofs only[go_sem,seval,hw],fun j hj=> ?_⟩
   by_cases hji:j=i
   ·subst hji;rw[gx,gy];omega
   ·exact hall j (by omega)
 ·have:rising l=true:=rising_yes fun j hj=>hall j (by omega)
  rw[this]
def byteOk (b:ByteArray) (i:Nat):Bool:=match b[i]? with
 | some c=>decide (33<=c.toNat/\c.toNat<=126)
 | none=>false
def isLabel (b:ByteArray):Bool:=decide (1<=b.size/\b.size<=64)&&(List.range b.size).all (byteOk b)
theorem label_no {b:ByteArray} {i:Nat} (h:i<b.size) (h2:byteOk b i=false):isLabel b=false:=by
 rw[isLabel,all_false_of (List.mem_range.2 h) h2,Bool.and_false]
theorem byte_get {b:ByteArray} {i:Nat} (h:i<b.size): ∃c,b[i]? =some c:=⟨b[i],by simp[h]⟩
theorem labelP_den (b:ByteArray):Den Γ G 95 [.t (.str b)]=some (vb (isLabel b)):=by
 (refine den_ofY Γ95 rfl ?_;dsimp only[f95])
 simp -dsimp -implicitDefEqProofs only[go_sem,seval]
 refine csplit (fun h=> ?_) (fun h=> ?_)<;>(try simp only[bools]at h)<;>(try simp -dsimp -implicitDefEqProofs only[go_sem,seval, *])
 ·have : ¬(1<=b.size/\b.size<=64):=by omega
  simp[isLabel,this]
 ·refine csplit (fun h=> ?_) (fun h=> ?_)<;>(try simp only[bools]at h)<;>(try simp -dsimp -implicitDefEqProofs only[go_sem,seval, *])
  ·have : ¬(1<=b.size/\b.size<=64):=by omega
   simp[isLabel,this]
  ·have hsz:1<=b.size/\b.size<=64:=by omega
   refine loopY 268419084 b.size (fun i f=>(f 14).v=vi i/\ ∀j<i,byteOk b j=true) rfl rfl ⟨by simp -dsimp -implicitDefEqProofs only[go_sem,seval],by simp⟩ ?_
   rintro i f u kk bb hi ⟨h14,hall⟩
   have hw:=wrapS i (by omega)
   simp -dsimp -implicitDefEqProofs only[go_sem,seval,h14]
   refine csplit (fun h=> ?_) (fun h=> ?_)<;>(try simp only[bools]at h)<;>(try simp -dsimp -implicitDefEqProofs only[go_sem,seval, *])
   ·obtain⟨c,hc⟩:=byte_get ‹i<b.size›
    simp -dsimp -implicitDefEqProofs only[go_sem,seval,h14,hc]
    repeat'(refine csplit (fun h=> ?_) (fun h=> ?_)<;>(try simp only[bools]at h)<;>(try simp -dsimp -implicitDefEqProofs only[go_sem,seval, *]))
    ·rw[label_no ‹i<b.size› (by simp[byteOk,hc];omega)]
    ·rw[label_no ‹i<b.size› (by simp[byteOk,hc];omega)]
    ·refine⟨by omega,by simp -dsimp -implicitDefEqProofs only[go_sem,seval,hw],fun j hj=> ?_⟩
     by_cases hji:j=i
     ·subst hji;simp[byteOk,hc];omega
     ·exact hall j (by omega)
   ·have:isLabel b=true:=by
     simp only[isLabel,hsz,and_self,decide_true,Bool.true_and,List.all_eq_true,List.mem_range]
     exact fun j hj=>hall j (by omega)
    rw[this]
theorem labelR_den (b:ByteArray) (hb:b.size<2^50):Den Γ G 109 [.t (.str b)]=some (vb (isLabel b)):=by
 (refine den_ofY Γ109 rfl ?_;dsimp only[f109])
 simp -dsimp -implicitDefEqProofs only[go_sem,seval]
 refine loopY 1048572 b.size (fun i f=>(f 3).v=vi i/\ ∀j<i,byteOk b j=true) rfl rfl ⟨by simp -dsimp -implicitDefEqProofs only[go_sem,seval],by simp⟩ ?_
 rintro i f u kk bb hi ⟨h14,hall⟩
 have hw:=wrapS i (by omega)
 simp -dsimp -implicitDefEqProofs only[go_sem,seval,h14]
 refine csplit (fun h=> ?_) (fun h=> ?_)<;>(try simp only[bools]at h)<;>(try simp -dsimp -implicitDefEqProofs only[go_sem,seval, *])
 ·obtain⟨c,hc⟩:=byte_get ‹i<b.size›
  simp -dsimp -implicitDefEqProofs only[go_sem,seval,h14,hc]
  repeat'(refine csplit (fun h=> ?_) (fun h=> ?_)<;>(try simp only[bools]at h)<;>(try simp -dsimp -implicitDefEqProofs only[go_sem,seval, *]))
  ·rw[label_no ‹i<b.size› (by simp[byteOk,hc];omega)]
  ·rw[label_no ‹i<b.size› (by simp[byteOk,hc];omega)]
  ·refine⟨by omega,by simp -dsimp -implicitDefEqProofs only[go_sem,seval,hw],fun j hj=> ?_⟩
   by_cases hji:j=i
   ·subst hji;simp[byteOk,hc];omega
   ·exact hall j (by omega)
 ·have:(List.range b.size).all (byteOk b)=true:=by
   simp only[List.all_eq_true,List.mem_range]
   exact fun j hj=>hall j (by omega)
  refine csplit (fun h=> ?_) (fun h=> ?_)<;>(try simp only[bools]at h)<;>(try simp -dsimp -implicitDefEqProofs only[go_sem,seval, *])
  ·simp only[isLabel,this,Bool.and_true]
   apply decide_eq_decide.2;omega
  ·simp only[isLabel,this,Bool.and_true]
   exact(decide_eq_false (by omega)).symm
namespace Expr
mutual
def lv:Expr->List Expr
 | .mk o w n []=>[.mk o w n []]
 | .mk o w n (k::ks)=>lv k++lvs ks
def lvs:List Expr->List Expr
 | []=>[]
 | e::r=>lv e++lvs r
end
theorem lvs_eq: ∀l:List Expr,lvs l=l.flatMap lv
 | []=>rfl
 | e::r=>by rw[lvs,lvs_eq r];rfl
theorem lv_eq (e:Expr):lv e=if e.kids=[]then [e]else e.kids.flatMap lv:=by
 obtain⟨o,w,n,ks⟩:=e
 cases ks with
 | nil=>simp[lv,Expr.kids]
 | cons k ks=>simp[lv,lvs_eq,Expr.kids]
end Expr
def Sh (h:Nat->Option O) (v:V) (e:Expr):Prop:=
 v= .t (.ip [ti e.op,ti e.w,ti e.n,.sl (e.kids.map Expr.enc)])\/
 ∃k fz,v= .mp k 0 0/\h k=some (.rows 4 [[.t (ti e.op),.t (ti e.w),.t (ti e.n),.t (.sl (e.kids.map Expr.enc))]] fz)
theorem leaves_den {σ:Type} (g:Nat) (cp:List V) (I:σ->(Nat->Option O)->Prop) (step:σ->Expr->σ) (lc:Expr->Bool)
 (hstep: ∀s h n v x,I s h->x.kids=[]->lc x=true->Sh h v x-> ∃r h' n',DenR Γ G g (v::cp) h n=some (r,h',n')/\I (step s x) h'):
 ∀(e:Expr) (v:V) (s:σ) (h:Nat->Option O) (n:Nat),e.allE (fun x=>lc x&&decide (x.kids.length<=3))=true->I s h->(∀s h,I s h->Sh h v e)->
  ∃r h' n',DenR Γ G 76 [v,.fn g [] cp] h n=some (r,h',n')/\I (e.lv.foldl step s) h':=by
 intro e
 induction e using Expr.ind with
 | _ e ih=>
 intro v s H n hall hI hv
 have hself:=Expr.allE_self hall
 simp only[Bool.and_eq_true,decide_eq_true_eq]at hself
 (refine denR_ofY Γ76 rfl ?_;dsimp only[f76])
 by_cases hk:e.kids=[]
 ·have hsh:=hv s H hI
  have hlv:e.lv=[e]:=by rw[Expr.lv_eq,if_pos hk]
  rw[hlv]
  have hS: ∀n,∃r h' n',DenR Γ G g (v::cp) H n=some (r,h',n')/\I (step s e) h':=fun n=>hstep s H n v e hI hk hself.1 hsh
  rcases hsh with rfl | ⟨k,fz,rfl,hkk⟩
  ·simp only[hk,List.map_nil]at hS
   simp -dsimp -implicitDefEqProofs only[go_sem,seval,hk]
   refine rawK_of (hS _) ?_
   intro r h' n' hI'
   simp -dsimp -implicitDefEqProofs only[go_sem,seval,hk]
   refine wL_step ?_
   simp -dsimp -implicitDefEqProofs only[go_sem,seval]
   exact hI'
  ·simp -dsimp -implicitDefEqProofs only[go_sem,seval,hk,hkk]
   refine rawK_of (hS _) ?_
   intro r h' n' hI'
   have:=hv _ _ hI'
   rcases this with h0 | ⟨k',fz',h0,hkk'⟩
   ·cases h0
   ·cases h0
    simp -dsimp -implicitDefEqProofs only[go_sem,seval,hk,hkk']
    refine wL_step ?_
    simp -dsimp -implicitDefEqProofs only[go_sem,seval]
    exact hI'
 ·have hlv:e.lv=e.kids.flatMap Expr.lv:=by rw[Expr.lv_eq,if_neg hk]
  have hpos: ¬e.kids.length=0:=by simpa using hk
  have hpos': ¬(e.kids.length:Int)=0:=by omega
  rw[hlv]
  have hend: ∀i,i=e.kids.length->(e.kids.take i).flatMap Expr.lv=e.kids.flatMap Expr.lv:=by rintro i rfl;rw[List.take_length]
  rcases hv s H hI with rfl | ⟨k,fz,rfl,hkk⟩
  ·simp -dsimp -implicitDefEqProofs only[go_sem,seval,hpos']
   refine loopYH 2146959376 e.kids.length (fun i f hh x=>(f 19).v=vi i/\I (((e.kids.take i).flatMap Expr.lv).foldl step s) hh) rfl ⟨by simp -dsimp -implicitDefEqProofs only[go_sem,seval],by simpa using hI⟩ ?_
   rintro i f u hh x bs hi ⟨h19,hI'⟩
   have hwi:=wrapS i (by omega)
   simp -dsimp -implicitDefEqProofs only[go_sem,seval,h19]
   refine csplit (fun h=> ?_) (fun h=> ?_)<;>(try simp only[bools]at h)<;>(try simp -dsimp -implicitDefEqProofs only[go_sem,seval, *])
   ·obtain⟨y,hy,hm⟩:=get_of ‹i<e.kids.length›
    simp -dsimp -implicitDefEqProofs only[go_sem,seval,h19,hy]
    refine rawK_of (ih y hm _ _ _ _ (Expr.allE_kid hall hm) hI' (fun _ _ _=> .inl rfl)) ?_
    intro r h' n' hI2
    simp -dsimp -implicitDefEqProofs only[go_sem,seval,h19]
    refine⟨by omega,by simp -dsimp -implicitDefEqProofs only[go_sem,seval,hwi],?_⟩
    rw[take_succ_of hy,List.flatMap_append,List.foldl_append]
    simpa using hI2
   ·rw[hend i (by omega)]at hI'
    exact hI'
  ·simp -dsimp -implicitDefEqProofs only[go_sem,seval,hpos',hkk]
   refine loopYH 2146959376 e.kids.length (fun i f hh x=>(f 19).v=vi i/\I (((e.kids.take i).flatMap Expr.lv).foldl step s) hh) rfl ⟨by simp -dsimp -implicitDefEqProofs only[go_sem,seval],by simpa using hI⟩ ?_
   rintro i f u hh x bs hi ⟨h19,hI'⟩
   have hwi:=wrapS i (by omega)
   have hkk2: ∃fz',hh k=some (.rows 4 [[.t (ti e.op),.t (ti e.w),.t (ti e.n),.t (.sl (e.kids.map Expr.enc))]] fz'):=by
    rcases hv _ _ hI' with h0 | ⟨k',fz',h0,hkk'⟩
    ·cases h0
    ·cases h0;exact⟨fz',hkk'⟩
   obtain⟨fz',hkk2⟩:=hkk2
   simp -dsimp -implicitDefEqProofs only[go_sem,seval,h19]
   refine csplit (fun h=> ?_) (fun h=> ?_)<;>(try simp only[bools]at h)<;>(try simp -dsimp -implicitDefEqProofs only[go_sem,seval, *])
   ·obtain⟨y,hy,hm⟩:=get_of ‹i<e.kids.length›
    simp -dsimp -implicitDefEqProofs only[go_sem,seval,h19,hy,hkk2]
    refine rawK_of (ih y hm _ _ _ _ (Expr.allE_kid hall hm) hI' (fun _ _ _=> .inl rfl)) ?_
    intro r h' n' hI2
    simp -dsimp -implicitDefEqProofs only[go_sem,seval,h19]
    refine⟨by omega,by simp -dsimp -implicitDefEqProofs only[go_sem,seval,hwi],?_⟩
    rw[take_succ_of hy,List.flatMap_append,List.foldl_append]
    simpa using hI2
   ·rw[hend i (by omega)]at hI'
    exact hI'
end Rg
end
section
-- FULL
namespace Rg
open Go
def lcV (x:Expr):Bool:=decide (0<=x.n/\(x.kids=[]->x.op=1\/x.op=2\/x.op=3))
def IV (cells:List Cell) (pair:Bool) (k3 k4 k5 k7:Nat) (e:Expr) (s:Bool) (h:Nat->Option O):Prop:=
 h k7=some (.rows 1 [[vb s]] false)/\h k4=some (.rows 1 [[.t (.sl (cells.map Cell.enc))]] false)/\h k5=some (.rows 1 [[vb pair]] false)/\
 h k3=some (.rows 4 [[.t (ti e.op),.t (ti e.w),.t (ti e.n),.t (.sl (e.kids.map Expr.enc))]] false)
theorem valid1_den (cells:List Cell) (pair:Bool) (k3 k4 k5 k7:Nat) (e:Expr) (h4:k4≠k7) (h5:k5≠k7) (h3:k3≠k7) (s:Bool) (H:Nat->Option O) (n:Nat) (v:V) (x:Expr)
 (hI:IV cells pair k3 k4 k5 k7 e s H) (hk:x.kids=[]) (hl:lcV x=true) (hs:Sh H v x):
 ∃r h' n',DenR Γ G 136 [v,.mp k4 0 0,.mp k5 0 0,.mp k7 0 0] H n=some (r,h',n')/\IV cells pair k3 k4 k5 k7 e (s&&leafOk cells pair x) h':=by
 obtain⟨i7,i4,i5,i3⟩:=hI
 simp only[lcV,decide_eq_true_eq]at hl
 obtain⟨hn0,hop⟩:=hl
 have hop:=hop hk
 (refine denR_ofY Γ136 rfl ?_;dsimp only[f136])
 have yes: ∀h',h'=H->leafOk cells pair x=true->IV cells pair k3 k4 k5 k7 e (s&&leafOk cells pair x) h':=fun h' he hh=>by
  rw[hh,Bool.and_true,he];exact⟨i7,i4,i5,i3⟩
 have no: ∀h',h'=updC H k7 (some (.rows 1 [[vb false]] false))->leafOk cells pair x=false->IV cells pair k3 k4 k5 k7 e (s&&leafOk cells pair x) h':=fun h' he hh=>by
  rw[hh,Bool.and_false,he]
  refine⟨by simp[updC_at],by simp[updC_at,h4,i4],by simp[updC_at,h5,i5],by simp[updC_at,h3,i3]⟩
 rcases hc:cells[x.n.toNat]? with _ | c
 ·have hge:x.n>=(cells.length:Int):=by rw[List.getElem?_eq_none_iff]at hc;omega
  rcases hs with rfl | ⟨k,fz,rfl,hkk⟩
  ·rcases hop with ho | ho | ho
   all_goals(
    simp -dsimp -implicitDefEqProofs [go_sem,i7,i4,i5,ho,hge]
    repeat'(refine csplit (fun h=> ?_) (fun h=> ?_)<;>(try simp only[bools]at h)<;>(try simp -dsimp -implicitDefEqProofs [go_sem, *]))
    all_goals(first | exact no _ (by simp -dsimp -implicitDefEqProofs [go_sem]) (by simp[leafOk,ho,hc]) | exact yes _ rfl (by simp[leafOk,ho,hc])))
  ·rcases hop with ho | ho | ho
   all_goals(
    simp -dsimp -implicitDefEqProofs [go_sem,i7,i4,i5,ho,hge,hkk]
    repeat'(refine csplit (fun h=> ?_) (fun h=> ?_)<;>(try simp only[bools]at h)<;>(try simp -dsimp -implicitDefEqProofs [go_sem, *]))
    all_goals(first | exact no _ (by simp -dsimp -implicitDefEqProofs [go_sem]) (by simp[leafOk,ho,hc]) | exact yes _ rfl (by simp[leafOk,ho,hc])))
 ·have hge: ¬x.n>=(cells.length:Int):=by
   have:=(List.getElem?_eq_some_iff.1 hc).1;omega
  rcases hs with rfl | ⟨k,fz,rfl,hkk⟩
  ·rcases hop with ho | ho | ho
   all_goals(
    simp -dsimp -implicitDefEqProofs [go_sem,i7,i4,i5,ho,hge,hc,hn0]
    repeat'(refine csplit (fun h=> ?_) (fun h=> ?_)<;>(try simp only[bools]at h)<;>(try simp -dsimp -implicitDefEqProofs [go_sem, *]))
    all_goals(first | exact no _ (by simp -dsimp -implicitDefEqProofs [go_sem]) (by simp[leafOk, *]) | exact yes _ rfl (by simp[leafOk, *])))
  ·rcases hop with ho | ho | ho
   all_goals(
    simp -dsimp -implicitDefEqProofs [go_sem,i7,i4,i5,ho,hge,hc,hn0,hkk]
    repeat'(refine csplit (fun h=> ?_) (fun h=> ?_)<;>(try simp only[bools]at h)<;>(try simp -dsimp -implicitDefEqProofs [go_sem, *]))
    all_goals(first | exact no _ (by simp -dsimp -implicitDefEqProofs [go_sem]) (by simp[leafOk, *]) | exact yes _ rfl (by simp[leafOk, *])))
theorem foldl_and (p:Expr->Bool): ∀(l:List Expr) (s:Bool),l.foldl (fun s x=>s&&p x) s=(s&&l.all p)
 | [],s=>by simp
 | x::l,s=>by simp only[List.foldl_cons,foldl_and p l,List.all_cons,Bool.and_assoc]
theorem lv_all {p:Expr->Bool} (hp: ∀x:Expr,x.kids≠[]->nodeOk x=true->p x=true) (d:Nat): ∀e:Expr,e.deep d=true->e.allE p=e.lv.all p:=by
 induction d with
 | zero=>intro e h;simp[Expr.deep]at h
 | succ d ih=>
   intro e h
   rw[Expr.allE_eq,Expr.lv_eq]
   split
   ·rename_i hk;rw[hk];simp
   ·rename_i hk
    rw[hp e hk (deep_node h),Bool.true_and]
    have : ∀k∈e.kids,k.allE p=k.lv.all p:=fun k hk=>ih k (deep_kid h hk)
    generalize e.kids=ks at this
    induction ks with
    | nil=>rfl
    | cons k ks ih2=>
      simp only[List.all_cons,List.flatMap_cons,List.all_append]
      rw[this k (by simp),ih2 (fun x hx=>this x (by simp[hx]))]
theorem kids_op {x:Expr} (hk:x.kids≠[]) (h:nodeOk x=true):4<=x.op:=by
 have ha:=node_arity h
 have:0<x.kids.length:=List.length_pos_iff.2 hk
 unfold arity at ha;grind
theorem leafOk_kids (cells:List Cell) (pair:Bool) {x:Expr} (hk:x.kids≠[]) (h:nodeOk x=true):leafOk cells pair x=true:=by
 have:=kids_op hk h
 unfold leafOk
 rw[if_neg (by omega),if_neg (by omega)]
theorem deep_lc (d:Nat): ∀e:Expr,e.deep d=true->e.allE (fun x=>lcV x&&decide (x.kids.length<=3))=true:=by
 induction d with
 | zero=>intro e h;simp[Expr.deep]at h
 | succ d ih=>
   intro e h
   rw[Expr.allE_eq]
   have hn:=deep_node h
   simp only[Bool.and_eq_true,List.all_eq_true,decide_eq_true_eq,lcV]
   refine⟨⟨⟨nodeOk_n hn,fun hk=> ?_⟩,nodeOk_len hn⟩,fun k hk=> ?_⟩
   ·have ha:=node_arity hn
    rw[hk]at ha
    rcases op_cases e.op with hh | hh | hh | hh | hh | hh | hh | hh | hh | hh | hh | hh | hh | hh | hop
    ·exact .inl hh
    ·exact .inr (.inl hh)
    ·exact .inr (.inr hh)
    all_goals(try(rw[hh]at ha;simp[arity]at ha;done))
    rw[arity_bad hop]at ha;simp at ha
   ·have:=ih k (deep_kid h hk)
    simpa only[lcV]using this
theorem validP_den (e:Expr) (cells:List Cell) (pair:Bool):Den Γ G 107 [(.agg [.t (ti (e).op),.t (ti (e).w),.t (ti (e).n),.t (.sl ((e).kids.map (Expr.enc)))]),.t (.sl (cells.map Cell.enc)),vb pair]=some (vb (e.valid cells pair)):=by
 (refine den_ofY Γ107 rfl ?_;dsimp only[f107])
 have h1:=wellFormed_den e
 by_cases hf:e.formed=true
 ·simp -dsimp -implicitDefEqProofs [go_sem,h1,hf]
  have hd:=formed_deep hf
  refine rawK_of (leaves_den 136 _ (IV cells pair 0 1 2 7 e) (fun s x=>s&&leafOk cells pair x) lcV (valid1_den cells pair 0 1 2 7 e (by decide) (by decide) (by decide)) e _ true _ _ (deep_lc 40 e hd) ⟨by simp -dsimp -implicitDefEqProofs [go_sem],by simp -dsimp -implicitDefEqProofs [go_sem],by simp -dsimp -implicitDefEqProofs [go_sem],by simp -dsimp -implicitDefEqProofs [go_sem]⟩ (fun s h hI=> .inr ⟨0,false,rfl,hI.2.2.2⟩)) ?_
  rintro r h' n' ⟨i7,_⟩
  simp -dsimp -implicitDefEqProofs [go_sem,i7]
  rw[foldl_and,Expr.valid,hf,lv_all (fun x=>leafOk_kids cells pair) 40 e hd]
 ·have hf:e.formed=false:=by simpa using hf
  simp -dsimp -implicitDefEqProofs [go_sem,h1,hf]
  simp[Expr.valid,hf]
end Rg
end
section
-- APPS
namespace Rg
open Go
def Own (h:Nat->Option O) (x:Nat) (v:V) (sz:Nat) (rows:List (List V)):Prop:=
 (v= .t .nils/\rows=[])\/ ∃k,v= .ms k 0 rows.length/\k<x/\h k=some (.rows sz rows false)
theorem mapM_some_of {α β:Type} (f:α->Option β): ∀(l:List α) (r:List β),(∀i:Nat,∀a,l[i]? =some a-> ∃b,r[i]? =some b/\f a=some b)->l.length=r.length->l.mapM f=some r
 | [],[],_,_=>rfl
 | [],_::_,_,h=>by simp at h
 | _::_,[],_,h=>by simp at h
 | a::l,b::r,h,hl=>by
   rw[List.mapM_cons]
   obtain⟨b',hb,hf⟩:=h 0 a rfl
   simp at hb;subst hb
   rw[hf,mapM_some_of f l r (fun i a' ha=>by simpa using h (i+1) a' (by simpa using ha)) (by simpa using hl)]
   rfl
theorem rows_toT (h:Nat->Option O) (d:Nat) (es:List (List T)) (hn: ∀e∈es,∀t∈e,T.norm t=t):
 (es.map (·.map V.t)).mapM (fun row=>row.mapM (toT h d))=some es:=by
 refine mapM_some_of _ _ _ (fun i a ha=> ?_) (by simp)
 rw[List.getElem?_map]at ha
 cases he:es[i]? with
 | none=>rw[he]at ha;simp at ha
 | some e=>
   rw[he]at ha
   simp only[Option.map_some,Option.some.injEq]at ha
   subst ha
   refine⟨e,rfl,?_⟩
   refine mapM_some_of _ _ _ (fun j b hb=> ?_) (by simp)
   rw[List.getElem?_map]at hb
   cases ht:e[j]? with
   | none=>rw[ht]at hb;simp at hb
   | some t=>
     rw[ht]at hb
     simp only[Option.map_some,Option.some.injEq]at hb
     subst hb
     have:=hn e (List.mem_of_getElem? he) t (List.mem_of_getElem? ht)
     refine⟨t,rfl,?_⟩
     cases d<;>simp[toT,this]
theorem own_reify {h:Nat->Option O} {x:Nat} {v:V} {sz:Nat} {es:List (List T)} (ho:Own h x v sz (es.map (·.map V.t))) (hn: ∀e∈es,∀t∈e,T.norm t=t):
 toT h 1000 v=some (.sl es):=by
 rcases ho with⟨rfl,he⟩ | ⟨k,rfl,hk,hh⟩
 ·have:es=[]:=by simpa using he
  subst this;rfl
 ·rw[toT,hh]
  simp only[rd,Nat.zero_add,Nat.le_refl,if_true,List.drop_zero,List.take_length,Option.bind_eq_bind,Option.bind_some]
  rw[rows_toT h 999 es hn];rfl
theorem ints_norm (l:List Int): ∀e∈(l.map fun n=>[ti n]),∀t∈e,T.norm t=t:=by
 intro e he t ht
 obtain⟨n,_,rfl⟩:=List.mem_map.1 he
 simp at ht;subst ht;rfl
def marked (l:List Bool) (i:Nat):List Int:=((List.range i).filter fun j=>l.getD j false).map fun j:Nat=>(j:Int)
theorem marked_succ (l:List Bool) (i:Nat):marked l (i+1)=marked l i++if l.getD i false then [(i:Int)]else []:=by
 unfold marked
 rw[List.range_succ,List.filter_append,List.map_append]
 cases h:l.getD i false<;>simp only[List.filter_cons,List.filter_nil,h,if_true,if_false,Bool.false_eq_true,List.map_nil,List.map_cons]
def rowsI (l:List Int):List (List V):=(l.map fun n=>[ti n]).map (·.map V.t)
theorem rowsI_len (l:List Int):(rowsI l).length=l.length:=by simp[rowsI]
theorem rowsI_app (l:List Int) (n:Int):rowsI (l++[n])=rowsI l++[[vi n]]:=by simp[rowsI]
theorem rowsI_all (l:List Int):((rowsI l).all fun r=>decide (r.length=1))=true:=by simp[rowsI]
theorem ne_add {k x:Nat} (h:k<x) (j:Nat): ¬k=x+j:=by omega
theorem ne_add2 {k x:Nat} (h:k<x) (j j':Nat): ¬k=x+j+j':=by omega
theorem ne_add3 {k x:Nat} (h:k<x) (j j' j'':Nat): ¬k=x+j+j'+j'':=by omega
theorem marked_den (l:List Bool) (hl:l.length<2^20):Den Γ G 159 [.t (.sl (l.map fun b=>[tb b]))]=some (.t (ints (marked l l.length))):=by
 (refine den_ofY Γ159 rfl ?_;dsimp only[f159])
 simp -dsimp -implicitDefEqProofs only[go_sem,seval,appS]
 refine loopYH 524280 l.length (fun i f h x=>(f 4).v=vi i/\Own h x (f 3).v 1 (rowsI (marked l i))) rfl ⟨by simp -dsimp -implicitDefEqProofs only[go_sem,seval,appS],.inl ⟨by simp -dsimp -implicitDefEqProofs only[go_sem,seval,appS],rfl⟩⟩ ?_
 rintro i f u H x bs hi ⟨h4,hown⟩
 have hw:=wrapS i (by omega)
 simp -dsimp -implicitDefEqProofs only[go_sem,seval,appS,h4]
 refine csplit (fun h=> ?_) (fun h=> ?_)<;>(try simp only[bools]at h)<;>(try simp -dsimp -implicitDefEqProofs only[go_sem,seval,appS, *])
 ·have hx:l[i]? =some l[i]:=List.getElem?_eq_getElem (by omega)
  have gx:l.getD i false=l[i]:=by simp[List.getD,hx]
  simp -dsimp -implicitDefEqProofs only[go_sem,seval,appS,h4,hx]
  refine csplit (fun h=> ?_) (fun h=> ?_)<;>(try simp only[bools]at h)<;>(try simp -dsimp -implicitDefEqProofs only[go_sem,seval,appS, *])
  ·have hms:marked l (i+1)=marked l i++[(i:Int)]:=by rw[marked_succ,gx,h];rfl
   have hml:(marked l i).length<=i:=by
    unfold marked
    rw[List.length_map]
    exact Nat.le_trans (List.length_filter_le _ _) (by simp)
   rcases hown with⟨hv,he⟩ | ⟨k,hv,hk,hh⟩
   ·have he':marked l i=[]:=by simpa[rowsI]using he
    simp -dsimp -implicitDefEqProofs only[go_sem,seval,appS,h4,hv]
    refine⟨by omega,by simp -dsimp -implicitDefEqProofs only[go_sem,seval,appS,hw],?_⟩
    simp -dsimp -implicitDefEqProofs only[go_sem,seval,appS,hms,he',rowsI]
    exact .inr ⟨_,rfl,by omega,by simp -dsimp -implicitDefEqProofs only[go_sem,seval,appS]⟩
   ·have n1:=ne_add hk
    have n2:=ne_add2 hk
    have n3:=ne_add3 hk
    have hra:=rowsI_all (marked l i)
    have hrl:=rowsI_len (marked l i)
    have hle:(rowsI (marked l i)).length<=4294967295:=by omega
    simp -dsimp -implicitDefEqProofs only[go_sem,seval,appS,h4,hv,hh,n1,n2,n3,hra,Nat.le_refl,List.take_length,hle]
    refine⟨by omega,by simp -dsimp -implicitDefEqProofs only[go_sem,seval,appS,hw],?_⟩
    simp -dsimp -implicitDefEqProofs only[go_sem,seval,appS,hms,rowsI_app]
    exact .inr ⟨_,(by rw[List.length_append];rfl),by omega,by simp -dsimp -implicitDefEqProofs only[go_sem,seval,appS]⟩
  ·have hms:marked l (i+1)=marked l i:=by rw[marked_succ,gx,h];simp
   refine⟨by omega,by simp -dsimp -implicitDefEqProofs only[go_sem,seval,appS,hw],?_⟩
   simp -dsimp -implicitDefEqProofs only[go_sem,seval,appS,hms]
   rcases hown with⟨hv,he⟩ | ⟨k,hv,hk,hh⟩
   ·exact .inl ⟨hv,he⟩
   ·exact .inr ⟨k,hv,by omega,hh⟩
 ·have:i=l.length:=by omega
  subst this
  have hr:=own_reify hown (ints_norm _)
  rcases hown with⟨hv,he⟩ | ⟨k,hv,hk,hh⟩
  ·simp -dsimp -implicitDefEqProofs only[go_sem,seval,appS,hv]
   simpa[rowsI]using he
  ·simp -dsimp -implicitDefEqProofs only[go_sem,seval,appS,hv]
   rw[hv,toT]at hr
   simp only[hh,rd,Nat.zero_add,Nat.le_refl,if_true,List.drop_zero,List.take_length,Option.bind_eq_bind,Option.bind_some]at hr⊢
   rw[hr];rfl
end Rg
end
section
-- FULL
namespace Rg
open Go
theorem ownR_den (p:Prog) (c t:Int) (x:Cell) (h0:0<=c) (hc:p.cells[c.toNat]? =some x):Den Γ G 154 [(.agg [.t (.sl ((p).cells.map (Cell.enc))),.t (.sl ((p).modules.map (Contract.enc))),.t (.sl ((p).locks.map (Lock.enc))),.t (.sl ((p).threads.map (Thread.enc)))]),vi c,vi t]=some (vb (decide (x.thread=t))):=by
 (refine den_ofY Γ154 rfl ?_;dsimp only[f154])
 simp -dsimp -implicitDefEqProofs [go_sem,h0,hc]
theorem sharedR_den (p:Prog) (c:Int) (x:Cell) (h0:0<=c) (hc:p.cells[c.toNat]? =some x):Den Γ G 155 [(.agg [.t (.sl ((p).cells.map (Cell.enc))),.t (.sl ((p).modules.map (Contract.enc))),.t (.sl ((p).locks.map (Lock.enc))),.t (.sl ((p).threads.map (Thread.enc)))]),vi c]=some (vb (decide (x.thread= -1))):=by
 (refine den_ofY Γ155 rfl ?_;dsimp only[f155])
 simp -dsimp -implicitDefEqProofs [go_sem,h0,hc]
theorem ghost_den (p:Prog) (c:Int) (x:Cell) (h0:0<=c) (hc:p.cells[c.toNat]? =some x):Den Γ G 163 [(.agg [.t (.sl ((p).cells.map (Cell.enc))),.t (.sl ((p).modules.map (Contract.enc))),.t (.sl ((p).locks.map (Lock.enc))),.t (.sl ((p).threads.map (Thread.enc)))]),vi c]=some (vb x.ghost):=by
 (refine den_ofY Γ163 rfl ?_;dsimp only[f163])
 simp -dsimp -implicitDefEqProofs [go_sem,h0,hc]
def ofThread (p:Prog) (t c:Int):Bool:=decide (0<=c)&&match p.cells[c.toNat]? with
 | some x=>decide (x.thread=t)
 | none=>false
theorem cell_in {p:Prog} {c:Int} (h:inR c p.cells.length=true):0<=c/\ ∃x,p.cells[c.toNat]? =some x:=by
 simp only[inR,decide_eq_true_eq]at h
 exact⟨h.1,_,List.getElem?_eq_getElem (by omega)⟩
theorem ofThread_out {p:Prog} {t c:Int} (h:inR c p.cells.length=false):ofThread p t c=false:=by
 simp only[inR,decide_eq_false_iff_not]at h
 unfold ofThread
 by_cases h0:0<=c
 ·have:p.cells[c.toNat]? =none:=List.getElem?_eq_none_iff.2 (by omega)
  simp[this]
 ·simp[h0]
theorem sharedP_den (p:Prog) (c:Int):Den Γ G 100 [(.agg [.t (.sl ((p).cells.map (Cell.enc))),.t (.sl ((p).modules.map (Contract.enc))),.t (.sl ((p).locks.map (Lock.enc))),.t (.sl ((p).threads.map (Thread.enc)))]),vi c]=some (vb (ofThread p (-1) c)):=by
 (refine den_ofY Γ100 rfl ?_;dsimp only[f100])
 have hb:=below_den c p.cells.length
 simp -dsimp -implicitDefEqProofs [go_sem,hb]
 refine csplit (fun h=> ?_) (fun h=> ?_)<;>(try simp only[bools]at h)<;>(try simp -dsimp -implicitDefEqProofs [go_sem, *])
 ·obtain⟨h0,x,hx⟩:=cell_in h
  simp -dsimp -implicitDefEqProofs [go_sem,h0,hx,h]
  simp[ofThread,h0,hx]
 ·rw[ofThread_out h]
theorem ownP_den (p:Prog) (t c:Int):Den Γ G 146 [vi c,.t (.ip [.sl (p.cells.map Cell.enc),.sl (p.modules.map Contract.enc),.sl (p.locks.map Lock.enc),.sl (p.threads.map Thread.enc)]),.t (.ip [ti t])]=some (vb (ofThread p t c)):=by
 (refine den_ofY Γ146 rfl ?_;dsimp only[f146])
 have hb:=below_den c p.cells.length
 simp -dsimp -implicitDefEqProofs [go_sem,hb]
 refine csplit (fun h=> ?_) (fun h=> ?_)<;>(try simp only[bools]at h)<;>(try simp -dsimp -implicitDefEqProofs [go_sem, *])
 ·obtain⟨h0,x,hx⟩:=cell_in h
  simp -dsimp -implicitDefEqProofs [go_sem,h0,hx,h]
  simp[ofThread,h0,hx]
 ·rw[ofThread_out h]
theorem toT1_trees (h:Nat->Option O): ∀c:List T,(∀t∈c,T.norm t=t)->(c.map V.t).mapM (toT1 h)=some (c.map V.t)
 | [],_=>rfl
 | t::c,hn=>by
   rw[List.map_cons,List.mapM_cons,toT1_trees h c fun x hx=>hn x (by simp[hx])]
   have:toT1 h (.t t)=some (.t t):=by simp[toT1,toT,hn t (by simp)]
   rw[this];rfl
theorem trees_all (c:List T):(c.map V.t).all V.tree=true:=by
 rw[List.all_eq_true];intro v hv;obtain⟨t,_,rfl⟩:=List.mem_map.1 hv;rfl
def IsP (g:Nat) (c:List T) (P:Int->Bool):Prop:=(∀t∈c,T.norm t=t)/\ ∀n:Int,Den Γ G g (vi n::c.map V.t)=some (vb (P n))
def IsF (F:T) (P:Int->Bool):Prop:=T.norm F=F/\ ∃g a b,fnOf (.t F)=some (g,a,b)/\(∀(h:Nat->Option O) (n:Int),(a++[vi n]++b).mapM (toT1 h)=some (a++[vi n]++b))/\
 (∀n:Int,(a++[vi n]++b).all V.tree=true)/\ ∀n:Int,Den Γ G g (a++[vi n]++b)=some (vb (P n))
theorem fnK_of {v:V} {g:Nat} {a b:List V} (hf:fnOf v=some (g,a,b)) (K:Nat->List V->List V->Prop) (w:WK K):fnK (some v) K w=K g a b:=by
 simp only[fnK,hf]
theorem IsP.isF {g:Nat} {c:List T} {P:Int->Bool} (h:IsP g c P):IsF (.fn g [] c) P:=by
 refine⟨rfl,g,[],c.map V.t,rfl,fun hh n=> ?_,fun n=> ?_,fun n=> ?_⟩
 ·have:=toT1_trees hh (ti n::c) (fun t ht=>(List.mem_cons.1 ht).elim (fun e=>by rw[e];rfl) (h.1 t))
  exact this
 ·exact trees_all (ti n::c)
 ·exact h.2 n
theorem isF_fa {g:Nat} {c:List T} {P:Int->Bool} (hn: ∀t∈c,T.norm t=t) (hd: ∀n:Int,Den Γ G g [.agg (c.map V.t),vi n]=some (vb (P n))):IsF (.fa g c) P:=by
 refine⟨rfl,g,[.agg (c.map V.t)],[],rfl,fun hh n=> ?_,fun n=> ?_,fun n=>hd n⟩
 ·clear hd
  have h1:toT1 hh (.agg (c.map V.t))=some (.agg (c.map V.t)):=by
   have:(c.map V.t).mapM (toT hh 1000)=some c:=by
    induction c with
    | nil=>rfl
    | cons t c ih=>rw[List.map_cons,List.mapM_cons,ih fun x hx=>hn x (by simp[hx])];simp[toT,hn t (by simp)]
   simp[toT1,this]
  rw[List.append_nil,List.cons_append,List.nil_append,List.mapM_cons,List.mapM_cons,h1];rfl
 ·simp[V.tree]
theorem index_den (F:T) (P:Int->Bool) (hP:IsF F P) (l:List Int) (hl:l.length<2^50):
 Den Γ G 145 [.t (ints l),.t F]=some (vi (match l.findIdx? P with | some i=>i | none=> -1)):=by
 (refine den_ofY Γ145 rfl ?_;dsimp only[f145])
 obtain⟨_,g,a,b,hf,hm,ha,hd⟩:=hP
 have hK:=fnK_of hf
 simp -dsimp -implicitDefEqProofs only[go_sem,seval]
 refine loopY 524080 l.length (fun i f=>(f 8).v=vi i/\ ∀x∈l.take i,P x=false) rfl rfl ⟨by simp -dsimp -implicitDefEqProofs only[go_sem,seval],by simp⟩ ?_
 rintro i f u kk bb hi ⟨h8,hall⟩
 have hw:=wrapS i (by omega)
 simp -dsimp -implicitDefEqProofs only[go_sem,seval,h8]
 refine csplit (fun h=> ?_) (fun h=> ?_)<;>(try simp only[bools]at h)<;>(try simp -dsimp -implicitDefEqProofs only[go_sem,seval, *])
 ·obtain⟨y,hy,hm'⟩:=get_of ‹i<l.length›
  simp -dsimp -implicitDefEqProofs only[go_sem,seval,h8,hy,hK,hm,ha,hd]
  refine csplit (fun h=> ?_) (fun h=> ?_)<;>(try simp only[bools]at h)<;>(try simp -dsimp -implicitDefEqProofs only[go_sem,seval, *])
  ·have:l.findIdx? P=some i:=by
    rw[List.findIdx?_eq_some_iff_getElem]
    have hlt:i<l.length:= ‹i<l.length›
    have hyl:l[i]=y:=by rw[List.getElem?_eq_getElem hlt]at hy;exact Option.some.inj hy
    refine⟨hlt,by rw[hyl];exact h,fun j hj=> ?_⟩
    have:=hall l[j] (by rw[List.mem_take_iff_getElem];exact⟨j,by omega,rfl⟩)
    simp[this]
   rw[this]
  ·refine⟨by omega,by simp -dsimp -implicitDefEqProofs only[go_sem,seval,hw],fun x hx=> ?_⟩
   rw[take_succ_of hy]at hx
   rcases List.mem_append.1 hx with hx | hx
   ·exact hall x hx
   ·rw[List.mem_singleton.1 hx];exact h
 ·have:i=l.length:=by omega
  subst this
  rw[List.take_length]at hall
  have:l.findIdx? P=none:=by rw[List.findIdx?_eq_none_iff];exact hall
  rw[this]
theorem contains_den (F:T) (P:Int->Bool) (hP:IsF F P) (l:List Int) (hl:l.length<2^50):
 Den Γ G 131 [.t (ints l),.t F]=some (vb (l.any P)):=by
 (refine den_ofY Γ131 rfl ?_;dsimp only[f131])
 have hd:=index_den F P hP l hl
 have hn:=hP.1
 simp only[T.norm]at hn
 simp -dsimp -implicitDefEqProofs only[go_sem,seval,hd,hn]
 cases h:l.findIdx? P with
 | none=>
   rw[List.findIdx?_eq_none_iff]at h
   have:l.any P=false:=by rw[List.any_eq_false];intro x hx;simp[h x hx]
   simp[this]
 | some i=>
   have:l.any P=true:=by
    rw[List.findIdx?_eq_some_iff_getElem]at h
    obtain⟨hi,hp,_⟩:=h
    rw[List.any_eq_true];exact⟨_,List.getElem_mem hi,hp⟩
   simp[this]
theorem within1_den (F:T) (P:Int->Bool) (hP:IsF F P):IsP 132 [.ip [F]] (fun n=> !P n):=by
 refine⟨by simp[T.norm],fun n=> ?_⟩
 (refine den_ofY Γ132 rfl ?_;dsimp only[f132])
 obtain⟨_,g,a,b,hf,hm,ha,hd⟩:=hP
 have hK:=fnK_of hf
 simp -dsimp -implicitDefEqProofs only[go_sem,seval,hK,hm,ha,hd]
theorem within_den (F:T) (P:Int->Bool) (hP:IsF F P) (l:List Int) (hl:l.length<2^50):
 Den Γ G 102 [.t (ints l),.t F]=some (vb (l.all P)):=by
 (refine den_ofY Γ102 rfl ?_;dsimp only[f102])
 have hn:=hP.1
 simp only[T.norm]at hn
 have hd:=contains_den _ _ (within1_den F P hP).isF l hl
 simp -dsimp -implicitDefEqProofs only[go_sem,seval,hd,hn]
 rw[List.all_eq_not_any_not]
end Rg
end
section
-- FULL
namespace Rg
open Go
def progT (p:Prog):T:=.ip [.sl (p.cells.map Cell.enc),.sl (p.modules.map Contract.enc),.sl (p.locks.map Lock.enc),.sl (p.threads.map Thread.enc)]
theorem ownIs (p:Prog) (t:Int):IsP 146 [progT p,.ip [ti t]] (ofThread p t):=⟨by simp[progT,T.norm],fun n=>ownP_den p t n⟩
theorem own_den (p:Prog) (t:Int):Den Γ G 133 [(.agg [.t (.sl ((p).cells.map (Cell.enc))),.t (.sl ((p).modules.map (Contract.enc))),.t (.sl ((p).locks.map (Lock.enc))),.t (.sl ((p).threads.map (Thread.enc)))]),vi t]=some (.t (.fn 146 [] [progT p,.ip [ti t]])):=by
 (refine den_ofY Γ133 rfl ?_;dsimp only[f133])
 simp -dsimp -implicitDefEqProofs [go_sem]
 rfl
def sees (p:Prog) (t c:Int):Bool:=ofThread p (-1) c||ofThread p t c
theorem visible_den (p:Prog) (t:Int):Den Γ G 104 [(.agg [.t (.sl ((p).cells.map (Cell.enc))),.t (.sl ((p).modules.map (Contract.enc))),.t (.sl ((p).locks.map (Lock.enc))),.t (.sl ((p).threads.map (Thread.enc)))]),vi t]=some (.t (.fn 134 [] [progT p,.ip [.fn 146 [] [progT p,.ip [ti t]]]])):=by
 (refine den_ofY Γ104 rfl ?_;dsimp only[f104])
 have h1:=own_den p t
 simp -dsimp -implicitDefEqProofs [go_sem,h1]
 rfl
theorem visibleIs (p:Prog) (t:Int):IsP 134 [progT p,.ip [.fn 146 [] [progT p,.ip [ti t]]]] (sees p t):=by
 refine⟨by simp[progT,T.norm],fun n=> ?_⟩
 (refine den_ofY Γ134 rfl ?_;dsimp only[f134])
 have h1:=sharedP_den p n
 have h2:=ownP_den p t n
 simp -dsimp -implicitDefEqProofs [go_sem,h1,progT]
 refine csplit (fun h=> ?_) (fun h=> ?_)<;>(try simp only[bools]at h)<;>(try simp -dsimp -implicitDefEqProofs [go_sem,progT, *])
 ·simp[sees,h]
 ·simp[sees,h]
end Rg
end
