/- Part of the proof of the laws of the package relyguardlaw07: an abstract machine for the program's functions, what they compute, and that the machine is the program's. No condition. (H34d) -/
import Derived.Test.YtamaecmfhphpeaaGreatDoorPartBA
import Derived.Test.YtamaecmfhphpeaaGreatDoorPartBD
import Derived.Test.YtamaecmfhphpeaaGreatDoorPartBE
import Derived.Test.YtamaecmfhphpeaaGreatDoorPartBB
set_option linter.unusedSimpArgs false
set_option linter.unusedVariables false
section
set_option maxRecDepth 100000
namespace Rg
open Go
theorem bs_get (l:List UInt8) (i:Nat):(bs l)[i]? = l[i]? := by
 by_cases h:i<l.length
 ·have h1:i<(bs l).size:=by rw [bs_size]; exact h
  rw [List.getElem?_eq_getElem h]
  have:(bs l)[i]? = some (bs l)[i]:=by simp [h1]
  rw [this]
  simp [bs,ByteArray.getElem_eq_getElem_data]
 ·rw [List.getElem?_eq_none (by omega)]
  have h1 : ¬ i<(bs l).size:=by rw [bs_size]; exact h
  simp [h1]
def thrLines (l:List Thread):Nat:=(l.map fun x=>1+x.asserts.length+x.steps.length+x.loops.length).sum
theorem thrLines_le (l:List Thread) (h : ∀ x∈l,x.asserts.length<=48/\x.steps.length<=64/\x.loops.length<=8):thrLines l<=l.length*121:=by
 induction l with
 | nil=>simp [thrLines]
 | cons x l ih =>
  have h1:=h x (by simp)
  have h2:=ih fun y hy=>h y (by simp [hy])
  simp only [thrLines,List.map_cons,List.sum_cons,List.length_cons] at h2 ⊢
  omega
theorem thrLines_succ {l:List Thread} {i:Nat} {x:Thread} (h:l[i]? = some x):thrLines (l.take (i+1))=thrLines (l.take i)+(1+x.asserts.length+x.steps.length+x.loops.length):=by
 unfold thrLines; rw [take_succ_of h]; simp
def isNl (c:UInt8):Bool:=decide (c.toNat=10)
theorem nl_succ {l:List UInt8} {i:Nat} {c:UInt8} (h:l[i]? = some c):(l.take (i+1)).countP isNl=(l.take i).countP isNl+if isNl c then 1 else 0:=by
 rw [take_succ_of h,List.countP_append]
 cases hc:isNl c <;> simp [hc]
theorem tf:(true != false)=true:=rfl
theorem lawText_den (p q:Prog) (hl:p.lite7) (hl2:q.lite7):Den Γ G 211 [(.agg [.t (.sl ((p).cells.map (Cell.enc))), .t (.sl ((p).modules.map (Contract.enc))), .t (.sl ((p).locks.map (Lock.enc))), .t (.sl ((p).threads.map (Thread.enc)))]),(.agg [.t (.sl ((q).cells.map (Cell.enc))), .t (.sl ((q).modules.map (Contract.enc))), .t (.sl ((q).locks.map (Lock.enc))), .t (.sl ((q).threads.map (Thread.enc)))])]=some (vb true):=by
 (refine den_ofY Γ211 rfl ?_; dsimp only [f211])
 have h0:=head7_den
 have h1:=small7_den p 60 (by decide)
 have h2:=small7_den q 60 (by decide)
 cases hg:progSmall 60 p
 ·rw [hg] at h1
  simp -dsimp -implicitDefEqProofs only [go_sem,seval,h0,h1,Bool.not_false,Bool.not_true]
 rw [hg] at h1
 cases hg2:progSmall 60 q
 ·rw [hg2] at h2
  simp -dsimp -implicitDefEqProofs only [go_sem,seval,h0,h1,h2,Bool.not_false,Bool.not_true]
 rw [hg2] at h2
 have hsm:=progSmall_of hg
 have hsn:=hsm.sane hl
 have hfew:p.few:=⟨fun m hm=>(hsm.mods m hm).1,fun x hx s hs=>(hsm.steps x hx s hs).1,fun x hx l hl=>(hsm.loops x hx l hl).1⟩
 have hsm2:=progSmall_of hg2
 have hsn2:=hsm2.sane hl2
 have hfew2:q.few:=⟨fun m hm=>(hsm2.mods m hm).1,fun x hx s hs=>(hsm2.steps x hx s hs).1,fun x hx l hl=>(hsm2.loops x hx l hl).1⟩
 have a1:=validP7_den p hsn
 have b1:=validP7_den q hsn2
 have a3:=textProg_den p hsn hfew
 have b3:=textProg_den q hsn2 hfew2
 have nil:((bs []).toList==(bs []).toList)=true:=beq_self_eq_true _
 by_cases e:(validM p).1=0
 rotate_left
 ·have t1:textP p=[]:=by unfold textP; rw [if_neg e]
  rw [t1] at a3
  by_cases fq:(validM q).1=0
  ·simp -dsimp -implicitDefEqProofs only [go_sem,seval,h0,h1,h2,a1,b1,a3,b3,e,fq,nil,Bool.not_false,Bool.not_true,not_false_eq_true,not_true_eq_false,decide_true,decide_false]
  ·have t2:textP q=[]:=by unfold textP; rw [if_neg fq]
   rw [t2] at b3
   simp -dsimp -implicitDefEqProofs only [go_sem,seval,h0,h1,h2,a1,b1,a3,b3,e,fq,nil,Bool.not_false,Bool.not_true,not_false_eq_true,not_true_eq_false,decide_true,decide_false]
 have t1:textP p=textM p:=by unfold textP; rw [if_pos e]
 rw [t1] at a3
 by_cases fq:(validM q).1=0
 rotate_left
 ·have t2:textP q=[]:=by unfold textP; rw [if_neg fq]
  rw [t2] at b3
  simp -dsimp -implicitDefEqProofs only [go_sem,seval,h0,h1,h2,a1,b1,a3,b3,e,fq,nil,Bool.not_false,Bool.not_true,not_false_eq_true,not_true_eq_false,decide_true,decide_false]
 have t2:textP q=textM q:=by unfold textP; rw [if_pos fq]
 rw [t2] at b3
 have n7:=nums7_of (p:=p) e
 have sp:=shown_of (p:=p) e
 obtain ⟨l1,l2,l3,l4⟩:=n7.lens
 have htl : ∀ i,thrLines (p.threads.take i)<=484:=fun i=>by
  have h1:=thrLines_le (p.threads.take i) fun x hx=>by
   have:=n7.thr x (List.mem_of_mem_take hx)
   exact ⟨this.2.1,this.2.2.2.1,this.2.2.2.2.1⟩
  have h2:(p.threads.take i).length<=4:=by simp; omega
  omega
 have w1:IntKind.i64.wrap ((p.cells.length:Int)+p.modules.length)=((p.cells.length+p.modules.length:Nat):Int):=by rw [wrap64 (by omega)]; omega
 have w2:IntKind.i64.wrap (((p.cells.length+p.modules.length:Nat):Int)+p.locks.length)=((p.cells.length+p.modules.length+p.locks.length:Nat):Int):=by rw [wrap64 (by omega)]; omega
 have hcount:=textM_count (p:=p) e
 have hlen:=textM_len (nums_of (p:=p) e) hfew
 have hlen2:(textM p).length<=10000000000:=by simp only [textM,List.length_append]; omega
 simp -dsimp -implicitDefEqProofs only [go_sem,seval,h0,h1,h2,a1,b1,a3,b3,e,fq,w1,w2,Bool.not_false,Bool.not_true,not_false_eq_true,not_true_eq_false,decide_true,decide_false]
 clear h0 h1 h2 a1 b1 a3 b3
 refine loopY 162259276791434431528620848627712 p.threads.length (fun i f=>(f 15).v=vi i/\(f 14).v=vi ((p.cells.length+p.modules.length+p.locks.length+thrLines (p.threads.take i):Nat):Int)) rfl rfl ⟨by simp -dsimp -implicitDefEqProofs only [go_sem,seval],by simp -dsimp -implicitDefEqProofs only [go_sem,seval,List.take_zero]; simp [thrLines]⟩ ?_
 rintro i f u kk bb hi ⟨h15,h14⟩
 have hw:=wrapS i (by omega)
 simp -dsimp -implicitDefEqProofs only [go_sem,seval,h15,h14]
 refine csplit (fun h => ?_) (fun h => ?_) <;> (try rw [h]) <;> (try simp only [bools] at h) <;> (try simp -dsimp -implicitDefEqProofs only [go_sem,seval,h15,h14])
 ·obtain ⟨x,hx,hxm⟩:=get_of ‹i<p.threads.length›
  have hpt:=(sp.thr x hxm).2.1.1
  have hn:=n7.thr x hxm
  have hs:=thrLines_succ hx
  have hb:=htl i
  have v1:IntKind.i64.wrap (1+(x.asserts.length:Int))=((1+x.asserts.length:Nat):Int):=by rw [wrap64 (by omega)]; omega
  have v2:IntKind.i64.wrap (((1+x.asserts.length:Nat):Int)+x.steps.length)=((1+x.asserts.length+x.steps.length:Nat):Int):=by rw [wrap64 (by omega)]; omega
  have v3:IntKind.i64.wrap (((1+x.asserts.length+x.steps.length:Nat):Int)+x.loops.length)=((1+x.asserts.length+x.steps.length+x.loops.length:Nat):Int):=by rw [wrap64 (by omega)]; omega
  have v4:IntKind.i64.wrap (((p.cells.length+p.modules.length+p.locks.length+thrLines (p.threads.take i):Nat):Int)+((1+x.asserts.length+x.steps.length+x.loops.length:Nat):Int)) =
   ((p.cells.length+p.modules.length+p.locks.length+thrLines (p.threads.take (i+1)):Nat):Int):=by rw [wrap64 (by omega)]; omega
  simp -dsimp -implicitDefEqProofs only [go_sem,seval,h15,h14,hx,hpt,v1,v2,v3,v4]
  exact ⟨by omega,by simp -dsimp -implicitDefEqProofs only [go_sem,seval,hw],by simp -dsimp -implicitDefEqProofs only [go_sem,seval]⟩
 have hit:i=p.threads.length:=by omega
 subst hit
 rw [List.take_length] at h14
 have htot:=htl p.threads.length
 rw [List.take_length] at htot
 clear htl h15 hw hi
 generalize hN:p.cells.length+p.modules.length+p.locks.length+thrLines p.threads=N at h14 hcount
 have hcount:(textM p).countP isNl=N:=by rw [<- hN]; exact textM_count (p:=p) e
 have hNl:N<=1000:=by omega
 generalize hT:textM p=L at *
 refine loopY 664451738615628723088511952129966080 L.length (fun i f=>(f 16).v=vi i/\(f 14).v=vi ((N:Int)-((L.take i).countP isNl:Nat))) rfl rfl ⟨by simp -dsimp -implicitDefEqProofs only [go_sem,seval],by simp -dsimp -implicitDefEqProofs only [go_sem,seval,h14,List.take_zero,List.countP_nil]; simp⟩ ?_
 rintro i f u kk bb hi ⟨h16,h14⟩
 have hw:=wrapS i (by omega)
 have hcl:(L.take i).countP isNl<=N:=by rw [<- hcount]; exact List.Sublist.countP_le (List.take_sublist i L)
 simp -dsimp -implicitDefEqProofs only [go_sem,seval,h16,h14]
 refine csplit (fun h => ?_) (fun h => ?_) <;> (try rw [h]) <;> (try simp only [bools] at h) <;> (try simp -dsimp -implicitDefEqProofs only [go_sem,seval,h16,h14])
 ·obtain ⟨c,hc,_⟩:=get_of (show i<L.length by omega)
  have hs:=nl_succ hc
  have hg:(bs L)[i]? = some c:=by rw [bs_get]; exact hc
  have hw2:IntKind.i64.wrap ((N:Int)-((L.take i).countP isNl:Nat)-1)=(N:Int)-((L.take i).countP isNl:Nat)-1:=wrap64 (by omega)
  simp -dsimp -implicitDefEqProofs only [go_sem,seval,h16,h14,hg]
  refine csplit (fun h => ?_) (fun h => ?_) <;> (try rw [h]) <;> (try simp only [bools] at h) <;> (try simp -dsimp -implicitDefEqProofs only [go_sem,seval,h16,h14])
  ·have hy:isNl c=true:=by unfold isNl; simp; omega
   rw [hy,if_pos rfl] at hs
   refine ⟨by omega,by simp -dsimp -implicitDefEqProofs only [go_sem,seval,hw], ?_⟩
   simp -dsimp -implicitDefEqProofs only [go_sem,seval,hw2,hs]
   have:(N:Int)-((L.take i).countP isNl:Nat)-1=(N:Int)-(((L.take i).countP isNl+1:Nat):Int):=by omega
   rw [this]
  ·have hy:isNl c=false:=by unfold isNl; simp; omega
   rw [hy,if_neg (by simp)] at hs
   refine ⟨by omega,by simp -dsimp -implicitDefEqProofs only [go_sem,seval,hw], ?_⟩
   simp -dsimp -implicitDefEqProofs only [go_sem,seval,h14,hs,Nat.add_zero]
 ·have hil:i=L.length:=by omega
  subst hil
  have hfin:((N:Int)-((L.take L.length).countP isNl:Nat)=0)=True:=by rw [List.take_length,hcount]; simp
  have hsame:=same7_den p q hsn.cells hsn.modules hsn.locks hsn.threads (fun m hm=>by
   have:=hsm.mods m hm
   unfold exB; omega) (fun l hl=>by have:=hsm.lcks l hl; unfold exB; omega) (fun x hx=>by
   have h1:=hsm.thr x hx
   refine ⟨by omega,by omega,fun y hy=>by have:=h1.2.2.2.2 y hy; unfold exB; omega,by omega,fun s hs => ?_,by omega,fun l hl => ?_⟩
   ·have:=hsm.steps x hx s hs
    exact ⟨by unfold exB; omega,fun a ha=>by have:=this.2.2 a ha; unfold exB; omega,by omega⟩
   ·have:=hsm.loops x hx l hl
    exact ⟨by unfold exB; omega,by omega⟩)
  have hq:((bs L).toList==(bs (textM q)).toList)=eqv p q:=by
   rw [Bool.eq_iff_iff,bytesEq,eqv_iff,bs_inj, <- hT]
   exact textM_inj e fq
  simp -dsimp -implicitDefEqProofs only [go_sem,seval,hfin,hsame,hq,tf,beq_self_eq_true,decide_true]
end Rg
end
