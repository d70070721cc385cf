/- Part of the proof of the laws of the package relyguardlaw07: an abstract machine for the program's functions, what they compute, and that the machine is the program's. No condition. (H32f H32g) -/
import Derived.Test.YtamaecmfhphpeaaGreatDoorPartBD
import Derived.Test.YtamaecmfhphpeaaGreatDoorPartBC
import Derived.Test.YtamaecmfhphpeaaGreatDoorPartBB
set_option linter.unusedSimpArgs false
set_option linter.unusedVariables false
section
set_option maxRecDepth 100000
namespace Rg
open Go
def stC (a:List Int) (i:Nat):List Int:=(List.range 40).map fun k=>if k<i then a.getD k 0 else 0
def stD (l a b:List Int) (i:Nat):List Int:=(List.range 40).map fun k=>if k<i then (if k<b.length/\(k:Int) ∉ l then b.getD k 0 else a.getD k 0) else 0
theorem stC_len (a:List Int) (i:Nat):(stC a i).length=40:=by simp [stC]
theorem stD_len (l a b:List Int) (i:Nat):(stD l a b i).length=40:=by simp [stD]
theorem stC_succ (a:List Int) (i:Nat):(stC a i).set i (a.getD i 0)=stC a (i+1):=by
 apply List.ext_getElem?
 intro k
 rw [List.getElem?_set]
 unfold stC
 simp only [List.getElem?_map,List.getElem?_range,List.length_map,List.length_range]
 by_cases hk:k<40
 ·by_cases h:i=k
  ·subst h; simp [hk]
  ·have h1:k<i+1<->k<i:=by omega
   simp [h,hk,h1]
 ·by_cases h:i=k
  ·subst h; simp [hk]
  ·simp [h,hk]
theorem stD_succ (l a b:List Int) (i:Nat):(stD l a b i).set i (if i<b.length/\(i:Int) ∉ l then b.getD i 0 else a.getD i 0)=stD l a b (i+1):=by
 apply List.ext_getElem?
 intro k
 rw [List.getElem?_set]
 unfold stD
 simp only [List.getElem?_map,List.getElem?_range,List.length_map,List.length_range]
 by_cases hk:k<40
 ·by_cases h:i=k
  ·subst h; simp [hk]
  ·have h1:k<i+1<->k<i:=by omega
   simp [h,hk,h1]
 ·by_cases h:i=k
  ·subst h; simp [hk]
  ·simp [h,hk]
theorem st_agree (l a b:List Int) (n:Nat) (h:(n:Int)∈l):(stC a 40)[n]? = (stD l a b 40)[n]? := by
 unfold stC stD
 simp only [List.getElem?_map,List.getElem?_range]
 by_cases hn:n<40
 ·simp [hn,h]
 ·simp [hn]
theorem stC_skip {a:List Int} {i:Nat} (h:a.length<=i):stC a (i+1)=stC a i:=by
 unfold stC
 apply List.map_congr_left
 intro k _
 by_cases hk:k<i
 ·simp [hk,Nat.lt_succ_of_lt hk]
 ·by_cases h2:k<i+1
  ·have:a.getD k 0=0:=by rw [List.getD_eq_getElem?_getD,List.getElem?_eq_none (by omega)]; rfl
   simp only [hk,h2,if_true,if_false,this]
  ·simp [hk,h2]
theorem stC_at (a:List Int) {i:Nat} (h:i<40):(stC a (i+1))[i]? = some (a.getD i 0):=by
 unfold stC; simp [h]
theorem rowsI_put (l:List Int) (i:Nat) (x:Int):(rowsI l).set i [vi x]=rowsI (l.set i x):=by simp [rowsI,List.map_set]
theorem rowsI_at {l:List Int} {i:Nat} {x:Int} (h:l[i]? = some x):(rowsI l)[i]? = some [vi x]:=by simp [rowsI,h]
theorem stC_at0 (a:List Int) {i:Nat} (h:i<40):(stC a i)[i]? = some 0:=by
 unfold stC; simp [h]
theorem stD_at0 (l a b:List Int) {i:Nat} (h:i<40):(stD l a b i)[i]? = some 0:=by
 unfold stD; simp [h]
theorem stC_zero (a:List Int):rowsI (stC a 0)=List.replicate 40 [vi 0]:=by simp [stC,rowsI]; rfl
theorem stD_zero (l a b:List Int):rowsI (stD l a b 0)=List.replicate 40 [vi 0]:=by simp [stD,rowsI]; rfl
def exprsM (s:Step) (i:Nat):List Expr:=s.guard::(s.set.take i).map Assign.to
theorem exprsM_len (s:Step) (i:Nat) (hi:i<=s.set.length):(exprsM s i).length=i+1:=by simp [exprsM]; omega
theorem exprsM_succ {s:Step} {i:Nat} {a:Assign} (h:s.set[i]? = some a):exprsM s (i+1)=exprsM s i++[a.to]:=by
 unfold exprsM; rw [take_succ_of h]; simp
theorem exprsM_reads {s:Step} {i:Nat} {e:Expr} (h:e∈exprsM s i) {n:Int} (hn:n∈e.sup 2):n∈readsM s:=by
 unfold exprsM at h
 rcases List.mem_cons.1 h with rfl | h
 ·exact reads_guard hn
 ·obtain ⟨a,ha,rfl⟩:=List.mem_map.1 h
  exact reads_set (List.mem_of_mem_take ha) hn
theorem rowsE_all (l:List Expr):((l.map rowE).all fun r=>decide (r.length=4))=true:=by simp [rowE]
theorem own_intsT {h:Nat->Option O} {k:Nat} {l:List Int} {z:Bool} (hk:h k=some (.rows 1 (rowsI l) z)):toT1 h (.ms k 0 l.length)=some (.t (ints l)):=by
 have e:toT h 1000 (.ms k 0 l.length)=some (ints l):=by
  refine toT_ms (r:=rowsI l) hk (by unfold rd; rw [if_pos (by simp [rowsI]),List.drop_zero,List.take_of_length_le (by simp [rowsI])]) ?_
  exact rows_toT h 999 (l.map fun n=>[ti n]) (ints_norm _)
 simp [toT1,e]
theorem Step.enc_eq (s:Step):s.enc=[ti s.kind,ti s.fr,ti s.to,ti s.guard.op,ti s.guard.w,ti s.guard.n, .sl (s.guard.kids.map Expr.enc), .sl (s.set.map Assign.enc),tb s.release,ti s.target,ti s.module]:=by
 simp [Step.enc,Expr.enc_eq]
theorem lawReading_den (s:Step) (a b:List Int):Den Γ G 215 [(.agg [.t (ti (s).kind), .t (ti (s).fr), .t (ti (s).to), .t (ti ((s).guard).op), .t (ti ((s).guard).w), .t (ti ((s).guard).n), .t (.sl (((s).guard).kids.map Expr.enc)), .t (.sl ((s).set.map Assign.enc)), .t (tb (s).release), .t (ti (s).target), .t (ti (s).module)]), .t (ints a), .t (ints b)]=some (vb true):=by
 (refine den_ofY Γ215 rfl ?_; dsimp only [f215])
 have h0:=head7_den
 have h1:=stepSmall_den s 40 (by decide)
 cases hg:stepSmall 40 s
 ·rw [hg] at h1
  simp -dsimp -implicitDefEqProofs only [go_sem,seval,h0,h1]
 rw [hg] at h1
 have hsl:s.set.length<=40:=by simp only [stepSmall,Bool.and_eq_true,decide_eq_true_eq] at hg; omega
 by_cases ca:(40:Int)<a.length
 ·simp -dsimp -implicitDefEqProofs only [go_sem,seval,h0,h1,ca,decide_true]
 by_cases cb:(40:Int)<b.length
 ·simp -dsimp -implicitDefEqProofs only [go_sem,seval,h0,h1,ca,cb,decide_true,decide_false]
 have hr:=reads_den s (by omega)
 have hw:=writes_den s (by omega)
 have hrs:=sortedM_sorted (s.guard.sup 2++s.set.flatMap fun a=>a.to.sup 2)
 have hws:=sortedM_sorted (s.set.map Assign.cell)
 have hrl:(readsM s).length<2^40:=by
  have h1:=sortedM_len (s.guard.sup 2++s.set.flatMap fun a=>a.to.sup 2)
  have h2:=readsL_len s s.set.length
  simp only [readsL,List.take_length] at h2
  unfold readsM; omega
 have hwl:(writesM s).length<2^40:=by
  have h1:=sortedM_len (s.set.map Assign.cell)
  rw [List.length_map] at h1
  unfold writesM; omega
 simp -dsimp -implicitDefEqProofs only [go_sem,seval,h0,h1,ca,cb,decide_false,hr,hw]
 refine loopY 72057456598975616 ((readsM s).length-1) (fun i f=>(f 10).v=vi ((i+1:Nat):Int)/\(f 7).v=vb true) rfl rfl ⟨by simp -dsimp -implicitDefEqProofs only [go_sem,seval],by simp -dsimp -implicitDefEqProofs only [go_sem,seval]⟩ ?_
 rintro i f u kk bq hi ⟨h10,h7⟩
 have hw1:=wrapS (i+1) (by omega)
 have hwm:IntKind.i64.wrap (((i+1:Nat):Int)-1)=i:=by rw [wrap64 (by omega)]; omega
 simp -dsimp -implicitDefEqProofs only [go_sem,seval,h10,h7]
 refine csplit (fun h => ?_) (fun h => ?_) <;> (try rw [h]) <;> (try simp only [bools] at h) <;> (try simp -dsimp -implicitDefEqProofs only [go_sem,seval,h10,h7])
 ·obtain ⟨x,hx,_⟩:=get_of (show i<(readsM s).length by omega)
  obtain ⟨y,hy,_⟩:=get_of (show i+1<(readsM s).length by omega)
  have hxy:decide (x<y)=true:=by simpa using sorted_step hrs hx hy
  simp -dsimp -implicitDefEqProofs only [go_sem,seval,h10,h7,hwm,hx,hy,hxy,hw1]
  show _/\_
  exact ⟨by omega,by simp -dsimp -implicitDefEqProofs only [go_sem,seval],by simp -dsimp -implicitDefEqProofs only [go_sem,seval]⟩
 clear h10 hw1 hwm hi
 refine loopY 37778859805363123783808 ((writesM s).length-1) (fun i f=>(f 11).v=vi ((i+1:Nat):Int)/\(f 7).v=vb true) rfl rfl ⟨by simp -dsimp -implicitDefEqProofs only [go_sem,seval],by simp -dsimp -implicitDefEqProofs only [go_sem,seval,h7]⟩ ?_
 rintro i f u kk bq hi ⟨h11,h7⟩
 have hw1:=wrapS (i+1) (by omega)
 have hwm:IntKind.i64.wrap (((i+1:Nat):Int)-1)=i:=by rw [wrap64 (by omega)]; omega
 simp -dsimp -implicitDefEqProofs only [go_sem,seval,h11,h7]
 refine csplit (fun h => ?_) (fun h => ?_) <;> (try rw [h]) <;> (try simp only [bools] at h) <;> (try simp -dsimp -implicitDefEqProofs only [go_sem,seval,h11,h7])
 ·obtain ⟨x,hx,_⟩:=get_of (show i<(writesM s).length by omega)
  obtain ⟨y,hy,_⟩:=get_of (show i+1<(writesM s).length by omega)
  have hxy:decide (x<y)=true:=by simpa using sorted_step hws hx hy
  simp -dsimp -implicitDefEqProofs only [go_sem,seval,h11,h7,hwm,hx,hy,hxy,hw1]
  show _/\_
  exact ⟨by omega,by simp -dsimp -implicitDefEqProofs only [go_sem,seval],by simp -dsimp -implicitDefEqProofs only [go_sem,seval]⟩
 clear h11 hw1 hwm hi
 have hAB:kk+4+0<kk+4+2+0:=by omega
 have hB:kk+4+2+0<kk+100:=by omega
 refine loopYH 83076749736406126329036112620699648 40 (fun i f h x=>(f 14).v=vi i/\h (kk+4+0)=some (.rows 1 (rowsI (stC a i)) false)/\h (kk+4+2+0)=some (.rows 1 (rowsI (stD (readsM s) a b i)) false)/\kk+4+2+0<x) rfl ⟨by simp -dsimp -implicitDefEqProofs only [go_sem,seval], ?_, ?_,by simp only [addC_eq]; simp⟩ ?_
 ·rw [stC_zero]; simp only [hpC_cons,hpC_nil,updC_at,Nat.add_zero]; rw [if_neg (by omega)]; simp
 ·rw [stD_zero]; simp only [hpC_cons,hpC_nil,updC_at,Nat.add_zero]; simp
 generalize kk+4+2+0=B at hAB ⊢
 generalize kk+4+0=A at hAB ⊢
 have hAB1:(A=B)=False:=eq_false (by omega)
 have hAB2:(B=A)=False:=eq_false (by omega)
 clear hB
 rintro i f u H q bq hi ⟨h14,hc,hd,hy0⟩
 have hw1:=wrapS i (by omega)
 simp -dsimp -implicitDefEqProofs only [go_sem,seval,h14]
 refine csplit (fun h => ?_) (fun h => ?_) <;> (try rw [h]) <;> (try simp only [bools] at h) <;> (try simp -dsimp -implicitDefEqProofs only [go_sem,seval,h14])
 ·have hi40:i<40:=by omega
  have hi40' : ((i:Int)<40)=True:=eq_true (by omega)
  obtain ⟨v,hv⟩ : ∃ v,v=a.getD i 0:=⟨_,rfl⟩
  obtain ⟨D,hD⟩ : ∃ D,D=stD (readsM s) a b i:=⟨_,rfl⟩
  have hDl:D.length=40:=by rw [hD,stD_len]
  have hCs:(rowsI (stC a i)).set i [vi v]=rowsI (stC a (i+1)):=by rw [rowsI_put,hv,stC_succ]
  have hCg:(rowsI (stC a (i+1)))[i]? = some [vi v]:=rowsI_at (by rw [hv]; exact stC_at a hi40)
  have hC0:(rowsI (stC a i))[i]? = some [vi 0]:=rowsI_at (stC_at0 a hi40)
  have hD0:(rowsI D)[i]? = some [vi 0]:=rowsI_at (by rw [hD]; exact stD_at0 _ a b hi40)
  have hDs:(rowsI D).set i [vi v]=rowsI (D.set i v):=rowsI_put _ _ _
  have hDg:(rowsI (D.set i v))[i]? = some [vi v]:=rowsI_at (by rw [List.getElem?_set]; simp [hDl,hi40])
  have hDs2 : ∀ y,(rowsI (D.set i v)).set i [vi y]=rowsI (D.set i y):=fun y=>by rw [rowsI_put,List.set_set]
  have hsucc:D.set i (if i<b.length/\(i:Int) ∉ readsM s then b.getD i 0 else v)=stD (readsM s) a b (i+1):=by rw [hD,hv]; exact stD_succ _ a b i
  have hcnt:=times_den (readsM s) i hrl
  have hsc:=sorted_count hrs (i:Int)
  rw [<- hD] at hd
  by_cases hia:i<a.length
  ·obtain ⟨x,hx,_⟩:=get_of hia
   have hxv:x=v:=by rw [hv,List.getD_eq_getElem?_getD,hx]; rfl
   subst hxv
   by_cases hib:i<b.length
   ·obtain ⟨y,hy,_⟩:=get_of hib
    have hyb:b.getD i 0=y:=by rw [List.getD_eq_getElem?_getD,hy]; rfl
    by_cases hm:(i:Int)∈readsM s
    ·have hc1:Den Γ G 231 [.t (ints (readsM s)),vi i]=some (vi 1):=by rw [hcnt]; congr 3; unfold readsM at hm ⊢; rw [hsc,if_pos hm]
     rw [if_neg (fun h=>h.2 hm)] at hsucc
     simp -dsimp -implicitDefEqProofs only [go_sem,seval,hia,hx,h14,decide_true,hc,hd,hC0,hCs,hCg,hD0,hDs,hDg,hi40',hAB1,hAB2,hib,hc1,hw1]
     show _/\_
     exact ⟨hi40,by simp -dsimp -implicitDefEqProofs only [go_sem,seval],by simp -dsimp -implicitDefEqProofs only [go_sem,seval,hAB1],by rw [<- hsucc]; simp -dsimp -implicitDefEqProofs only [go_sem,seval],by simp only [addC_eq]; omega⟩
    ·have hc1:Den Γ G 231 [.t (ints (readsM s)),vi i]=some (vi 0):=by rw [hcnt]; congr 3; unfold readsM at hm ⊢; rw [hsc,if_neg hm]
     rw [if_pos ⟨hib,hm⟩,hyb] at hsucc
     simp -dsimp -implicitDefEqProofs only [go_sem,seval,hia,hx,h14,decide_true,hc,hd,hC0,hCs,hCg,hD0,hDs,hDg,hi40',hAB1,hAB2,hib,hc1,hw1,hy,hDs2 y]
     show _/\_
     exact ⟨hi40,by simp -dsimp -implicitDefEqProofs only [go_sem,seval],by simp -dsimp -implicitDefEqProofs only [go_sem,seval,hAB1],by rw [<- hsucc]; simp -dsimp -implicitDefEqProofs only [go_sem,seval],by simp only [addC_eq]; omega⟩
   ·rw [if_neg (fun h=>hib h.1)] at hsucc
    simp -dsimp -implicitDefEqProofs only [go_sem,seval,hia,hx,h14,decide_true,hc,hd,hC0,hCs,hCg,hD0,hDs,hDg,hi40',hAB1,hAB2,hib,decide_false,hw1]
    show _/\_
    exact ⟨hi40,by simp -dsimp -implicitDefEqProofs only [go_sem,seval],by simp -dsimp -implicitDefEqProofs only [go_sem,seval,hAB1],by rw [<- hsucc]; simp -dsimp -implicitDefEqProofs only [go_sem,seval],by simp only [addC_eq]; omega⟩
  ·have hv0:v=0:=by rw [hv,List.getD_eq_getElem?_getD,List.getElem?_eq_none (by omega)]; rfl
   rw [<- stC_skip (by omega)] at hc
   by_cases hib:i<b.length
   ·obtain ⟨y,hy,_⟩:=get_of hib
    have hyb:b.getD i 0=y:=by rw [List.getD_eq_getElem?_getD,hy]; rfl
    by_cases hm:(i:Int)∈readsM s
    ·have hc1:Den Γ G 231 [.t (ints (readsM s)),vi i]=some (vi 1):=by rw [hcnt]; congr 3; unfold readsM at hm ⊢; rw [hsc,if_pos hm]
     rw [if_neg (fun h=>h.2 hm)] at hsucc
     simp -dsimp -implicitDefEqProofs only [go_sem,seval,hia,decide_false,h14,decide_true,hc,hd,hC0,hCs,hCg,hD0,hDs,hDg,hi40',hAB1,hAB2,hib,hc1,hw1]
     show _/\_
     exact ⟨hi40,by simp -dsimp -implicitDefEqProofs only [go_sem,seval],by simp -dsimp -implicitDefEqProofs only [go_sem,seval,hAB1,hc],by rw [<- hsucc]; simp -dsimp -implicitDefEqProofs only [go_sem,seval],by simp only [addC_eq]; omega⟩
    ·have hc1:Den Γ G 231 [.t (ints (readsM s)),vi i]=some (vi 0):=by rw [hcnt]; congr 3; unfold readsM at hm ⊢; rw [hsc,if_neg hm]
     rw [if_pos ⟨hib,hm⟩,hyb] at hsucc
     simp -dsimp -implicitDefEqProofs only [go_sem,seval,hia,decide_false,h14,decide_true,hc,hd,hC0,hCs,hCg,hD0,hDs,hDg,hi40',hAB1,hAB2,hib,hc1,hw1,hy,hDs2 y]
     show _/\_
     exact ⟨hi40,by simp -dsimp -implicitDefEqProofs only [go_sem,seval],by simp -dsimp -implicitDefEqProofs only [go_sem,seval,hAB1,hc],by rw [<- hsucc]; simp -dsimp -implicitDefEqProofs only [go_sem,seval],by simp only [addC_eq]; omega⟩
   ·rw [if_neg (fun h=>hib h.1)] at hsucc
    simp -dsimp -implicitDefEqProofs only [go_sem,seval,hia,decide_false,h14,decide_true,hc,hd,hC0,hCs,hCg,hD0,hDs,hDg,hi40',hAB1,hAB2,hib,decide_false,hw1]
    show _/\_
    exact ⟨hi40,by simp -dsimp -implicitDefEqProofs only [go_sem,seval],by simp -dsimp -implicitDefEqProofs only [go_sem,seval,hAB1,hc],by rw [<- hsucc]; simp -dsimp -implicitDefEqProofs only [go_sem,seval],by simp only [addC_eq]; omega⟩
 ·have:i=40:=by omega
  subst this
  clear h14 hw1 hi
  refine loopYH 178405960923630987239827809729283361907769472 s.set.length (fun i f h x=>(f 16).v=vi i/\(f 7).v=vb true/\(∃ k,(f 15).v = .ms k 0 (i+1)/\B<k/\k<x/\h k=some (.rows 4 ((exprsM s i).map rowE) false))/\h A=some (.rows 1 (rowsI (stC a 40)) false)/\h B=some (.rows 1 (rowsI (stD (readsM s) a b 40)) false)/\B<x) rfl ?_ ?_
  ·have a1:(A=q+2+2)=False:=eq_false (by omega)
   have b1:(B=q+2+2)=False:=eq_false (by omega)
   exact ⟨by simp -dsimp -implicitDefEqProofs only [go_sem,seval],by simp -dsimp -implicitDefEqProofs only [go_sem,seval,h7],⟨_,by simp -dsimp -implicitDefEqProofs only [go_sem,seval]; rfl,by omega,by simp only [addC_eq]; simp; try omega,by simp -dsimp -implicitDefEqProofs only [go_sem,seval]; rfl⟩,by simp -dsimp -implicitDefEqProofs only [go_sem,seval,a1,hc],by simp -dsimp -implicitDefEqProofs only [go_sem,seval,b1,hd],by simp only [addC_eq]; omega⟩
  rintro i f u H q bq hi ⟨h16,h7,⟨k,h15,hk1,hk2,hk3⟩,hc,hd,hy0⟩
  have hw1:=wrapS i (by omega)
  simp -dsimp -implicitDefEqProofs only [go_sem,seval,h16]
  refine csplit (fun h => ?_) (fun h => ?_) <;> (try rw [h]) <;> (try simp only [bools] at h) <;> (try simp -dsimp -implicitDefEqProofs only [go_sem,seval,h16])
  ·obtain ⟨y,hy,hym⟩:=get_of ‹i<s.set.length›
   have hcw:Den Γ G 231 [.t (ints (writesM s)),vi y.cell]=some (vi 1):=by
    rw [times_den _ _ hwl]; congr 3; unfold writesM at *; rw [sorted_count hws,if_pos ((sortedM_mem _ _).2 (List.mem_map.2 ⟨y,hym,rfl⟩))]
   have hel:((exprsM s i).map rowE).length=i+1:=by rw [List.length_map,exprsM_len s i (by omega)]
   have k1:(k=q+5+7)=False:=eq_false (by omega)
   have k2:(i+1<=(exprsM s i).length)=True:=eq_true (by rw [exprsM_len s i (by omega)]; omega)
   have k3:List.take (i+1) ((exprsM s i).map rowE)=(exprsM s i).map rowE:=List.take_of_length_le (by omega)
   simp -dsimp -implicitDefEqProofs only [go_sem,seval,h16,h7,h15,hk3,hy,k1,k2,k3]
   refine putA_appE (a:=(exprsM s i).map rowE) (by simp -dsimp -implicitDefEqProofs only [go_sem,seval,k1,hk3]) (by rw [hel]; simp; omega) (by decide) (by simp) (rowsE_all _) (by simp) ?_
   have happ:(exprsM s i).map rowE++[[.t (ti y.to.op), .t (ti y.to.w), .t (ti y.to.n), .t (.sl (y.to.kids.map Expr.enc))]]=(exprsM s (i+1)).map rowE:=by rw [exprsM_succ hy]; simp [rowE]
   rw [happ,hel]
   simp -dsimp -implicitDefEqProofs only [go_sem,seval,h16,h7,hy,hcw,hw1]
   show _/\_
   have a1:(A=q+5+7)=False:=eq_false (by omega)
   have a2:(A=q+5+8)=False:=eq_false (by omega)
   have a3:(A=k)=False:=eq_false (by omega)
   have b1:(B=q+5+7)=False:=eq_false (by omega)
   have b2:(B=q+5+8)=False:=eq_false (by omega)
   have b3:(B=k)=False:=eq_false (by omega)
   refine ⟨by omega,by simp -dsimp -implicitDefEqProofs only [go_sem,seval],by simp -dsimp -implicitDefEqProofs only [go_sem,seval],⟨_,by simp -dsimp -implicitDefEqProofs only [go_sem,seval]; rfl,by omega,by simp only [addC_eq]; simp; try omega,by simp -dsimp -implicitDefEqProofs only [go_sem,seval]⟩,by simp -dsimp -implicitDefEqProofs only [go_sem,seval,a1,a2,a3,hc],by simp -dsimp -implicitDefEqProofs only [go_sem,seval,b1,b2,b3,hd],by simp only [addC_eq]; omega⟩
  ·have:i=s.set.length:=by omega
   subst this
   clear h16 hw1 hi
   have hel:((exprsM s s.set.length).map rowE).length=s.set.length+1:=by rw [List.length_map,exprsM_len s _ (Nat.le_refl _)]
   refine loopYH 47890485473653065235453359466161415806898705520525376 (s.set.length+1) (fun i f h x=>(f 17).v=vi i/\h k=some (.rows 4 ((exprsM s s.set.length).map rowE) false)/\h A=some (.rows 1 (rowsI (stC a 40)) false)/\h B=some (.rows 1 (rowsI (stD (readsM s) a b 40)) false)) rfl ⟨by simp -dsimp -implicitDefEqProofs only [go_sem,seval],by simp -dsimp -implicitDefEqProofs only [go_sem,seval,hk3],by simp -dsimp -implicitDefEqProofs only [go_sem,seval,hc],by simp -dsimp -implicitDefEqProofs only [go_sem,seval,hd]⟩ ?_
   clear hc hd hk3
   rintro i f2 u H q bq hi ⟨h17,hk3,hc,hd⟩
   have hw1:=wrapS i (by omega)
   have tA:toT1 H (.ms A 0 40)=some (.t (ints (stC a 40))):=by have:=own_intsT hc; rwa [stC_len] at this
   have tB:toT1 H (.ms B 0 40)=some (.t (ints (stD (readsM s) a b 40))):=by have:=own_intsT hd; rwa [stD_len] at this
   simp -dsimp -implicitDefEqProofs only [go_sem,seval,h17,h15,hk3]
   refine csplit (fun h => ?_) (fun h => ?_) <;> (try rw [h]) <;> (try simp only [bools] at h) <;> (try simp -dsimp -implicitDefEqProofs only [go_sem,seval,h17,h15,hk3])
   ·obtain ⟨e,he,hem⟩:=get_of (show i<(exprsM s s.set.length).length by rw [exprsM_len s _ (Nat.le_refl _)]; omega)
    have hre:((exprsM s s.set.length).map rowE)[i]? = some [.t (ti e.op), .t (ti e.w), .t (ti e.n), .t (.sl (e.kids.map Expr.enc))]:=by rw [List.getElem?_map,he]; rfl
    have hfm:=formed_den e
    have hi1:((i:Int)<((s.set.length+1:Nat):Int))=True:=eq_true (by omega)
    have hi2:(i<s.set.length+1)=True:=eq_true (by omega)
    cases hf:e.formed
    ·rw [hf] at hfm
     simp -dsimp -implicitDefEqProofs only [go_sem,seval,h17,h15,hk3,hre,hi1,hi2,hfm,hw1]
     show _/\_
     exact ⟨by omega,by simp -dsimp -implicitDefEqProofs only [go_sem,seval],by simp -dsimp -implicitDefEqProofs only [go_sem,seval,hk3],by simp -dsimp -implicitDefEqProofs only [go_sem,seval,hc],by simp -dsimp -implicitDefEqProofs only [go_sem,seval,hd]⟩
    ·rw [hf] at hfm
     have ev1:=evalP_den e (stC a 40) (stC a 40)
     have ev2:=evalP_den e (stC a 40) (stD (readsM s) a b 40)
     rw [<- eval_reads hf (o:=stC a 40) (m:=stC a 40) (m' := stD (readsM s) a b 40) fun n hn=>st_agree _ a b n (exprsM_reads hem hn)] at ev2
     simp -dsimp -implicitDefEqProofs only [go_sem,seval, ↓tA, ↓tB,h17,h15,hk3,hre,hi1,hi2,hfm,hw1,ev1,ev2]
     show _/\_
     exact ⟨by omega,by simp -dsimp -implicitDefEqProofs only [go_sem,seval],by simp -dsimp -implicitDefEqProofs only [go_sem,seval,hk3],by simp -dsimp -implicitDefEqProofs only [go_sem,seval,hc],by simp -dsimp -implicitDefEqProofs only [go_sem,seval,hd]⟩
   ·simp -dsimp -implicitDefEqProofs only [go_sem,seval,h7]
end Rg
end
section
namespace Rg
open Go
theorem ofThread_iff {p:Prog} {t c:Int}:ofThread p t c=true<->0<=c /\ ∃ x,p.cells[c.toNat]? = some x/\x.thread=t:=by
 unfold ofThread
 cases h:p.cells[c.toNat]? with
 | none=>simp
 | some x=>simp
theorem sees_iff {p:Prog} {t c:Int}:sees p t c=true<->0<=c /\ ∃ x,p.cells[c.toNat]? = some x/\(x.thread = -1\/x.thread=t):=by
 unfold sees
 rw [Bool.or_eq_true,ofThread_iff,ofThread_iff]
 constructor
 ·rintro (⟨h,x,hx,ht⟩ | ⟨h,x,hx,ht⟩)
  ·exact ⟨h,x,hx, .inl ht⟩
  ·exact ⟨h,x,hx, .inr ht⟩
 ·rintro ⟨h,x,hx,ht | ht⟩
  ·exact .inl ⟨h,x,hx,ht⟩
  ·exact .inr ⟨h,x,hx,ht⟩
theorem reads_mem {s:Step} {c:Int}:c∈readsM s<->c∈s.guard.sup 2 \/ ∃ a∈s.set,c∈a.to.sup 2:=by
 unfold readsM; rw [sortedM_mem,List.mem_append,List.mem_flatMap]
theorem writes_mem {s:Step} {c:Int}:c∈writesM s <-> ∃ a∈s.set,a.cell=c:=by
 unfold writesM; rw [sortedM_mem,List.mem_map]
theorem leaf_sup {e:Expr} (hv:e.formed=true) (ho:e.op=2) : ∀ c∈e.sup 2,c=e.n:=by
 intro c hc
 obtain ⟨h0,_,x,hx,hxo,hxn⟩:=sup_mem hc
 have hn:=deep_node (formed_deep hv)
 have hk:e.kids=[]:=by
  by_cases hk:e.kids=[]
  ·exact hk
  ·exact absurd ho (node_inner hn hk).2.1
 rw [Expr.lv_eq,if_pos hk,List.mem_singleton] at hx
 subst hx
 have:=nodeOk_n hn
 omega
theorem leaf_mem {e:Expr} (hv:e.formed=true) (ho:e.op=2):e.n∈e.sup 2:=by
 have hn:=deep_node (formed_deep hv)
 have hk:e.kids=[]:=by
  by_cases hk:e.kids=[]
  ·exact hk
  ·exact absurd ho (node_inner hn hk).2.1
 have hr:0<=e.n/\e.n<32:=by
  simp only [nodeOk,ho] at hn
  split at hn
  ·cases hn
  ·simpa using hn
 exact sup_lv hv (lv_self hk) ho hr.1 hr.2
structure KindFacts (p:Prog) (t:Int) (s:Step):Prop where
 r : ∀ c∈readsM s,sees p t c=true
 w : ∀ c∈writesM s,sees p t c=true
 k1:s.kind=1->(∀ c∈readsM s,ofThread p t c=true) /\ ∀ c∈writesM s,ofThread p t c=true
 k2:s.kind=2->(∃ n∈readsM s,ofThread p (-1) n=true /\ ∀ c∈readsM s,ofThread p (-1) c=true->ofThread p t c=false->c=n)/\(∀ c∈writesM s,ofThread p t c=true)/\writesM s≠[]
 k3:s.kind=3->(∀ c∈readsM s,ofThread p t c=true) /\ ∃ n∈writesM s,ofThread p (-1) n=true/\cellIs p n Cell.ghost=false /\ ∀ c∈writesM s,cellIs p c Cell.ghost=false->c=n
 k5:4<s.kind->readsM s=[]/\writesM s=[]
theorem over_reads {p:Prog} {e:Expr} {sh:Bool} {t c:Int} (h:overOk p e sh t=true) (hc:c∈e.sup 2):mayP p sh t c=true:=by
 unfold overOk at h
 simp only [Bool.and_eq_true,List.all_eq_true] at h
 exact h.2 c hc
theorem own_sees {p:Prog} {t c:Int} (h:ofThread p t c=true):sees p t c=true:=by unfold sees; rw [h,Bool.or_true]
theorem values_reads {p:Prog} {s:Step} {sh:Bool} {t:Int} (h:valuesOk p s sh t=true) : ∀ c∈readsM s,mayP p sh t c=true:=by
 unfold valuesOk at h
 simp only [Bool.and_eq_true,List.all_eq_true] at h
 intro c hc
 rcases reads_mem.1 hc with hc | ⟨a,ha,hc⟩
 ·exact over_reads h.1 hc
 ·exact over_reads (h.2 a ha) hc
theorem kind_facts {p:Prog} {t n:Int} {s:Step} (h:stepErr p t n s=0):KindFacts p t s:=by
 obtain ⟨hb,_,hset,hk⟩:=stepErr_iff.1 h
 have hkind:1<=s.kind/\s.kind<=7:=by
  simp only [stepBad,Bool.or_eq_false_iff,decide_eq_false_iff_not] at hb
  omega
 have hval : ∀ a∈s.set,a.to.valid p.cells false=true:=by
  intro a ha
  obtain ⟨j,hj,rfl⟩:=List.mem_iff_getElem.1 ha
  exact (setErr_iff.1 (hset j _ (List.getElem?_eq_getElem hj))).2.1
 have hfm : ∀ a∈s.set,a.to.formed=true:=by
  intro a ha
  have:=hval a ha
  simp only [Expr.valid,Bool.and_eq_true] at this
  exact this.1
 have hno:s.set=[]->s.guard.one=true->readsM s=[]/\writesM s=[]:=by
  intro h1 h2
  constructor
  ·refine List.eq_nil_iff_forall_not_mem.2 fun c hc => ?_
   rcases reads_mem.1 hc with hc | ⟨a,ha,_⟩
   ·rw [sup_one h2 2 (by decide)] at hc; simp at hc
   ·rw [h1] at ha; simp at ha
  ·refine List.eq_nil_iff_forall_not_mem.2 fun c hc => ?_
   obtain ⟨a,ha,_⟩:=writes_mem.1 hc
   rw [h1] at ha; simp at ha
 have hmF : ∀ c,mayP p false t c=ofThread p t c:=fun c=>rfl
 have hmT : ∀ c,mayP p true t c=sees p t c:=fun c=>rfl
 unfold kindOk at hk
 split at hk
 ·rename_i k1
  simp only [Bool.and_eq_true,List.all_eq_true] at hk
  have hr : ∀ c∈readsM s,ofThread p t c=true:=fun c hc=>values_reads hk.1 c hc
  have hw : ∀ c∈writesM s,ofThread p t c=true:=by
   intro c hc
   obtain ⟨a,ha,rfl⟩:=writes_mem.1 hc
   exact hk.2 a ha
  exact ⟨fun c hc=>own_sees (hr c hc),fun c hc=>own_sees (hw c hc),fun _=>⟨hr,hw⟩,fun h=>by omega,fun h=>by omega,fun h=>by omega⟩
 ·split at hk
  ·rename_i k1 k2
   unfold loadOk at hk
   split at hk
   ·cases hk
   ·rename_i a r hs
    simp only [Bool.and_eq_true,List.all_eq_true,decide_eq_true_eq,Bool.not_eq_true'] at hk
    obtain ⟨⟨⟨⟨⟨⟨h1,h2⟩,h3⟩,h4⟩,h5⟩,h6⟩,h7⟩:=hk
    have ham:a∈s.set:=by rw [hs]; simp
    have hrd : ∀ c∈readsM s,ofThread p t c=true\/c=a.to.n:=by
     intro c hc
     rcases reads_mem.1 hc with hc | ⟨b,hb,hc⟩
     ·exact .inl (over_reads h1 hc)
     ·rw [hs] at hb
      rcases List.mem_cons.1 hb with rfl | hb
      ·exact .inr (leaf_sup (hfm _ ham) h4 c hc)
      ·exact .inl (over_reads (h7 b hb).2 hc)
    have hwr : ∀ c∈writesM s,ofThread p t c=true:=by
     intro c hc
     obtain ⟨b,hb,rfl⟩:=writes_mem.1 hc
     rw [hs] at hb
     rcases List.mem_cons.1 hb with rfl | hb
     ·exact h2
     ·exact (h7 b hb).1.1
    refine ⟨fun c hc => ?_,fun c hc=>own_sees (hwr c hc),fun h=>absurd h k1,fun _=>⟨⟨a.to.n,reads_set ham (leaf_mem (hfm _ ham) h4),h5,fun c hc _ hf => ?_⟩,hwr,fun h => ?_⟩,fun h=>by omega,fun h=>by omega⟩
    ·rcases hrd c hc with h | rfl
     ·exact own_sees h
     ·unfold sees; rw [h5]; rfl
    ·rcases hrd c hc with h | h
     ·rw [hf] at h; cases h
     ·exact h
    ·have:=writes_mem.2 ⟨a,ham,rfl⟩
     rw [h] at this; simp at this
  ·split at hk
   ·rename_i k1 k2 k3
    unfold storeOk at hk
    split at hk
    ·cases hk
    ·rename_i a r hs
     simp only [Bool.and_eq_true,List.all_eq_true,Bool.not_eq_true'] at hk
     obtain ⟨⟨⟨h1,h2⟩,h3⟩,h4⟩:=hk
     have ham:a∈s.set:=by rw [hs]; simp
     have hr : ∀ c∈readsM s,ofThread p t c=true:=fun c hc=>values_reads h1 c hc
     refine ⟨fun c hc=>own_sees (hr c hc),fun c hc => ?_,fun h=>absurd h k1,fun h=>absurd h k2,fun _=>⟨hr,a.cell,writes_mem.2 ⟨a,ham,rfl⟩,h2,h3,fun c hc hg => ?_⟩,fun h=>by omega⟩
     ·obtain ⟨b,hb,rfl⟩:=writes_mem.1 hc
      rw [hs] at hb
      rcases List.mem_cons.1 hb with rfl | hb
      ·unfold sees; rw [h2]; rfl
      ·exact (h4 b hb).2
     ·obtain ⟨b,hb,rfl⟩:=writes_mem.1 hc
      rw [hs] at hb
      rcases List.mem_cons.1 hb with rfl | hb
      ·rfl
      ·rw [(h4 b hb).1] at hg; cases hg
   ·split at hk
    ·rename_i k1 k2 k3 k4
     simp only [Bool.and_eq_true,List.all_eq_true] at hk
     refine ⟨fun c hc=>values_reads hk.1 c hc,fun c hc => ?_,fun h=>absurd h k1,fun h=>absurd h k2,fun h=>absurd h k3,fun h=>by omega⟩
     obtain ⟨b,hb,rfl⟩:=writes_mem.1 hc
     exact hk.2 b hb
    ·rename_i k1 k2 k3 k4
     have:readsM s=[]/\writesM s=[]:=by
      split at hk
      ·simp only [Bool.and_eq_true,decide_eq_true_eq] at hk
       exact hno hk.2 hk.1
      ·split at hk
       ·simp only [joinOk,Bool.and_eq_true,decide_eq_true_eq] at hk
        exact hno hk.1.1.1.2 hk.1.1.1.1
       ·simp only [joinOk,Bool.and_eq_true,decide_eq_true_eq] at hk
        exact hno hk.1.1.2 hk.1.1.1
     exact ⟨fun c hc=>(by rw [this.1] at hc; simp at hc),fun c hc=>(by rw [this.2] at hc; simp at hc),fun h=>absurd h k1,fun h=>absurd h k2,fun h=>absurd h k3,fun _=>this⟩
end Rg
end
