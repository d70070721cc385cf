/- Part of the proof of the laws of the package relyguardlaw07: an abstract machine for the program's functions, what they compute, and that the machine is the program's. No condition. (H32e) -/
import Derived.Test.YtamaecmfhphpeaaGreatDoorPartBB
import Derived.Test.YtamaecmfhphpeaaGreatDoorPartBC
set_option linter.unusedSimpArgs false
set_option linter.unusedVariables false
section
namespace Rg
open Go
theorem compactUp_sorted (zs:List Int) (hs:zs.Pairwise (· <= ·)) (m:Nat) (hm:m<=zs.length):(Go.Lib.compactUpTo zs.toArray m).Pairwise (· < ·):=by
 have hget : ∀ i j:Nat,i<=j->j<zs.length->zs.toArray[i]! <= zs.toArray[j]! := by
  intro i j hij hj
  rw [getElem!_pos zs.toArray i (by simp; omega),getElem!_pos zs.toArray j (by simp; omega)]
  simp only [List.getElem_toArray]
  rcases Nat.lt_or_eq_of_le hij with h | h
  ·exact List.pairwise_iff_getElem.1 hs i j (by omega) hj h
  ·subst h; exact Int.le_refl _
 unfold Go.Lib.compactUpTo
 rw [List.pairwise_map]
 have h0:=(List.pairwise_lt_range (n:=m)).filter (Go.Lib.keeps zs.toArray)
 refine h0.imp_of_mem ?_
 intro a b ha hb hab
 have hb1:=List.mem_range.1 (List.mem_filter.1 hb).1
 have hk:=(List.mem_filter.1 hb).2
 have h1:=hget a (b-1) (by omega) (by omega)
 have h2:=hget (b-1) b (by omega) (by omega)
 simp only [Go.Lib.keeps,Bool.or_eq_true,decide_eq_true_eq,bne_iff_ne,ne_eq] at hk
 rcases hk with hk | hk
 ·omega
 ·omega
theorem sortedM_sorted (l:List Int):(sortedM l).Pairwise (· < ·):=by
 unfold sortedM Go.Lib.compact
 refine compactUp_sorted _ ?_ _ (Nat.le_refl _)
 have:=List.pairwise_mergeSort (le:=fun x y:Int=>decide (x<=y)) (by intro a b c h1 h2; simp at *; omega) (by intro a b; simp; omega) l
 exact this.imp (by intro a b h; simpa using h)
theorem sorted_count {l:List Int} (hs:l.Pairwise (· < ·)) (x:Int):l.countP (fun y=>decide (y=x))=if x∈l then 1 else 0:=by
 induction l with
 | nil=>simp
 | cons a l ih =>
  have h1:=List.pairwise_cons.1 hs
  rw [List.countP_cons,ih h1.2]
  by_cases ha:a=x
  ·subst ha
   have:a ∉ l:=fun h=>by have:=h1.1 a h; omega
   simp [this]
  ·have:x∈a::l<->x∈l:=by simp [Ne.symm ha]
   simp [ha,this]
theorem sorted_step {l:List Int} (hs:l.Pairwise (· < ·)) {i:Nat} {x y:Int} (hx:l[i]? = some x) (hy:l[i+1]? = some y):x<y:=by
 obtain ⟨h1,rfl⟩:=List.getElem?_eq_some_iff.1 hx
 obtain ⟨h2,rfl⟩:=List.getElem?_eq_some_iff.1 hy
 exact List.pairwise_iff_getElem.1 hs i (i+1) h1 h2 (by omega)
theorem ev_congr {o m m' : List Int} : ∀ {d:Nat} {e:Expr},e.deep d=true->(∀ x∈e.lv,x.ev o m=x.ev o m')->e.ev o m=e.ev o m' := by
 intro d
 induction d with
 | zero=>intro e h; simp [Expr.deep] at h
 | succ d ih =>
  intro e h hl
  by_cases hk:e.kids=[]
  ·exact hl e (lv_self hk)
  ·rw [Expr.ev_eq,Expr.ev_eq o m' e]
   obtain ⟨n1,n2,n3⟩:=node_inner (deep_node h) hk
   have:e.kids.map (Expr.ev o m)=e.kids.map (Expr.ev o m'):=List.map_congr_left fun k hk=>ih (deep_kid h hk) fun x hx=>hl x (lv_kid hk hx)
   rw [this,if_neg n1,if_neg n1,if_neg n2,if_neg n2,if_neg n3]
theorem eval_reads {e:Expr} (hf:e.formed=true) {o m m' : List Int} (h : ∀ n:Nat,(n:Int)∈e.sup 2->m[n]? = m'[n]?):e.eval o m=e.eval o m' := by
 rw [Expr.eval,Expr.eval,if_pos hf,if_pos hf]
 refine ev_congr (formed_deep hf) fun x hx => ?_
 have hk:=lv_mem hx
 have hn:=lv_deep (formed_deep hf) hx
 rw [Expr.ev_eq,Expr.ev_eq o m' x]
 by_cases h2:x.op=2
 ·have hr:0<=x.n/\x.n<32:=by
   simp only [nodeOk,h2] at hn
   split at hn
   ·cases hn
   ·simpa using hn
  have hm:=sup_lv hf hx h2 hr.1 hr.2
  have hg:=h x.n.toNat (by rw [show ((x.n.toNat:Nat):Int)=x.n by omega]; exact hm)
  have:atI m x.n=atI m' x.n:=by simp [atI,List.getD_eq_getElem?_getD,hg]
  rw [this,hk]; rfl
 ·rw [if_neg h2,if_neg h2,hk]; rfl
end Rg
end
