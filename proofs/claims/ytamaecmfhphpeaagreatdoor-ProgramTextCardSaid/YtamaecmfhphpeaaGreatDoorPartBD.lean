/- Part of the proof of the laws of the package relyguardlaw07: an abstract machine for the program's functions, what they compute, and that the machine is the program's. No condition. (H34c) -/
import Derived.Test.YtamaecmfhphpeaaGreatDoorPartBC
set_option linter.unusedSimpArgs false
set_option linter.unusedVariables false
section
set_option maxRecDepth 100000
namespace Rg
open Go
noncomputable def eqv {α:Type} (a b:α):Bool := @decide (a=b) (Classical.propDecidable _)
theorem eqv_yes {α:Type} {a b:α} (h:a=b):eqv a b=true:=by unfold eqv; exact @decide_eq_true _ (Classical.propDecidable _) h
theorem eqv_no {α:Type} {a b:α} (h : ¬ a=b):eqv a b=false:=by unfold eqv; exact @decide_eq_false _ (Classical.propDecidable _) h
theorem eqv_iff {α:Type} {a b:α}:eqv a b=true<->a=b:=by
 by_cases h:a=b
 ·rw [eqv_yes h]; simp [h]
 ·rw [eqv_no h]; simp [h]
theorem eqv_not {α:Type} {a b:α} (h:eqv a b=false) : ¬ a=b:=fun h0=>by rw [eqv_yes h0] at h; cases h
theorem ft:(false != true)=true:=rfl
theorem tt:(true != true)=false:=rfl
theorem bytesEq {a b:ByteArray}:(a.toList==b.toList)=true<->a=b:=by
 rw [ByteArray.toList_eq,ByteArray.toList_eq,beq_iff_eq]
 constructor
 ·intro h; rw [<- bs_of a, <- bs_of b,h]
 ·rintro rfl; rfl
theorem bytes_yes {a b:ByteArray} (h:a=b):(a.toList==b.toList)=true:=bytesEq.2 h
theorem bytes_no {a b:ByteArray} (h : ¬ a=b):(a.toList==b.toList)=false:=by
 cases hb:(a.toList==b.toList)
 ·rfl
 ·exact absurd (bytesEq.1 hb) h
theorem take_eq_succ {α:Type} {a b:List α} {i:Nat} {x y:α} (hx:a[i]? = some x) (hy:b[i]? = some y) (h:a.take i=b.take i) (hxy:x=y):a.take (i+1)=b.take (i+1):=by
 rw [take_succ_of hx,take_succ_of hy,h,hxy]
theorem take_eq_end {α:Type} {a b:List α} {i:Nat} (hl:a.length=b.length) (hi:i=a.length) (h:a.take i=b.take i):a=b:=by
 rw [List.take_of_length_le (by omega),List.take_of_length_le (by omega)] at h; exact h
theorem ne_at {α:Type} {a b:List α} {i:Nat} {x y:α} (hx:a[i]? = some x) (hy:b[i]? = some y) (h : ¬ x=y) : ¬ a=b:=by
 rintro rfl; rw [hx] at hy; exact h (by simpa using hy)
theorem sameE_den (a:Expr) : ∀ b:Expr,a.size<2^40->Den Γ G 156 [(.agg [.t (ti (a).op), .t (ti (a).w), .t (ti (a).n), .t (.sl ((a).kids.map (Expr.enc)))]),(.agg [.t (ti (b).op), .t (ti (b).w), .t (ti (b).n), .t (.sl ((b).kids.map (Expr.enc)))])]=some (vb (eqv a b)):=by
 induction a using Expr.ind with
 | _ a ih =>
 intro b hs
 (refine den_ofY Γ156 rfl ?_; dsimp only [f156])
 have hkl:a.kids.length<2^40:=by have:=Expr.len_le_size a.kids; have:=Expr.size_eq a; omega
 by_cases h1:a.op=b.op
 rotate_left
 ·rw [eqv_no (fun h=>h1 (by rw [h]))]
  simp -dsimp -implicitDefEqProofs only [go_sem,seval,h1,not_false_eq_true,decide_true]
 by_cases h2:a.w=b.w
 rotate_left
 ·rw [eqv_no (fun h=>h2 (by rw [h]))]
  simp -dsimp -implicitDefEqProofs only [go_sem,seval,h1,h2,not_false_eq_true,not_true_eq_false,decide_true,decide_false]
 by_cases h3:a.n=b.n
 rotate_left
 ·rw [eqv_no (fun h=>h3 (by rw [h]))]
  simp -dsimp -implicitDefEqProofs only [go_sem,seval,h1,h2,h3,not_false_eq_true,not_true_eq_false,decide_true,decide_false]
 by_cases h4:a.kids.length=b.kids.length
 rotate_left
 ·rw [eqv_no (fun h=>h4 (by rw [h]))]
  have h4' : ((a.kids.length:Int)=b.kids.length)=False:=by simp; omega
  simp -dsimp -implicitDefEqProofs only [go_sem,seval,h1,h2,h3,h4',not_false_eq_true,not_true_eq_false,decide_true,decide_false]
 have h4' : ((a.kids.length:Int)=b.kids.length)=True:=by simp [h4]
 have hab:a.kids=b.kids->a=b:=fun hk=>by
  obtain ⟨o,w,n,k⟩:=a
  obtain ⟨o',w',n',k'⟩:=b
  simp only [Expr.op,Expr.w,Expr.n,Expr.kids] at h1 h2 h3 hk
  rw [h1,h2,h3,hk]
 simp -dsimp -implicitDefEqProofs only [go_sem,seval,h1,h2,h3,h4',not_true_eq_false,decide_false]
 refine loopY 9007182074871856 a.kids.length (fun i f=>(f 5).v=vi i/\a.kids.take i=b.kids.take i) rfl rfl ⟨by simp -dsimp -implicitDefEqProofs only [go_sem,seval],rfl⟩ ?_
 rintro i f u kk bb hi ⟨h5,hall⟩
 have hw:=wrapS i (by omega)
 simp -dsimp -implicitDefEqProofs only [go_sem,seval,h5]
 refine csplit (fun h => ?_) (fun h => ?_) <;> (try rw [h]) <;> (try simp only [bools] at h) <;> (try simp -dsimp -implicitDefEqProofs only [go_sem,seval,h5])
 ·obtain ⟨x,hx,hxm⟩:=get_of ‹i<a.kids.length›
  obtain ⟨y,hy,_⟩:=get_of (show i<b.kids.length by omega)
  have hd:=ih x hxm y (by have:=Expr.size_kid hxm; omega)
  simp -dsimp -implicitDefEqProofs only [go_sem,seval,h5,hx,hy,hd]
  refine csplit (fun h => ?_) (fun h => ?_) <;> (try rw [h]) <;> (try simp only [bools] at h) <;> (try simp -dsimp -implicitDefEqProofs only [go_sem,seval,h5])
  ·rw [eqv_no (fun h0=>eqv_not h (by rw [h0] at hx; rw [hx] at hy; simpa using hy))]
  ·exact ⟨by omega,by simp -dsimp -implicitDefEqProofs only [go_sem,seval,hw],take_eq_succ hx hy hall (eqv_iff.1 (by simpa using h))⟩
 ·rw [eqv_yes (hab (take_eq_end h4 (by omega) hall))]
def exB (e:Expr):Prop:=e.size<2^40
theorem sameStep_den (a b:Step) (hg:exB a.guard) (hs : ∀ x∈a.set,exB x.to) (hl:a.set.length<2^40):Den Γ G 264 [(.agg [.t (ti (a).kind), .t (ti (a).fr), .t (ti (a).to), .t (ti ((a).guard).op), .t (ti ((a).guard).w), .t (ti ((a).guard).n), .t (.sl (((a).guard).kids.map Expr.enc)), .t (.sl ((a).set.map Assign.enc)), .t (tb (a).release), .t (ti (a).target), .t (ti (a).module)]),(.agg [.t (ti (b).kind), .t (ti (b).fr), .t (ti (b).to), .t (ti ((b).guard).op), .t (ti ((b).guard).w), .t (ti ((b).guard).n), .t (.sl (((b).guard).kids.map Expr.enc)), .t (.sl ((b).set.map Assign.enc)), .t (tb (b).release), .t (ti (b).target), .t (ti (b).module)])]=some (vb (eqv a b)):=by
 (refine den_ofY Γ264 rfl ?_; dsimp only [f264])
 by_cases h1:a.kind=b.kind
 rotate_left
 ·rw [eqv_no (fun h=>h1 (by rw [h]))]
  simp -dsimp -implicitDefEqProofs only [go_sem,seval,h1,not_false_eq_true,decide_true]
 by_cases h2:a.fr=b.fr
 rotate_left
 ·rw [eqv_no (fun h=>h2 (by rw [h]))]
  simp -dsimp -implicitDefEqProofs only [go_sem,seval,h1,h2,not_false_eq_true,not_true_eq_false,decide_true,decide_false]
 by_cases h3:a.to=b.to
 rotate_left
 ·rw [eqv_no (fun h=>h3 (by rw [h]))]
  simp -dsimp -implicitDefEqProofs only [go_sem,seval,h1,h2,h3,not_false_eq_true,not_true_eq_false,decide_true,decide_false]
 by_cases h4:a.release=b.release
 rotate_left
 ·rw [eqv_no (fun h=>h4 (by rw [h]))]
  have h4' : (a.release==b.release)=false:=by simpa using h4
  simp -dsimp -implicitDefEqProofs only [go_sem,seval,h1,h2,h3,h4',ft,not_false_eq_true,not_true_eq_false,decide_true,decide_false]
 have e4:(a.release==b.release)=true:=by simpa using h4
 by_cases h5:a.target=b.target
 rotate_left
 ·rw [eqv_no (fun h=>h5 (by rw [h]))]
  simp -dsimp -implicitDefEqProofs only [go_sem,seval,h1,h2,h3,e4,tt,h5,not_false_eq_true,not_true_eq_false,decide_true,decide_false]
 by_cases h6:a.module=b.module
 rotate_left
 ·rw [eqv_no (fun h=>h6 (by rw [h]))]
  simp -dsimp -implicitDefEqProofs only [go_sem,seval,h1,h2,h3,e4,tt,h5,h6,not_false_eq_true,not_true_eq_false,decide_true,decide_false]
 have hd:=sameE_den a.guard b.guard hg
 by_cases h7:a.guard=b.guard
 rotate_left
 ·rw [eqv_no (fun h=>h7 (by rw [h]))]
  rw [eqv_no h7] at hd
  simp -dsimp -implicitDefEqProofs only [go_sem,seval,h1,h2,h3,e4,tt,h5,h6,hd,not_false_eq_true,not_true_eq_false,decide_true,decide_false]
 rw [eqv_yes h7] at hd
 by_cases h8:a.set.length=b.set.length
 rotate_left
 ·rw [eqv_no (fun h=>h8 (by rw [h]))]
  have h8' : ((a.set.length:Int)=b.set.length)=False:=by simp; omega
  simp -dsimp -implicitDefEqProofs only [go_sem,seval,h1,h2,h3,e4,tt,h5,h6,hd,h8',not_false_eq_true,not_true_eq_false,decide_true,decide_false]
 have h8' : ((a.set.length:Int)=b.set.length)=True:=by simp [h8]
 have hab:a.set=b.set->a=b:=fun hk=>by
  obtain ⟨o,w,n,k,s,r,t,m⟩:=a
  obtain ⟨o',w',n',k',s',r',t',m'⟩:=b
  simp only at h1 h2 h3 h4 h5 h6 h7 hk
  rw [h1,h2,h3,h4,h5,h6,h7,hk]
 simp -dsimp -implicitDefEqProofs only [go_sem,seval,h1,h2,h3,e4,tt,h5,h6,hd,h8',not_true_eq_false,decide_false]
 refine loopY 633825300104891328711496826928 a.set.length (fun i f=>(f 5).v=vi i/\a.set.take i=b.set.take i) rfl rfl ⟨by simp -dsimp -implicitDefEqProofs only [go_sem,seval],rfl⟩ ?_
 rintro i f u kk bb hi ⟨g5,hall⟩
 have hw:=wrapS i (by omega)
 simp -dsimp -implicitDefEqProofs only [go_sem,seval,g5]
 refine csplit (fun h => ?_) (fun h => ?_) <;> (try rw [h]) <;> (try simp only [bools] at h) <;> (try simp -dsimp -implicitDefEqProofs only [go_sem,seval,g5])
 ·obtain ⟨x,hx,hxm⟩:=get_of ‹i<a.set.length›
  obtain ⟨y,hy,_⟩:=get_of (show i<b.set.length by omega)
  have hd:=sameE_den x.to y.to (hs x hxm)
  by_cases hc:x.cell=y.cell
  ·by_cases ht:x.to=y.to
   ·rw [eqv_yes ht] at hd
    simp -dsimp -implicitDefEqProofs only [go_sem,seval,g5,hx,hy,hd,hc,not_true_eq_false,decide_false]
    refine ⟨by omega,by simp -dsimp -implicitDefEqProofs only [go_sem,seval,hw],take_eq_succ hx hy hall ?_⟩
    obtain ⟨c,t⟩:=x
    obtain ⟨c',t'⟩:=y
    simp only at hc ht
    rw [hc,ht]
   ·rw [eqv_no ht] at hd
    simp -dsimp -implicitDefEqProofs only [go_sem,seval,g5,hx,hy,hd,hc,not_true_eq_false,decide_false]
    rw [eqv_no (fun h0=>ne_at hx hy (fun he=>ht (by rw [he])) (by rw [h0]))]
  ·simp -dsimp -implicitDefEqProofs only [go_sem,seval,g5,hx,hy,hc,not_false_eq_true,decide_true]
   rw [eqv_no (fun h0=>ne_at hx hy (fun he=>hc (by rw [he])) (by rw [h0]))]
 ·rw [eqv_yes (hab (take_eq_end h8 (by omega) hall))]
theorem sameThread_den (a b:Thread) (hm:a.modules.length<2^40) (ha:a.asserts.length<2^40) (has : ∀ x∈a.asserts,exB x) (hs:a.steps.length<2^40) (hss : ∀ s∈a.steps,exB s.guard/\(∀ x∈s.set,exB x.to)/\s.set.length<2^40)
 (hl:a.loops.length<2^40) (hll : ∀ l∈a.loops,exB l.variant/\l.body.length<2^40):Den Γ G 255 [(.agg [.t (.str (a).name), .t (ti (a).points), .t (.sl ((a).asserts.map Expr.enc)), .t (ints (a).modules), .t (.sl ((a).steps.map Step.enc)), .t (.sl ((a).loops.map Loop.enc)), .t (tb (a).asleep)]),(.agg [.t (.str (b).name), .t (ti (b).points), .t (.sl ((b).asserts.map Expr.enc)), .t (ints (b).modules), .t (.sl ((b).steps.map Step.enc)), .t (.sl ((b).loops.map Loop.enc)), .t (tb (b).asleep)])]=some (vb (eqv a b)):=by
 (refine den_ofY Γ255 rfl ?_; dsimp only [f255])
 by_cases h1:a.name=b.name
 rotate_left
 ·rw [eqv_no (fun h=>h1 (by rw [h]))]
  have n1:=bytes_no h1
  simp -dsimp -implicitDefEqProofs only [go_sem,seval,n1,Bool.not_false,Bool.not_true]
 have n1:=bytes_yes h1
 by_cases h2:a.points=b.points
 rotate_left
 ·rw [eqv_no (fun h=>h2 (by rw [h]))]
  simp -dsimp -implicitDefEqProofs only [go_sem,seval,n1,Bool.not_false,Bool.not_true,h2,not_false_eq_true,not_true_eq_false,decide_true,decide_false]
 by_cases h4:a.asleep=b.asleep
 rotate_left
 ·rw [eqv_no (fun h=>h4 (by rw [h]))]
  have h4' : (a.asleep==b.asleep)=false:=by simpa using h4
  simp -dsimp -implicitDefEqProofs only [go_sem,seval,n1,Bool.not_false,Bool.not_true,h2,h4',ft,not_false_eq_true,not_true_eq_false,decide_true,decide_false]
 have e4:(a.asleep==b.asleep)=true:=by simpa using h4
 have hd:=ints_den a.modules b.modules hm
 by_cases h5:a.modules=b.modules
 rotate_left
 ·rw [eqv_no (fun h=>h5 (by rw [h]))]
  rw [decide_eq_false h5] at hd
  simp -dsimp -implicitDefEqProofs only [go_sem,seval,n1,Bool.not_false,Bool.not_true,h2,e4,tt,hd,not_false_eq_true,not_true_eq_false,decide_true,decide_false]
 rw [decide_eq_true h5] at hd
 by_cases h6:a.asserts.length=b.asserts.length
 rotate_left
 ·rw [eqv_no (fun h=>h6 (by rw [h]))]
  have h6' : ((a.asserts.length:Int)=b.asserts.length)=False:=by simp; omega
  simp -dsimp -implicitDefEqProofs only [go_sem,seval,n1,Bool.not_false,Bool.not_true,h2,e4,tt,hd,h6',not_false_eq_true,not_true_eq_false,decide_true,decide_false]
 have h6' : ((a.asserts.length:Int)=b.asserts.length)=True:=by simp [h6]
 by_cases h7:a.steps.length=b.steps.length
 rotate_left
 ·rw [eqv_no (fun h=>h7 (by rw [h]))]
  have h7' : ((a.steps.length:Int)=b.steps.length)=False:=by simp; omega
  simp -dsimp -implicitDefEqProofs only [go_sem,seval,n1,Bool.not_false,Bool.not_true,h2,e4,tt,hd,h6',h7',not_false_eq_true,not_true_eq_false,decide_true,decide_false]
 have h7' : ((a.steps.length:Int)=b.steps.length)=True:=by simp [h7]
 by_cases h8:a.loops.length=b.loops.length
 rotate_left
 ·rw [eqv_no (fun h=>h8 (by rw [h]))]
  have h8' : ((a.loops.length:Int)=b.loops.length)=False:=by simp; omega
  simp -dsimp -implicitDefEqProofs only [go_sem,seval,n1,Bool.not_false,Bool.not_true,h2,e4,tt,hd,h6',h7',h8',not_false_eq_true,not_true_eq_false,decide_true,decide_false]
 have h8' : ((a.loops.length:Int)=b.loops.length)=True:=by simp [h8]
 have hab:a.asserts=b.asserts->a.steps=b.steps->a.loops=b.loops->a=b:=fun k1 k2 k3=>by
  obtain ⟨o,w,n,k,s,r,t⟩:=a
  obtain ⟨o',w',n',k',s',r',t'⟩:=b
  simp only at h1 h2 h4 h5 k1 k2 k3
  rw [h1,h2,h4,h5,k1,k2,k3]
 simp -dsimp -implicitDefEqProofs only [go_sem,seval,n1,Bool.not_false,Bool.not_true,h2,e4,tt,hd,h6',h7',h8',not_true_eq_false,decide_false]
 clear h6' h7' h8' hd e4
 refine loopY 9671388110172959688097840 a.asserts.length (fun i f=>(f 5).v=vi i/\a.asserts.take i=b.asserts.take i) rfl rfl ⟨by simp -dsimp -implicitDefEqProofs only [go_sem,seval],rfl⟩ ?_
 rintro i f u kk bb hi ⟨g5,hall⟩
 have hw:=wrapS i (by omega)
 simp -dsimp -implicitDefEqProofs only [go_sem,seval,g5]
 refine csplit (fun h => ?_) (fun h => ?_) <;> (try rw [h]) <;> (try simp only [bools] at h) <;> (try simp -dsimp -implicitDefEqProofs only [go_sem,seval,g5])
 ·obtain ⟨x,hx,hxm⟩:=get_of ‹i<a.asserts.length›
  obtain ⟨y,hy,_⟩:=get_of (show i<b.asserts.length by omega)
  have hd:=sameE_den x y (has x hxm)
  simp -dsimp -implicitDefEqProofs only [go_sem,seval,g5,hx,hy,hd]
  refine csplit (fun h => ?_) (fun h => ?_) <;> (try rw [h]) <;> (try simp only [bools] at h) <;> (try simp -dsimp -implicitDefEqProofs only [go_sem,seval,g5])
  ·rw [eqv_no (fun h0=>ne_at hx hy (eqv_not h) (by rw [h0]))]
  ·exact ⟨by omega,by simp -dsimp -implicitDefEqProofs only [go_sem,seval,hw],take_eq_succ hx hy hall (eqv_iff.1 (by simpa using h))⟩
 have hA:=take_eq_end h6 (by omega) hall
 clear hall g5 hw hi
 refine loopY 5070592729506360688953415172176 a.steps.length (fun i f=>(f 6).v=vi i/\a.steps.take i=b.steps.take i) rfl rfl ⟨by simp -dsimp -implicitDefEqProofs only [go_sem,seval],rfl⟩ ?_
 rintro i f u kk bb hi ⟨g6,hall⟩
 have hw:=wrapS i (by omega)
 simp -dsimp -implicitDefEqProofs only [go_sem,seval,g6]
 refine csplit (fun h => ?_) (fun h => ?_) <;> (try rw [h]) <;> (try simp only [bools] at h) <;> (try simp -dsimp -implicitDefEqProofs only [go_sem,seval,g6])
 ·obtain ⟨x,hx,hxm⟩:=get_of ‹i<a.steps.length›
  obtain ⟨y,hy,_⟩:=get_of (show i<b.steps.length by omega)
  obtain ⟨s1,s2,s3⟩:=hss x hxm
  have hd:=sameStep_den x y s1 s2 s3
  simp -dsimp -implicitDefEqProofs only [go_sem,seval,g6,hx,hy,hd]
  refine csplit (fun h => ?_) (fun h => ?_) <;> (try rw [h]) <;> (try simp only [bools] at h) <;> (try simp -dsimp -implicitDefEqProofs only [go_sem,seval,g6])
  ·rw [eqv_no (fun h0=>ne_at hx hy (eqv_not h) (by rw [h0]))]
  ·exact ⟨by omega,by simp -dsimp -implicitDefEqProofs only [go_sem,seval,hw],take_eq_succ hx hy hall (eqv_iff.1 (by simpa using h))⟩
 have hS:=take_eq_end h7 (by omega) hall
 clear hall g6 hw hi
 refine loopY 1393796574903093343945069474434535781303184 a.loops.length (fun i f=>(f 7).v=vi i/\a.loops.take i=b.loops.take i) rfl rfl ⟨by simp -dsimp -implicitDefEqProofs only [go_sem,seval],rfl⟩ ?_
 rintro i f u kk bb hi ⟨g7,hall⟩
 have hw:=wrapS i (by omega)
 simp -dsimp -implicitDefEqProofs only [go_sem,seval,g7]
 refine csplit (fun h => ?_) (fun h => ?_) <;> (try rw [h]) <;> (try simp only [bools] at h) <;> (try simp -dsimp -implicitDefEqProofs only [go_sem,seval,g7])
 ·obtain ⟨x,hx,hxm⟩:=get_of ‹i<a.loops.length›
  obtain ⟨y,hy,_⟩:=get_of (show i<b.loops.length by omega)
  obtain ⟨s1,s2⟩:=hll x hxm
  have hd:=sameE_den x.variant y.variant s1
  have hi2:=ints_den x.body y.body s2
  by_cases c1:x.head=y.head
  ·by_cases c2:x.body=y.body
   ·rw [decide_eq_true c2] at hi2
    by_cases c3:x.variant=y.variant
    ·rw [eqv_yes c3] at hd
     simp -dsimp -implicitDefEqProofs only [go_sem,seval,g7,hx,hy,hd,c1,hi2,not_true_eq_false,decide_false]
     refine ⟨by omega,by simp -dsimp -implicitDefEqProofs only [go_sem,seval,hw],take_eq_succ hx hy hall ?_⟩
     obtain ⟨c,t,v⟩:=x
     obtain ⟨c',t',v'⟩:=y
     simp only at c1 c2 c3
     rw [c1,c2,c3]
    ·rw [eqv_no c3] at hd
     simp -dsimp -implicitDefEqProofs only [go_sem,seval,g7,hx,hy,hd,c1,hi2,not_true_eq_false,decide_false]
     rw [eqv_no (fun h0=>ne_at hx hy (fun he=>c3 (by rw [he])) (by rw [h0]))]
   ·rw [decide_eq_false c2] at hi2
    simp -dsimp -implicitDefEqProofs only [go_sem,seval,g7,hx,hy,c1,hi2,not_true_eq_false,decide_false]
    rw [eqv_no (fun h0=>ne_at hx hy (fun he=>c2 (by rw [he])) (by rw [h0]))]
  ·simp -dsimp -implicitDefEqProofs only [go_sem,seval,g7,hx,hy,c1,not_false_eq_true,decide_true]
   rw [eqv_no (fun h0=>ne_at hx hy (fun he=>c1 (by rw [he])) (by rw [h0]))]
 ·rw [eqv_yes (hab hA hS (take_eq_end h8 (by omega) hall))]
theorem cellEq (x y:Cell):(x.name.toList==y.name.toList&&(decide (x.w=y.w)&&(decide (x.init=y.init)&&(decide (x.thread=y.thread)&&(x.ghost==y.ghost&&decide (x.module=y.module))))))=eqv x y:=by
 rw [Bool.eq_iff_iff,eqv_iff]
 simp only [Bool.and_eq_true,bytesEq,decide_eq_true_eq,beq_iff_eq]
 obtain ⟨a,b,c,d,e,f⟩:=x
 obtain ⟨a',b',c',d',e',f'⟩:=y
 simp only [Cell.mk.injEq]
 rw [<- beq_iff_eq (a:=a.toList),bytesEq]
theorem same7_den (p q:Prog) (l1:p.cells.length<2^40) (l2:p.modules.length<2^40) (l3:p.locks.length<2^40) (l4:p.threads.length<2^40)
 (hm : ∀ m∈p.modules,exB m.rely/\exB m.guar/\m.frame.length<2^40) (hk : ∀ l∈p.locks,exB l.inv)
 (ht : ∀ a∈p.threads,a.modules.length<2^40/\a.asserts.length<2^40/\(∀ x∈a.asserts,exB x)/\a.steps.length<2^40/\(∀ s∈a.steps,exB s.guard/\(∀ x∈s.set,exB x.to)/\s.set.length<2^40) /\
   a.loops.length<2^40 /\ ∀ l∈a.loops,exB l.variant/\l.body.length<2^40):Den Γ G 232 [(.agg [.t (.sl ((p).cells.map (Cell.enc))), .t (.sl ((p).modules.map (Contract.enc))), .t (.sl ((p).locks.map (Lock.enc))), .t (.sl ((p).threads.map (Thread.enc)))]),(.agg [.t (.sl ((q).cells.map (Cell.enc))), .t (.sl ((q).modules.map (Contract.enc))), .t (.sl ((q).locks.map (Lock.enc))), .t (.sl ((q).threads.map (Thread.enc)))])]=some (vb (eqv p q)):=by
 (refine den_ofY Γ232 rfl ?_; dsimp only [f232])
 by_cases h1:p.cells.length=q.cells.length
 rotate_left
 ·rw [eqv_no (fun h=>h1 (by rw [h]))]
  have h1' : ((p.cells.length:Int)=q.cells.length)=False:=by simp; omega
  simp -dsimp -implicitDefEqProofs only [go_sem,seval,h1',not_false_eq_true,decide_true]
 have h1' : ((p.cells.length:Int)=q.cells.length)=True:=by simp [h1]
 by_cases h2:p.modules.length=q.modules.length
 rotate_left
 ·rw [eqv_no (fun h=>h2 (by rw [h]))]
  have h2' : ((p.modules.length:Int)=q.modules.length)=False:=by simp; omega
  simp -dsimp -implicitDefEqProofs only [go_sem,seval,h1',h2',not_false_eq_true,not_true_eq_false,decide_true,decide_false]
 have h2' : ((p.modules.length:Int)=q.modules.length)=True:=by simp [h2]
 by_cases h3:p.locks.length=q.locks.length
 rotate_left
 ·rw [eqv_no (fun h=>h3 (by rw [h]))]
  have h3' : ((p.locks.length:Int)=q.locks.length)=False:=by simp; omega
  simp -dsimp -implicitDefEqProofs only [go_sem,seval,h1',h2',h3',not_false_eq_true,not_true_eq_false,decide_true,decide_false]
 have h3' : ((p.locks.length:Int)=q.locks.length)=True:=by simp [h3]
 by_cases h4:p.threads.length=q.threads.length
 rotate_left
 ·rw [eqv_no (fun h=>h4 (by rw [h]))]
  have h4' : ((p.threads.length:Int)=q.threads.length)=False:=by simp; omega
  simp -dsimp -implicitDefEqProofs only [go_sem,seval,h1',h2',h3',h4',not_false_eq_true,not_true_eq_false,decide_true,decide_false]
 have h4' : ((p.threads.length:Int)=q.threads.length)=True:=by simp [h4]
 have hab:p.cells=q.cells->p.modules=q.modules->p.locks=q.locks->p.threads=q.threads->p=q:=fun k1 k2 k3 k4=>by
  obtain ⟨a,b,c,d⟩:=p
  obtain ⟨a',b',c',d'⟩:=q
  simp only at k1 k2 k3 k4
  rw [k1,k2,k3,k4]
 simp -dsimp -implicitDefEqProofs only [go_sem,seval,h1',h2',h3',h4',not_true_eq_false,decide_false]
 clear h1' h2' h3' h4'
 refine loopY 36893347409930747952 p.cells.length (fun i f=>(f 5).v=vi i/\p.cells.take i=q.cells.take i) rfl rfl ⟨by simp -dsimp -implicitDefEqProofs only [go_sem,seval],rfl⟩ ?_
 rintro i f u kk bb hi ⟨g5,hall⟩
 have hw:=wrapS i (by omega)
 simp -dsimp -implicitDefEqProofs only [go_sem,seval,g5]
 refine csplit (fun h => ?_) (fun h => ?_) <;> (try rw [h]) <;> (try simp only [bools] at h) <;> (try simp -dsimp -implicitDefEqProofs only [go_sem,seval,g5])
 ·obtain ⟨x,hx,hxm⟩:=get_of ‹i<p.cells.length›
  obtain ⟨y,hy,_⟩:=get_of (show i<q.cells.length by omega)
  have hc:=cellEq x y
  by_cases hxy:x=y
  ·rw [eqv_yes hxy] at hc
   simp -dsimp -implicitDefEqProofs only [go_sem,seval,g5,hx,hy,hc,tt]
   exact ⟨by omega,by simp -dsimp -implicitDefEqProofs only [go_sem,seval,hw],take_eq_succ hx hy hall hxy⟩
  ·rw [eqv_no hxy] at hc
   simp -dsimp -implicitDefEqProofs only [go_sem,seval,g5,hx,hy,hc,ft]
   rw [eqv_no (fun h0=>ne_at hx hy hxy (by rw [h0]))]
 have hA:=take_eq_end h1 (by omega) hall
 clear hall g5 hw hi
 refine loopY 332306998946228931332463617650983376 p.modules.length (fun i f=>(f 6).v=vi i/\p.modules.take i=q.modules.take i) rfl rfl ⟨by simp -dsimp -implicitDefEqProofs only [go_sem,seval],rfl⟩ ?_
 rintro i f u kk bb hi ⟨g6,hall⟩
 have hw:=wrapS i (by omega)
 simp -dsimp -implicitDefEqProofs only [go_sem,seval,g6]
 refine csplit (fun h => ?_) (fun h => ?_) <;> (try rw [h]) <;> (try simp only [bools] at h) <;> (try simp -dsimp -implicitDefEqProofs only [go_sem,seval,g6])
 ·obtain ⟨x,hx,hxm⟩:=get_of ‹i<p.modules.length›
  obtain ⟨y,hy,_⟩:=get_of (show i<q.modules.length by omega)
  obtain ⟨s1,s2,s3⟩:=hm x hxm
  have hd:=sameE_den x.rely y.rely s1
  have hd2:=sameE_den x.guar y.guar s2
  have hi2:=ints_den x.frame y.frame s3
  have no : ¬ x=y->eqv p q=false:=fun hne=>eqv_no (fun h0=>ne_at hx hy hne (by rw [h0]))
  by_cases c1:x.name=y.name
  ·have n1:=bytes_yes c1
   by_cases c2:x.owner=y.owner
   ·have n2:=bytes_yes c2
    by_cases c3:x.rely=y.rely
    ·rw [eqv_yes c3] at hd
     by_cases c4:x.guar=y.guar
     ·rw [eqv_yes c4] at hd2
      by_cases c5:x.frame=y.frame
      ·rw [decide_eq_true c5] at hi2
       simp -dsimp -implicitDefEqProofs only [go_sem,seval,g6,hx,hy,hd,hd2,n1,n2,Bool.not_false,Bool.not_true,hi2,not_true_eq_false,decide_false]
       refine ⟨by omega,by simp -dsimp -implicitDefEqProofs only [go_sem,seval,hw],take_eq_succ hx hy hall ?_⟩
       obtain ⟨a,b,c,d,e⟩:=x
       obtain ⟨a',b',c',d',e'⟩:=y
       simp only at c1 c2 c3 c4 c5
       rw [c1,c2,c3,c4,c5]
      ·rw [decide_eq_false c5] at hi2
       simp -dsimp -implicitDefEqProofs only [go_sem,seval,g6,hx,hy,hd,hd2,n1,n2,Bool.not_false,Bool.not_true,hi2,not_true_eq_false,decide_false]
       rw [no fun he=>c5 (by rw [he])]
     ·rw [eqv_no c4] at hd2
      simp -dsimp -implicitDefEqProofs only [go_sem,seval,g6,hx,hy,hd,hd2,n1,n2,Bool.not_false,Bool.not_true,not_true_eq_false,decide_false]
      rw [no fun he=>c4 (by rw [he])]
    ·rw [eqv_no c3] at hd
     simp -dsimp -implicitDefEqProofs only [go_sem,seval,g6,hx,hy,hd,n1,n2,Bool.not_false,Bool.not_true,not_true_eq_false,decide_false]
     rw [no fun he=>c3 (by rw [he])]
   ·have n2:=bytes_no c2
    simp -dsimp -implicitDefEqProofs only [go_sem,seval,g6,hx,hy,n1,n2,Bool.not_false,Bool.not_true,not_true_eq_false,not_false_eq_true,decide_false,decide_true]
    rw [no fun he=>c2 (by rw [he])]
  ·have n1:=bytes_no c1
   simp -dsimp -implicitDefEqProofs only [go_sem,seval,g6,hx,hy,n1,Bool.not_false,Bool.not_true,not_false_eq_true,decide_true]
   rw [no fun he=>c1 (by rw [he])]
 have hB:=take_eq_end h2 (by omega) hall
 clear hall g6 hw hi
 refine loopY 45671926166258409194918922054157892599177809424 p.locks.length (fun i f=>(f 9).v=vi i/\p.locks.take i=q.locks.take i) rfl rfl ⟨by simp -dsimp -implicitDefEqProofs only [go_sem,seval],rfl⟩ ?_
 rintro i f u kk bb hi ⟨g9,hall⟩
 have hw:=wrapS i (by omega)
 simp -dsimp -implicitDefEqProofs only [go_sem,seval,g9]
 refine csplit (fun h => ?_) (fun h => ?_) <;> (try rw [h]) <;> (try simp only [bools] at h) <;> (try simp -dsimp -implicitDefEqProofs only [go_sem,seval,g9])
 ·obtain ⟨x,hx,hxm⟩:=get_of ‹i<p.locks.length›
  obtain ⟨y,hy,_⟩:=get_of (show i<q.locks.length by omega)
  have hd:=sameE_den x.inv y.inv (hk x hxm)
  have no : ¬ x=y->eqv p q=false:=fun hne=>eqv_no (fun h0=>ne_at hx hy hne (by rw [h0]))
  by_cases c1:x.cell=y.cell
  ·by_cases c2:x.module=y.module
   ·by_cases c3:x.inv=y.inv
    ·rw [eqv_yes c3] at hd
     simp -dsimp -implicitDefEqProofs only [go_sem,seval,g9,hx,hy,hd,c1,c2,not_true_eq_false,decide_false]
     refine ⟨by omega,by simp -dsimp -implicitDefEqProofs only [go_sem,seval,hw],take_eq_succ hx hy hall ?_⟩
     obtain ⟨a,b,c⟩:=x
     obtain ⟨a',b',c'⟩:=y
     simp only at c1 c2 c3
     rw [c1,c2,c3]
    ·rw [eqv_no c3] at hd
     simp -dsimp -implicitDefEqProofs only [go_sem,seval,g9,hx,hy,hd,c1,c2,not_true_eq_false,decide_false]
     rw [no fun he=>c3 (by rw [he])]
   ·simp -dsimp -implicitDefEqProofs only [go_sem,seval,g9,hx,hy,c1,c2,not_true_eq_false,not_false_eq_true,decide_false,decide_true]
    rw [no fun he=>c2 (by rw [he])]
  ·simp -dsimp -implicitDefEqProofs only [go_sem,seval,g9,hx,hy,c1,not_false_eq_true,decide_true]
   rw [no fun he=>c1 (by rw [he])]
 have hC:=take_eq_end h3 (by omega) hall
 clear hall g9 hw hi
 refine loopY 23945197154103346821132978434072558610198434536230928 p.threads.length (fun i f=>(f 12).v=vi i/\p.threads.take i=q.threads.take i) rfl rfl ⟨by simp -dsimp -implicitDefEqProofs only [go_sem,seval],rfl⟩ ?_
 rintro i f u kk bb hi ⟨g12,hall⟩
 have hw:=wrapS i (by omega)
 simp -dsimp -implicitDefEqProofs only [go_sem,seval,g12]
 refine csplit (fun h => ?_) (fun h => ?_) <;> (try rw [h]) <;> (try simp only [bools] at h) <;> (try simp -dsimp -implicitDefEqProofs only [go_sem,seval,g12])
 ·obtain ⟨x,hx,hxm⟩:=get_of ‹i<p.threads.length›
  obtain ⟨y,hy,_⟩:=get_of (show i<q.threads.length by omega)
  obtain ⟨t1,t2,t3,t4,t5,t6,t7⟩:=ht x hxm
  have hd:=sameThread_den x y t1 t2 t3 t4 t5 t6 t7
  simp -dsimp -implicitDefEqProofs only [go_sem,seval,g12,hx,hy,hd]
  refine csplit (fun h => ?_) (fun h => ?_) <;> (try rw [h]) <;> (try simp only [bools] at h) <;> (try simp -dsimp -implicitDefEqProofs only [go_sem,seval,g12])
  ·rw [eqv_no (fun h0=>ne_at hx hy (eqv_not h) (by rw [h0]))]
  ·exact ⟨by omega,by simp -dsimp -implicitDefEqProofs only [go_sem,seval,hw],take_eq_succ hx hy hall (eqv_iff.1 (by simpa using h))⟩
 ·rw [eqv_yes (hab hA hB hC (take_eq_end h4 (by omega) hall))]
end Rg
end
