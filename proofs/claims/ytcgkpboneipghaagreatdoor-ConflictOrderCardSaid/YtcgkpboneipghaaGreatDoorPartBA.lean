/- Part of the proof of the laws of the package relyguardlaw30: an abstract machine for the program's functions, what they compute, and that the machine is the program's. No condition. (H48a H47a H47b) -/
import Derived.Test.YtcgkpboneipghaaGreatDoorPartAZ
set_option linter.unusedSimpArgs false
set_option linter.unusedVariables false
set_option linter.unusedSectionVars false
section
namespace Rg
open Go
def sg (i k:Nat) (x:Int):Int:=if x=i then k else if x=k then i else x
def sgN (i k t:Nat):Nat:=if t=i then k else if t=k then i else t
theorem sg_nat (i k t:Nat):sg i k (t:Int)=(sgN i k t:Int):=by
 unfold sg sgN
 by_cases h1:t=i
 ·subst h1; simp
 ·by_cases h2:t=k
  ·subst h2; simp [h1]
  ·rw [if_neg (by omega),if_neg (by omega),if_neg h1,if_neg h2]
theorem sg_sg (i k:Nat) (x:Int):sg i k (sg i k x)=x:=by
 unfold sg; split <;> split <;> (try split) <;> omega
theorem sgN_sgN (i k t:Nat):sgN i k (sgN i k t)=t:=by
 unfold sgN; split <;> split <;> (try split) <;> omega
theorem sg_inj {i k:Nat} {x y:Int}:sg i k x=sg i k y<->x=y:=⟨fun h=>by rw [<- sg_sg i k x,h,sg_sg],fun h=>by rw [h]⟩
theorem sgN_inj {i k x y:Nat}:sgN i k x=sgN i k y<->x=y:=⟨fun h=>by rw [<- sgN_sgN i k x,h,sgN_sgN],fun h=>by rw [h]⟩
theorem sg_neg (i k:Nat):sg i k (-1) = -1:=by unfold sg; rw [if_neg (by omega),if_neg (by omega)]
theorem sg_rng {i k n:Nat} (hi:i<n) (hk:k<n) (x:Int):(sg i k x<n<->x<n)/\(0<=sg i k x<->0<=x)/\(sg i k x < -1<->x < -1):=by
 unfold sg; split <;> (try split) <;> omega
theorem sgN_lt {i k n t:Nat} (hi:i<n) (hk:k<n):sgN i k t<n<->t<n:=by
 unfold sgN; split <;> (try split) <;> omega
def Cell.sw (i k:Nat) (c:Cell):Cell:={ c with thread:=sg i k c.thread }
def Step.sw (i k:Nat) (s:Step):Step:=if s.kind=6\/s.kind=7 then { s with target:=sg i k s.target } else s
def Thread.sw (i k:Nat) (x:Thread):Thread:={ x with steps:=x.steps.map (Step.sw i k) }
def swThr (i k:Nat) (l:List Thread):List Thread:=(l.set i (l.getD k default)).set k (l.getD i default)
def Prog.sw (i k:Nat) (p:Prog):Prog:={ p with cells:=p.cells.map (Cell.sw i k),threads:=(swThr i k p.threads).map (Thread.sw i k) }
theorem swThr_len (i k:Nat) (l:List Thread):(swThr i k l).length=l.length:=by simp [swThr]
theorem swThr_get {i k:Nat} {l:List Thread} (hi:i<l.length) (hk:k<l.length) (t:Nat):(swThr i k l)[t]? = l[sgN i k t]? := by
 unfold swThr sgN
 rw [List.getElem?_set,List.getElem?_set]
 have hgi:l[i]? = some (l.getD i default):=by rw [List.getD_eq_getElem?_getD,List.getElem?_eq_getElem hi]; rfl
 have hgk:l[k]? = some (l.getD k default):=by rw [List.getD_eq_getElem?_getD,List.getElem?_eq_getElem hk]; rfl
 have hkl:k<(l.set i (l.getD k default)).length:=by rw [List.length_set]; exact hk
 by_cases h1:t=i
 ·rw [if_pos h1,if_pos h1.symm]
  by_cases h2:k=t
  ·rw [if_pos h2,if_pos hkl,hgk,show i=k by omega]
  ·rw [if_neg h2,if_pos hi,hgk]
 ·rw [if_neg h1,if_neg (show ¬ i=t from fun h=>h1 h.symm)]
  by_cases h2:t=k
  ·rw [if_pos h2,if_pos h2.symm,if_pos hkl,hgi]
  ·rw [if_neg h2,if_neg (show ¬ k=t from fun h=>h2 h.symm)]
section
variable {p:Prog} {i k:Nat} (hi:i<p.threads.length) (hk:k<p.threads.length)
theorem sw_cell (c:Nat):(p.sw i k).cells[c]? = (p.cells[c]?).map (Cell.sw i k):=by simp [Prog.sw]
theorem sw_len:(p.sw i k).threads.length=p.threads.length:=by simp [Prog.sw,swThr_len]
theorem sw_clen:(p.sw i k).cells.length=p.cells.length:=by simp [Prog.sw]
include hi hk in
theorem sw_get (t:Nat):(p.sw i k).threads[t]? = (p.threads[sgN i k t]?).map (Thread.sw i k):=by
 show ((swThr i k p.threads).map (Thread.sw i k))[t]? = _
 rw [List.getElem?_map,swThr_get hi hk]
theorem ofThread_sw (t c:Int):ofThread (p.sw i k) (sg i k t) c=ofThread p t c:=by
 unfold ofThread
 rw [sw_cell]
 cases p.cells[c.toNat]? with
 | none=>rfl
 | some x =>
   show (decide (0<=c)&&decide (sg i k x.thread=sg i k t))=(decide (0<=c)&&decide (x.thread=t))
   congr 1
   rw [decide_eq_decide]; exact sg_inj
theorem ofThread_sw1 (c:Int):ofThread (p.sw i k) (-1) c=ofThread p (-1) c:=by
 have:=ofThread_sw (p:=p) (i:=i) (k:=k) (-1) c
 rw [sg_neg] at this; exact this
theorem sees_sw (t c:Int):sees (p.sw i k) (sg i k t) c=sees p t c:=by unfold sees; rw [ofThread_sw,ofThread_sw1]
theorem mayP_sw (sh:Bool) (t:Int):mayP (p.sw i k) sh (sg i k t)=mayP p sh t:=by funext c; unfold mayP; rw [ofThread_sw,sees_sw]
theorem overOk_sw (e:Expr) (sh:Bool) (t:Int):overOk (p.sw i k) e sh (sg i k t)=overOk p e sh t:=by unfold overOk; rw [mayP_sw]
theorem valid_sw (e:Expr) (pr:Bool):e.valid (p.sw i k).cells pr=e.valid p.cells pr:=by
 unfold Expr.valid
 have:leafOk (p.sw i k).cells pr=leafOk p.cells pr:=by
  funext e
  unfold leafOk
  rw [sw_cell]
  cases p.cells[e.n.toNat]? <;> rfl
 rw [this]
theorem truthOk_sw (e:Expr) (pr:Bool) (t:Int):truthOk (p.sw i k) e pr (sg i k t)=truthOk p e pr t:=by unfold truthOk; rw [overOk_sw,valid_sw]
theorem truthOk_sw1 (e:Expr) (pr:Bool):truthOk (p.sw i k) e pr (-1)=truthOk p e pr (-1):=by
 have:=truthOk_sw (p:=p) (i:=i) (k:=k) e pr (-1)
 rw [sg_neg] at this; exact this
theorem cellIs_sw (c:Int) (f:Cell->Bool) (hf : ∀ x,f (Cell.sw i k x)=f x):cellIs (p.sw i k) c f=cellIs p c f:=by
 unfold cellIs
 rw [sw_cell]
 cases p.cells[c.toNat]? with
 | none=>rfl
 | some x=>exact hf x
theorem setErr_sw (set:List Assign):setErr (p.sw i k) set=setErr p set:=by
 funext j a
 unfold setErr
 rw [sw_clen,valid_sw,cellIs_sw a.cell (fun x=>decide (a.to.w=x.w)) (fun x=>rfl)]
theorem sw_guard (s:Step):(Step.sw i k s).guard=s.guard:=by unfold Step.sw; split <;> rfl
theorem sw_set (s:Step):(Step.sw i k s).set=s.set:=by unfold Step.sw; split <;> rfl
theorem sw_kind (s:Step):(Step.sw i k s).kind=s.kind:=by unfold Step.sw; split <;> rfl
theorem sw_fr (s:Step):(Step.sw i k s).fr=s.fr:=by unfold Step.sw; split <;> rfl
theorem sw_to (s:Step):(Step.sw i k s).to=s.to:=by unfold Step.sw; split <;> rfl
theorem sw_mod (s:Step):(Step.sw i k s).module=s.module:=by unfold Step.sw; split <;> rfl
theorem sw_rel (s:Step):(Step.sw i k s).release=s.release:=by unfold Step.sw; split <;> rfl
theorem sw_tgt {s:Step} (h:s.kind=6\/s.kind=7):(Step.sw i k s).target=sg i k s.target:=by unfold Step.sw; rw [if_pos h]
theorem sw_tgt0 {s:Step} (h : ¬ (s.kind=6\/s.kind=7)):(Step.sw i k s).target=s.target:=by unfold Step.sw; rw [if_neg h]
theorem valuesOk_sw (s:Step) (sh:Bool) (t:Int):valuesOk (p.sw i k) (Step.sw i k s) sh (sg i k t)=valuesOk p s sh t:=by
 unfold valuesOk; rw [sw_guard,sw_set]; simp only [overOk_sw]
theorem loadOk_sw (t:Int) (s:Step):loadOk (p.sw i k) (sg i k t) (Step.sw i k s)=loadOk p t s:=by
 unfold loadOk
 rw [sw_set,sw_guard]
 have hg : ∀ c,cellIs (p.sw i k) c Cell.ghost=cellIs p c Cell.ghost:=fun c=>cellIs_sw c _ fun _=>rfl
 cases s.set with
 | nil=>rfl
 | cons a r=>simp only [overOk_sw,ofThread_sw,ofThread_sw1,hg]
theorem storeOk_sw (t:Int) (s:Step):storeOk (p.sw i k) (sg i k t) (Step.sw i k s)=storeOk p t s:=by
 unfold storeOk
 rw [valuesOk_sw,sw_set]
 have hg : ∀ c,cellIs (p.sw i k) c Cell.ghost=cellIs p c Cell.ghost:=fun c=>cellIs_sw c _ fun _=>rfl
 cases s.set with
 | nil=>rfl
 | cons a r=>simp only [ofThread_sw1,sees_sw,hg]
include hi hk
theorem joinOk_sw {t:Int} {s:Step} (h:s.kind=6\/s.kind=7):joinOk (p.sw i k) (sg i k t) (Step.sw i k s)=joinOk p t s:=by
 unfold joinOk
 rw [sw_guard,sw_set,sw_tgt h,sw_len]
 have h1:decide (sg i k s.target≠sg i k t)=decide (s.target≠t):=by rw [decide_eq_decide]; exact not_congr sg_inj
 have h2:inR (sg i k s.target) p.threads.length=inR s.target p.threads.length:=by
  unfold inR
  have:=sg_rng hi hk s.target
  rw [decide_eq_decide,this.1,this.2.1]
 rw [h1,h2]
theorem asleep_sw (t:Int) (h0:0<=t):asleepAt (p.sw i k) (sg i k t)=asleepAt p t:=by
 obtain ⟨n,rfl⟩:=Int.eq_ofNat_of_zero_le h0
 unfold asleepAt
 rw [sg_nat,Int.toNat_natCast,Int.toNat_natCast,sw_get hi hk,sgN_sgN]
 cases p.threads[n]? <;> rfl
theorem kindOk_sw {t:Int} {s:Step} (hk7:1<=s.kind/\s.kind<=7):kindOk (p.sw i k) (sg i k t) (Step.sw i k s)=kindOk p t s:=by
 unfold kindOk
 rw [sw_kind]
 split
 ·rw [valuesOk_sw,sw_set]; simp only [ofThread_sw]
 split
 ·exact loadOk_sw t s
 split
 ·exact storeOk_sw t s
 split
 ·rw [valuesOk_sw,sw_set]; simp only [sees_sw]
 split
 ·rw [sw_guard,sw_set]
 split
 ·rename_i h6
  rw [joinOk_sw hi hk (.inl h6),sw_tgt (.inl h6)]
  cases hj:joinOk p t s
  ·rfl
  ·simp only [joinOk,inR,Bool.and_eq_true,decide_eq_true_eq] at hj
   rw [asleep_sw hi hk _ hj.2.1]
 ·exact joinOk_sw hi hk (.inr (by omega))
theorem stepErr_sw {t n:Int} {s:Step}:stepErr (p.sw i k) (sg i k t) n (Step.sw i k s)=stepErr p t n s:=by
 unfold stepErr
 have hb:stepBad (p.sw i k) n (Step.sw i k s)=stepBad p n s:=by
  unfold stepBad
  rw [sw_kind,sw_fr,sw_to,sw_mod,sw_rel]
  by_cases h:s.kind=6\/s.kind=7
  ·have:(decide (s.kind=6)||decide (s.kind=7))=true:=by simpa using h
   rw [this]; simp only [Bool.not_true,Bool.and_false,Bool.or_false]; rfl
  ·rw [sw_tgt0 h]; rfl
 rw [hb,sw_guard,sw_set,setErr_sw,valid_sw]
 cases hbb:stepBad p n s
 ·have hk7:1<=s.kind/\s.kind<=7:=by
   simp only [stepBad,Bool.or_eq_false_iff,decide_eq_false_iff_not] at hbb
   omega
  rw [kindOk_sw hi hk hk7]
 ·rfl
omit hi hk in
theorem loopErr_sw (t n:Int) (l:Loop):loopErr (p.sw i k) (sg i k t) n l=loopErr p t n l:=by
 unfold loopErr; rw [overOk_sw,valid_sw]
theorem sw_ok (hok:p.ok):(p.sw i k).ok:=by
 have h:=ok_iff.1 hok
 refine ok_iff.2 ⟨?_,fun j c hc => ?_,fun j m hm => ?_,fun j l hl => ?_, ?_⟩
 ·have h1:=limits_iff.1 h.lim
  refine limits_iff.2 ⟨⟨by rw [sw_clen]; exact h1.1.1,h1.1.2.1,h1.1.2.2.1,by rw [sw_len]; exact h1.1.2.2.2⟩,fun y hy => ?_⟩
  obtain ⟨j,hj,rfl⟩:=List.mem_iff_getElem.1 hy
  have hj2:=List.getElem?_eq_getElem hj
  rw [sw_get hi hk] at hj2
  obtain ⟨x,hx,hxe⟩:=Option.map_eq_some_iff.1 hj2
  rw [<- hxe]
  have:=h1.2 x (List.mem_of_getElem? hx)
  exact ⟨this.1,by simpa [Thread.sw] using this.2.1,this.2.2⟩
 ·rw [sw_cell] at hc
  obtain ⟨x,hx,rfl⟩:=Option.map_eq_some_iff.1 hc
  have h1:=cellErr_iff.1 (h.cells j x hx)
  refine cellErr_iff.2 ⟨?_, ?_⟩
  ·have:=h1.1
   unfold cellBad at this ⊢
   rw [sw_len]
   have hr:=sg_rng hi hk x.thread
   have e1:decide ((Cell.sw i k x).thread < -1)=decide (x.thread < -1):=by rw [decide_eq_decide]; exact hr.2.2
   have e2:decide ((Cell.sw i k x).thread>=(p.threads.length:Int))=decide (x.thread>=(p.threads.length:Int)):=by
    rw [decide_eq_decide]
    have:=hr.1
    show (p.threads.length:Int)<=sg i k x.thread<->(p.threads.length:Int)<=x.thread
    omega
   rw [e1,e2]
   exact this
  ·show ((p.cells.map (Cell.sw i k)).take j).any _=false
   rw [any_map_take]; exact h1.2
 ·have:modErr (p.sw i k) j m=modErr p j m:=by
   unfold modErr
   rw [truthOk_sw1,truthOk_sw1]
   have:ofThread (p.sw i k) (-1)=ofThread p (-1):=funext ofThread_sw1
   rw [this]; rfl
  rw [this]; exact h.modules j m hm
 ·have:lockErr (p.sw i k) j l=lockErr p j l:=by
   unfold lockErr
   rw [truthOk_sw1,ofThread_sw1,cellIs_sw l.cell (fun x=>decide (x.w=1)) (fun _=>rfl),cellIs_sw l.cell Cell.ghost (fun _=>rfl)]
   rfl
  rw [this]; exact h.locks j l hl
 ·have hn:=(names_iff (f:=fun d:Thread=>d.name.toList) (l:=p.threads)).1 fun j x hx=>(threadErr_iff.1 (h.threads j x hx)).2.1
  have hn2:=(names_iff (f:=fun d:Thread=>d.name.toList) (l:=(p.sw i k).threads)).2 fun a b x y hx hy he=>by
   rw [sw_get hi hk] at hx hy
   obtain ⟨x',hx',rfl⟩:=Option.map_eq_some_iff.1 hx
   obtain ⟨y',hy',rfl⟩:=Option.map_eq_some_iff.1 hy
   exact sgN_inj.1 (hn _ _ x' y' hx' hy' he)
  intro j y hy
  have hy0:=hy
  rw [sw_get hi hk] at hy
  obtain ⟨x,hx,rfl⟩:=Option.map_eq_some_iff.1 hy
  obtain ⟨a1,a2,a3,a4,a5,a6,a7⟩:=threadErr_iff.1 (h.threads _ x hx)
  have hj:(j:Int)=sg i k ((sgN i k j:Nat):Int):=by rw [sg_nat,sgN_sgN]
  refine threadErr_iff.2 ⟨a1,hn2 j _ hy0,a3,a4, ?_,fun m s hs => ?_,fun m l hl => ?_⟩
  ·show x.asserts.all _=true
   rw [hj]; simp only [truthOk_sw]; exact a5
  ·simp only [Thread.sw,List.getElem?_map] at hs
   obtain ⟨s',hs',rfl⟩:=Option.map_eq_some_iff.1 hs
   show stepErr (p.sw i k) j x.points _=0
   rw [hj,stepErr_sw hi hk]; exact a6 m s' hs'
  ·show loopErr (p.sw i k) j x.points l=0
   rw [hj,loopErr_sw]; exact a7 m l hl
theorem sw_sw:(p.sw i k).sw i k=p:=by
 have hc:((p.sw i k).sw i k).cells=p.cells:=by
  show (p.cells.map (Cell.sw i k)).map (Cell.sw i k)=p.cells
  rw [List.map_map]
  have:Cell.sw i k ∘ Cell.sw i k=id:=by
   funext c; simp only [Function.comp,Cell.sw,sg_sg]; rfl
  rw [this,List.map_id]
 have ht:((p.sw i k).sw i k).threads=p.threads:=by
  refine List.ext_getElem? fun t => ?_
  rw [sw_get (p:=p.sw i k) (by rw [sw_len]; exact hi) (by rw [sw_len]; exact hk),sw_get hi hk,sgN_sgN]
  cases p.threads[t]? with
  | none=>rfl
  | some x =>
    simp only [Option.map_some,Option.some.injEq]
    simp only [Thread.sw,List.map_map]
    have:Step.sw i k ∘ Step.sw i k=id:=by
     funext s
     simp only [Function.comp,id]
     unfold Step.sw
     by_cases h:s.kind=6\/s.kind=7
     ·rw [if_pos h,if_pos h]; simp only [sg_sg]
     ·rw [if_neg h,if_neg h]
    rw [this,List.map_id]
 show (⟨((p.sw i k).sw i k).cells,p.modules,p.locks,((p.sw i k).sw i k).threads⟩:Prog)=p
 rw [hc,ht]
end
theorem sw_small {p:Prog} {i k:Nat} {L:Int} (hi:i<p.threads.length) (hk:k<p.threads.length) (hs:p.SmallP L):(p.sw i k).SmallP L:=by
 have hm : ∀ z∈(p.sw i k).threads, ∃ x∈p.threads,z=Thread.sw i k x:=fun z hz=>by
  obtain ⟨j,hj,rfl⟩:=List.mem_iff_getElem.1 hz
  have hj2:=List.getElem?_eq_getElem hj
  rw [sw_get hi hk] at hj2
  obtain ⟨x,hx,hxe⟩:=Option.map_eq_some_iff.1 hj2
  exact ⟨x,List.mem_of_getElem? hx,hxe.symm⟩
 refine ⟨by rw [sw_clen]; exact hs.cells,hs.modules,hs.locks,by rw [sw_len]; exact hs.threads,hs.mods,hs.lcks,fun z hz => ?_,fun z hz => ?_,fun z hz => ?_⟩
 all_goals obtain ⟨x,hx,rfl⟩:=hm z hz
 ·have:=hs.thr x hx
  exact ⟨this.1,this.2.1,by simpa [Thread.sw] using this.2.2.1,this.2.2.2⟩
 ·intro s hs'
  obtain ⟨s',h',rfl⟩:=List.mem_map.1 hs'
  have:=hs.steps x hx s' h'
  rw [sw_set,sw_guard]; exact this
 ·exact hs.loops x hx
theorem sw_lite {p:Prog} {i k:Nat} (hi:i<p.threads.length) (hk:k<p.threads.length) (hl:p.lite7):(p.sw i k).lite7:=by
 refine ⟨fun c hc => ?_,hl.mname,fun z hz => ?_⟩
 ·obtain ⟨x,hx,rfl⟩:=List.mem_map.1 hc
  exact hl.cname x hx
 ·obtain ⟨j,hj,rfl⟩:=List.mem_iff_getElem.1 hz
  have hj2:=List.getElem?_eq_getElem hj
  rw [sw_get hi hk] at hj2
  obtain ⟨x,hx,hxe⟩:=Option.map_eq_some_iff.1 hj2
  rw [<- hxe]
  exact hl.tname x (List.mem_of_getElem? hx)
end Rg
end
section
namespace Rg
open Go
theorem not_bit {i j:Nat} (hi:i<64):(2^64-1-1 <<< i).testBit j=(decide (j<64)&&decide (i≠j)):=by
 have h:1 <<< i<2^64:=by rw [Nat.one_shiftLeft]; exact Nat.pow_lt_pow_right (by decide) hi
 rw [Nat.sub_sub,Nat.add_comm 1,Nat.testBit_two_pow_sub_succ h,bit_one]
 by_cases hj:i=j <;> simp [hj]
theorem rowC_bit {same:Bool} {i j m:Nat} (hi:i<64) (hj:j<64):(Gr.rowC same i m).testBit j=if same then (m.testBit j&&decide (i≠j)) else (m.testBit j||decide (i=j)):=by
 unfold Gr.rowC
 cases same
 ·simp only [Bool.false_eq_true,if_false,Nat.testBit_or,bit_one]
 ·simp only [if_true,Nat.testBit_and,Nat.testBit_or,bit_one,not_bit hi,hj,decide_true,Bool.true_and]
  by_cases h:i=j <;> simp [h]
namespace Gr
variable {g:Gr}
theorem Ok.ac_of (hg:g.Ok) {d:Nat} (hd:g.mks d≠0) : ∃ a,a<g.all.length/\g.cl a=d:=by
 obtain ⟨j,hj⟩:=ne_zero_bit.1 hd
 obtain ⟨a,h1,h2,_⟩:=(hg.mk_bit d j).1 hj
 exact ⟨a,h1,h2⟩
theorem Ok.couple_iff (hg:g.Ok) {c d:Nat} (ht:g.thr d=g.thr c):g.couple c d=true <-> ∃ a b,a<g.all.length/\b<g.all.length/\g.cl a=c/\g.cl b=d/\(if c=d then (g.ac a).st≠(g.ac b).st/\(g.ldAt (g.ac a).th (g.ac a).st).testBit (g.ac b).st=true else ((g.ac a).st=(g.ac b).st\/(g.ldAt (g.ac a).th (g.ac a).st).testBit (g.ac b).st=true)):=by
 have hrow : ∀ a,a<g.all.length->g.cl a=c -> ∀ j,j<64->((((g.ld.getD (g.thr c) []).mapIdx fun i m=>rowC (decide (c=d)) i m).getD (g.ac a).st 0).testBit j) =
  if c=d then ((g.ldAt (g.ac a).th (g.ac a).st).testBit j&&decide ((g.ac a).st≠j)) else ((g.ldAt (g.ac a).th (g.ac a).st).testBit j||decide ((g.ac a).st=j)):=by
  intro a ha hca j hj
  have h1:=hg.thr_cl a ha
  have h2:=hg.th_lt a ha
  have h3:=hg.st_lt a ha
  rw [hca] at h1
  have h4:=hg.ld_row _ h2
  rw [List.getD_eq_getElem?_getD,List.getElem?_mapIdx,h1,List.getElem?_eq_getElem (by omega)]
  simp only [Option.map_some,Option.getD_some]
  rw [rowC_bit h3 hj]
  have:g.ldAt (g.ac a).th (g.ac a).st=(g.ld.getD (g.ac a).th [])[(g.ac a).st]'(by omega):=by
   unfold ldAt
   rw [List.getD_eq_getElem?_getD,List.getElem?_eq_getElem (by omega)]; rfl
  rw [this]
  by_cases h:c=d <;> simp [h]
 unfold couple
 rw [meets_iff]
 constructor
 ·rintro ⟨i,j,hi,h1,h2,h3⟩
  obtain ⟨a,ha,hca,rfl⟩:=(hg.mk_bit c i).1 h1
  obtain ⟨b,hb,hcb,rfl⟩:=(hg.mk_bit d j).1 h3
  rw [hrow a ha hca _ (hg.st_lt b hb)] at h2
  refine ⟨a,b,ha,hb,hca,hcb, ?_⟩
  by_cases h:c=d
  ·rw [if_pos h] at h2 ⊢
   rw [Bool.and_eq_true,decide_eq_true_eq] at h2
   exact ⟨h2.2,h2.1⟩
  ·rw [if_neg h] at h2 ⊢
   rw [Bool.or_eq_true,decide_eq_true_eq] at h2
   exact h2.symm
 ·rintro ⟨a,b,ha,hb,hca,hcb,h⟩
  refine ⟨(g.ac a).st,(g.ac b).st,hg.st_lt a ha,(hg.mk_bit c _).2 ⟨a,ha,hca,rfl⟩, ?_,(hg.mk_bit d _).2 ⟨b,hb,hcb,rfl⟩⟩
  rw [hrow a ha hca _ (hg.st_lt b hb)]
  by_cases hcd:c=d
  ·rw [if_pos hcd] at h ⊢
   rw [Bool.and_eq_true,decide_eq_true_eq]; exact ⟨h.2,h.1⟩
  ·rw [if_neg hcd] at h ⊢
   rw [Bool.or_eq_true,decide_eq_true_eq]; exact h.symm
theorem partner_iff {a b:Nat}:g.partner a b=true<->a≠b/\(g.ac a).th=(g.ac b).th/\((g.ac a).st=(g.ac b).st\/(g.ldAt (g.ac a).th (g.ac a).st).testBit (g.ac b).st=true):=by
 simp only [partner,Bool.and_eq_true,Bool.or_eq_true,decide_eq_true_eq]
theorem Ok.couple_get (hg:g.Ok) {c d:Nat} (ht:g.thr d=g.thr c) (h:g.couple c d=true) : ∃ a b,a<g.all.length/\b<g.all.length/\g.cl a=c/\g.cl b=d/\g.partner a b=true:=by
 obtain ⟨a,b,ha,hb,hca,hcb,h2⟩:=(hg.couple_iff ht).1 h
 refine ⟨a,b,ha,hb,hca,hcb,partner_iff.2 ⟨?_, ?_, ?_⟩⟩
 ·rintro rfl
  split at h2
  ·exact h2.1 rfl
  ·rename_i hn; exact hn (by rw [<- hca, <- hcb])
 ·rw [<- hg.thr_cl a ha, <- hg.thr_cl b hb,hca,hcb,ht]
 ·split at h2
  ·exact .inr h2.2
  ·exact h2
theorem Ok.begins_of (hg:g.Ok) {r goal d m:Nat} (hd:g.mks d≠0) (h:g.opens r goal d m=true) : ∃ a,a<g.all.length/\g.cl a=d/\g.begins r goal a m=true:=by
 simp only [opens,Bool.or_eq_true,Bool.and_eq_true,decide_eq_true_eq,List.any_eq_true,List.mem_range] at h
 rcases h with h | ⟨h0,e,he,h1,h2,h3⟩
 ·obtain ⟨a,ha,hc⟩:=hg.ac_of hd
  refine ⟨a,ha,hc, ?_⟩
  simp only [begins,Bool.or_eq_true]
  rw [hc]; exact .inl h
 ·obtain ⟨a,b,ha,hb,hca,hcb,hp⟩:=hg.couple_get h1 h2
  refine ⟨a,ha,hca, ?_⟩
  simp only [begins,Bool.or_eq_true,Bool.and_eq_true,decide_eq_true_eq,List.any_eq_true,List.mem_range]
  exact .inr ⟨h0,b,hb,hp,by rw [hcb]; exact h3⟩
def can (g:Gr) (goal r last m:Nat) (op:Bool):Prop:=if op then g.begins r goal last m=true else g.ends r goal (g.cl last) m=true
theorem or_bit {m k j:Nat}:(m ||| 1 <<< k).testBit j=(m.testBit j||decide (k=j)):=by rw [Nat.testBit_or,bit_one]
theorem Ok.next_some (hg:g.Ok) {goal r last m:Nat} {op:Bool} (hl:last<g.all.length) (hm:m.testBit (g.ac last).th=true) (h:g.can goal (r+1) last m op) : ∃ c,c<g.all.length/\g.next goal last m op r c=true:=by
 have key:g.ends (r+1) goal (g.cl last) m=true -> ∃ c,c<g.all.length/\g.next goal last m op r c=true:=by
  intro h
  rw [ends_succ,List.any_eq_true] at h
  obtain ⟨d,hd,h⟩:=h
  simp only [ok,Bool.and_eq_true,decide_eq_true_eq,Bool.not_eq_true'] at h
  obtain ⟨⟨h1,h2,h3⟩,h4⟩:=h
  obtain ⟨a,ha,hca,hb⟩:=hg.begins_of h1 h4
  have ht:g.thr d=(g.ac a).th:=by rw [<- hca]; exact hg.thr_cl a ha
  refine ⟨a,ha, ?_⟩
  rw [ht] at h2 hb
  have hnp:g.partner last a=false:=by
   cases hp:g.partner last a
   ·rfl
   ·have:=(partner_iff.1 hp).2.1
    rw [this,h2] at hm; cases hm
  have hv:g.visit last m op a=(false,true):=by
   unfold visit
   rw [hnp,h2,hca,h3]; simp
  unfold next
  rw [hv]; simpa using hb
 cases op
 ·exact key (by simpa [can] using h)
 ·simp only [can,if_true,begins,Bool.or_eq_true,Bool.and_eq_true,decide_eq_true_eq,List.any_eq_true,List.mem_range] at h
  rcases h with h | ⟨_,b,hb,hp,h⟩
  ·exact key h
  ·refine ⟨b,hb, ?_⟩
   unfold next visit
   rw [hp]; simpa using h
theorem Ok.next_can (hg:g.Ok) {goal r last m c:Nat} {op:Bool} (hl:last<g.all.length) (hm:m.testBit (g.ac last).th=true) (hc:c<g.all.length) (h:g.next goal last m op r c=true) :
 if (g.visit last m op c).1 then (op=true/\g.partner last c=true/\g.can goal r c m false/\m.testBit (g.ac c).th=true)
 else (m.testBit (g.ac c).th=false/\g.prec (g.cl last) (g.cl c)=true/\g.can goal r c (m ||| 1 <<< (g.ac c).th) true/\(m ||| 1 <<< (g.ac c).th).testBit (g.ac c).th=true):=by
 unfold next at h
 split at h
 ·rename_i hv
  rw [if_pos hv]
  simp only [visit,Bool.and_eq_true] at hv
  refine ⟨hv.1,hv.2,by simpa [can] using h, ?_⟩
  rw [<- (partner_iff.1 hv.2).2.1]; exact hm
 ·rename_i hv
  rw [if_neg hv]
  simp only [visit,Bool.and_eq_true,Bool.not_eq_true'] at h
  exact ⟨h.1.1,h.1.2,by simpa [can] using h.2,by rw [or_bit]; simp⟩
theorem find_some {α:Type} {l:List α} {f:α->Bool} (h : ∃ x∈l,f x=true) : ∃ x,l.find? f=some x/\x∈l/\f x=true:=by
 cases hf:l.find? f with
 | none =>
   obtain ⟨x,h1,h2⟩:=h
   have:=List.find?_eq_none.1 hf x h1
   exact absurd h2 this
 | some x=>exact ⟨x,rfl,List.mem_of_find?_eq_some hf,List.find?_some hf⟩
theorem Ok.follow_some (hg:g.Ok) (goal:Nat) : ∀ (r last m:Nat) (op:Bool),last<g.all.length->m.testBit (g.ac last).th=true->g.can goal r last m op -> ∃ l,g.follow goal r last m op=some l
 | 0,_,_,_,_,_,_=>⟨[],rfl⟩
 | r+1,last,m,op,hl,hm,h=>by
   obtain ⟨c,hc,hn⟩:=hg.next_some hl hm h
   obtain ⟨x,hx,hxm,hxn⟩:=find_some (l:=List.range g.all.length) (f:=g.next goal last m op r) ⟨c,List.mem_range.2 hc,hn⟩
   have hxl:=List.mem_range.1 hxm
   have hcan:=hg.next_can hl hm hxl hxn
   rw [follow,hx]
   simp only
   split at hcan
   ·rename_i hv
    rw [if_pos hv]
    obtain ⟨l,hl⟩:=hg.follow_some goal r x m false hxl hcan.2.2.2 hcan.2.2.1
    exact ⟨_,by rw [hl]; rfl⟩
   ·rename_i hv
    rw [if_neg hv]
    obtain ⟨l,hl⟩:=hg.follow_some goal r x _ true hxl hcan.2.2.2 hcan.2.2.1
    exact ⟨_,by rw [hl]; rfl⟩
def ClsAt (g:Gr):Prop := ∀ i,i<g.all.length -> ∃ b,b<=1/\g.cl i=(g.ac i).th*g.sz+2*(g.ac i).ce+b
theorem mem_mask (hg:g.Ok) {f:Acc->Bool} {c j:Nat} (h:(g.maskF f c g.all.length).testBit j=true) : ∃ a,a<g.all.length/\g.cl a=c/\f (g.ac a)=true/\(g.ac a).st=j:=by
 obtain ⟨⟨a,c'⟩,hq,h1,rfl,h2⟩:=(maskF_bit f c _ j).1 h
 obtain ⟨n,hn,he⟩:=List.mem_iff_getElem.1 (List.mem_of_mem_take hq)
 have hn1:n<g.all.length:=by rw [List.length_zip] at hn; omega
 have hn2:n<g.cls.length:=by rw [hg.cl_len]; exact hn1
 rw [List.getElem_zip] at he
 obtain ⟨e1,e2⟩:=Prod.mk.inj he
 have e3:g.ac n=a:=by simp only [ac,List.getD_eq_getElem?_getD,List.getElem?_eq_getElem hn1,Option.getD_some]; exact e1
 refine ⟨n,hn1, ?_,by rw [e3]; exact h1,by rw [e3]; exact h2⟩
 simp only [cl,List.getD_eq_getElem?_getD,List.getElem?_eq_getElem hn2,Option.getD_some]; exact e2
theorem pair_get (hg:g.Ok) (hcl:g.ClsAt) {c d:Nat} (h:g.isPair c d=true) : ∃ a b,a<g.all.length/\b<g.all.length/\g.cl a=c/\g.cl b=d/\g.delay a b=true:=by
 obtain ⟨_,_,h3,h4,h5⟩:=isPair_iff.1 h
 obtain ⟨i,j,hi,h6,h7,h8⟩:=meets_iff.1 h5
 obtain ⟨a,ha,hca,hea,rfl⟩:=mem_mask hg h6
 obtain ⟨b,hb,hcb,hlb,rfl⟩:=mem_mask hg h8
 have t1:=hg.thr_cl a ha
 have t2:=hg.thr_cl b hb
 rw [hca] at t1
 rw [hcb] at t2
 have ht:(g.ac a).th=(g.ac b).th:=by rw [<- t1, <- t2,h3]
 refine ⟨a,b,ha,hb,hca,hcb,delay_iff.2 ⟨ht, ?_, ?_,hea,hlb⟩⟩
 ·intro he
  obtain ⟨x,hx,e1⟩:=hcl a ha
  obtain ⟨y,hy,e2⟩:=hcl b hb
  rw [hca] at e1
  rw [hcb] at e2
  apply h4
  rw [e1,e2,ht,he]
  have hev:(g.ac b).th*g.sz=2*((g.ac b).th*(g.nc+g.nt)):=by unfold sz; rw [Nat.mul_left_comm]
  rw [hev]; omega
 ·rw [t1] at h7; exact h7
theorem first_some (hg:g.Ok) (hcl:g.ClsAt) {r:Nat} (h:g.atRest r=true) : ∃ l,g.first r=some l:=by
 obtain ⟨c,d,_,_,h1,h2⟩:=atRest_iff.1 h
 obtain ⟨a,b,ha,hb,hca,hcb,hd⟩:=pair_get hg hcl h1
 have hs:g.starts r a b=true:=by
  unfold starts
  rw [hd,hca,hcb]
  have:=hg.thr_cl b hb
  rw [hcb] at this
  rw [<- this,h2]; rfl
 obtain ⟨x,hx,hxm,hxs⟩:=find_some (l:=((List.range g.all.length).flatMap fun a=>(List.range g.all.length).map fun b=>(a,b))) (f:=fun x=>g.starts r x.1 x.2)
  ⟨(a,b),by simp only [List.mem_flatMap,List.mem_range,List.mem_map]; exact ⟨a,ha,b,hb,rfl⟩,hs⟩
 simp only [List.mem_flatMap,List.mem_range,List.mem_map] at hxm
 obtain ⟨x1,k1,x2,k2,rfl⟩:=hxm
 unfold first
 rw [hx]
 simp only [starts,Bool.and_eq_true] at hxs
 obtain ⟨l,hl⟩:=hg.follow_some (g.cl x1) r x2 (1 <<< (g.ac x2).th) false k2 (by rw [bit_one]; simp) (by simpa [can] using hxs.2)
 exact ⟨_,by simp only; rw [hl]; rfl⟩
theorem shortest_at {r:Nat} (h:g.shortest=some r):g.atRest r=true/\1<=r/\r<=2*(g.nt-1):=by
 unfold shortest at h
 have h1:=List.find?_some h
 have h2:=List.mem_of_find?_eq_some h
 simp only [List.mem_map,List.mem_range] at h2
 obtain ⟨a,ha,rfl⟩:=h2
 exact ⟨h1,by omega,by omega⟩
theorem follow_len (goal:Nat) : ∀ (r last m:Nat) (op:Bool) (l:List Acc),g.follow goal r last m op=some l->l.length=r
 | 0,_,_,_,l,h=>by rw [follow] at h; cases h; rfl
 | r+1,last,m,op,l,h=>by
   rw [follow] at h
   split at h
   ·cases h
   ·split at h
    all_goals
     obtain ⟨l',hl',rfl⟩:=Option.map_eq_some_iff.1 h
     simp [follow_len goal r _ _ _ l' hl']
theorem first_len {r:Nat} {l:List Acc} (h:g.first r=some l):l.length=r+2:=by
 unfold first at h
 split at h
 ·cases h
 ·obtain ⟨l',hl',rfl⟩:=Option.map_eq_some_iff.1 h
  simp [follow_len _ _ _ _ _ l' hl']
theorem cycle_len (hg:g.Ok) (hcl:g.ClsAt):(g.cycle.map List.length)=g.shortest.map (· + 2):=by
 unfold cycle
 cases h:g.shortest with
 | none=>rfl
 | some r =>
   obtain ⟨l,hl⟩:=first_some hg hcl (shortest_at h).1
   simp [hl,first_len hl]
end Gr
theorem grM_cls {p:Prog} (h:p.ok) (model:Int):(grM p model).ClsAt:=by
 intro i hi
 have hcl:(grM p model).cl i=clsM p ((grM p model).ac i):=by
  have hi' : i<(accsM p).length:=hi
  simp only [Gr.cl,Gr.ac,grM,List.getD_eq_getElem?_getD,List.getElem?_map,List.getElem?_eq_getElem hi']
  rfl
 rw [hcl]
 unfold clsM
 refine ⟨_, ?_,rfl⟩
 split <;> omega
end Rg
end
section
namespace Rg
open Go
inductive Path (l:List Step) (i:Nat):Nat->Prop
 | one {j:Nat} {x y:Step} (hx:l[i]? = some x) (hy:l[j]? = some y) (h:x.to=y.fr):Path l i j
 | snoc {k j:Nat} {x y:Step} (hp:Path l i k) (hx:l[k]? = some x) (hy:l[j]? = some y) (h:x.to=y.fr):Path l i j
theorem Path.trans {l:List Step} {i k j:Nat} (h1:Path l i k) (h2:Path l k j):Path l i j:=by
 induction h2 with
 | one hx hy h=>exact .snoc h1 hx hy h
 | snoc _ hx hy h ih=>exact .snoc ih hx hy h
def BefOk (p:Prog) (a b:Acc):Prop:=a.th≠b.th/\(((p.stepAt a.th a.st).kind=6/\((p.stepAt a.th a.st).target=b.th\/(p.stepAt b.th b.st).kind=7/\(p.stepAt a.th a.st).target=(p.stepAt b.th b.st).target)) \/
 ((p.stepAt b.th b.st).kind=7/\(p.stepAt b.th b.st).target=a.th)\/(a.ce=b.ce/\a.ce<p.cells.length/\(a.wr=true\/b.wr=true)))
theorem acc_step {p:Prog} (h:p.ok) {a:Acc} (ha:a∈accsM p):(a.ce<p.cells.length/\(p.stepAt a.th a.st).kind≠6/\(p.stepAt a.th a.st).kind≠7) \/
 (((p.stepAt a.th a.st).kind=6\/(p.stepAt a.th a.st).kind=7)/\a.wr=true/\0<=(p.stepAt a.th a.st).target/\(p.stepAt a.th a.st).target<p.threads.length/\(a.ce:Int)=p.cells.length+(p.stepAt a.th a.st).target):=by
 obtain ⟨x,s,h1,h2,h3⟩:=mem_accs.1 ha
 rw [stepAt_of h1 h2]
 obtain ⟨_,_,h4 | h4⟩:=mem_accsS.1 h3
 ·right
  obtain ⟨hk,hw,hc⟩:=h4
  have ht:=(ok_iff.1 h).threads _ x h1
  rw [threadErr_iff] at ht
  obtain ⟨hb,_,hset,hko⟩:=stepErr_iff.1 (ht.2.2.2.2.2.1 _ s h2)
  have hj:joinOk p a.th s=true:=by
   unfold kindOk at hko
   rcases hk with hk | hk <;> rw [hk] at hko <;> simp at hko
   ·exact hko.1
   ·exact hko
  simp only [joinOk,inR,Bool.and_eq_true,decide_eq_true_eq] at hj
  exact ⟨hk,hw,hj.2.1,hj.2.2,by omega⟩
 ·left
  obtain ⟨hk,c,hc,he,_⟩:=h4
  rw [mem_ofM,ofThread_iff] at hc
  obtain ⟨h0,y,hy,_⟩:=hc
  have:=(List.getElem?_eq_some_iff.1 hy).1
  exact ⟨by omega,fun h=>hk (.inl h),fun h=>hk (.inr h)⟩
theorem cls_at {p:Prog} (h:p.ok) {a:Acc} (ha:a∈accsM p):clsM p a / (2*(p.cells.length+p.threads.length))=a.th/\clsM p a % (2*(p.cells.length+p.threads.length)) =
 2*a.ce+(if (a.wr&&decide (a.ce<p.cells.length))||decide ((p.stepAt a.th a.st).kind=7) then 1 else 0):=by
 refine ⟨(clsM_bounds h ha).1, ?_⟩
 have h2:=(ok_acc h ha).2.2
 unfold clsM
 generalize hb:(if (a.wr&&decide (a.ce<p.cells.length))||decide ((p.stepAt a.th a.st).kind=7) then 1 else 0)=b
 have hb1:b<=1:=by rw [<- hb]; split <;> omega
 rw [Nat.add_assoc,Nat.mul_comm,Nat.mul_add_mod,Nat.mod_eq_of_lt (by omega)]
def Trail (p:Prog) (gl:Acc):Acc->Bool->Nat->List Acc->Prop
 | prev,_,_,[]=>BefOk p prev gl
 | prev,op,m,c::l=>c∈accsM p/\((op=true/\c.th=prev.th/\c≠prev/\(c.st=prev.st\/Path ((p.threads.getD c.th default).steps) prev.st c.st)/\m.testBit c.th=true/\Trail p gl c false m l) \/
    (m.testBit c.th=false/\BefOk p prev c/\Trail p gl c true (m ||| 1 <<< c.th) l))
theorem nodup_flat {α β:Type} {f:α->List β} : ∀ {l:List α},(∀ a∈l,(f a).Nodup)->l.Pairwise (fun a b => ∀ z,z∈f a->z∈f b->False)->(l.flatMap f).Nodup
 | [],_,_=>by simp
 | x::l,h1,h2=>by
   rw [List.flatMap_cons,List.nodup_append]
   rw [List.pairwise_cons] at h2
   refine ⟨h1 x (by simp),nodup_flat (fun a ha=>h1 a (by simp [ha])) h2.2,fun a ha b hb e => ?_⟩
   obtain ⟨y,hy,hb⟩:=List.mem_flatMap.1 hb
   subst e
   exact h2.1 y hy a ha hb
theorem accsM_nodup {p:Prog}:(accsM p).Nodup:=by
 have hS : ∀ t i s,(accsS p t i s).Nodup:=by
  intro t i s
  unfold accsS
  split
  ·simp
  ·unfold accsC
   have hof:(ofM p (-1)).Pairwise (fun a b=>a.toNat≠b.toNat):=by
    unfold ofM idxM idxN
    rw [List.take_length]
    refine List.Pairwise.map _ ?_ (List.Pairwise.filter (R:=fun (a b:Cell×Nat)=>a.2≠b.2) _ (List.pairwise_iff_getElem.2 fun i j hi hj hij => ?_))
    ·intro a b h; simpa using h
    ·simp; omega
   refine nodup_flat (fun c _ => ?_) (hof.imp fun {a b} hab => ?_)
   ·split <;> split <;> simp
   ·intro z h1 h2
    simp only [List.mem_append] at h1 h2
    have : ∀ c:Int,((z∈if c∈readsM s then [(⟨t,i,c.toNat,false⟩:Acc)] else [])\/(z∈if c∈writesM s then [(⟨t,i,c.toNat,true⟩:Acc)] else []))->z.ce=c.toNat:=by
     rintro c (h | h)
     ·split at h
      ·rw [List.mem_singleton] at h; rw [h]
      ·cases h
     ·split at h
      ·rw [List.mem_singleton] at h; rw [h]
      ·cases h
    exact hab ((this a h1).symm.trans (this b h2))
 have hT : ∀ t l i,(accsT p t l i).Nodup:=by
  intro t l i
  unfold accsT
  refine nodup_flat (fun q _=>hS _ _ _) (List.pairwise_iff_getElem.2 fun a b ha hb hab z h1 h2 => ?_)
  simp only [List.getElem_zipIdx] at h1 h2
  have e1:=(mem_accsS.1 h1).2.1
  have e2:=(mem_accsS.1 h2).2.1
  omega
 unfold accsM accsN
 refine nodup_flat (fun q _=>hT _ _ _) (List.pairwise_iff_getElem.2 fun a b ha hb hab z h1 h2 => ?_)
 simp only [List.getElem_zipIdx] at h1 h2
 obtain ⟨k1,s1,_,_,g1⟩:=mem_accsT.1 h1
 obtain ⟨k2,s2,_,_,g2⟩:=mem_accsT.1 h2
 have e1:=(mem_accsS.1 g1).1
 have e2:=(mem_accsS.1 g2).1
 omega
structure CycOk (p:Prog) (model:Int) (l:List Acc):Prop where
 ok : ∃ a b c r,l=a::b::c::r/\a∈accsM p/\b∈accsM p/\a.th=b.th/\(a,b)∈delaysM p model/\Trail p a b false (1 <<< b.th) (c::r)
end Rg
end
