/- Part of the proof of the laws of the package relyguardlaw07: an abstract machine for the program's functions, what they compute, and that the machine is the program's. No condition. (H30g H14a H15r H31a) -/
import Derived.Test.YtamaecmfhphpeaaGreatDoorPartBB
set_option linter.unusedSimpArgs false
set_option linter.unusedVariables false
section
set_option maxRecDepth 100000
namespace Rg
open Go
theorem thrOk_of {p:Prog} (hn:Nums p) (hf:p.few) {x:Thread} (hx:x∈p.threads):ThrOk x:=by
 obtain ⟨a1,a2,a3,a4,a5,a6,a7,a8⟩:=hn.thr x hx
 refine ⟨a1,a2,a3,a4,a5,a6,fun s hs => ?_,fun l hl => ?_⟩
 ·obtain ⟨b1,b2,b3,b4,b5,b6⟩:=a7 s hs
  exact ⟨b1,b2,b3,b4,b5,b6,hf.sets x hx s hs⟩
 ·exact ⟨(a8 l hl).1,(a8 l hl).2,hf.body x hx l hl⟩
theorem line_le {ws:List (List UInt8)} {K:Nat} (h:(ws.map List.length).sum+ws.length<=K):(lineT ws).length<=K+1:=by
 have:=lineT_len ws; omega
theorem threadT_len {x:Thread} (h:ThrOk x):(threadT x).length<=1000000000:=by
 have h1:=line_le (head_sum x h.name)
 have h2:=flatMap_len pointT (x.modules.zip x.asserts) 40001 (fun q hq=>line_le (point_sum q (h.mi _ (List.of_mem_zip hq).1)))
 have h3:=flatMap_len stepT x.steps 10000001 (fun s hs=>line_le (step_sum (h.st s hs)))
 have h4:=flatMap_len loopX x.loops 10000001 (fun q hq=>line_le (by
  have hlp:=h.lp q hq
  have e1:=words_sum (loopW q++q.body.map num) 36000 (fun w hw=>by
   have n1:=num_len q.head hlp.1
   have n2:=text_len q.variant
   rcases List.mem_append.1 hw with hw | hw
   ·simp only [loopW,List.mem_cons,List.not_mem_nil,or_false] at hw
    rcases hw with rfl | rfl | rfl <;> first | omega | simp
   ·obtain ⟨z,hz,rfl⟩:=List.mem_map.1 hw
    have:=num_len z (hlp.2.1 z hz); omega)
  have e2:(loopW q++q.body.map num).length<=63:=by
   rw [List.length_append,List.length_map]
   have:(loopW q).length=3:=rfl
   omega
  have e3:(loopW q++q.body.map num).length*(36000+1)<=63*(36000+1):=Nat.mul_le_mul_right _ e2
  omega))
 have hz:(x.modules.zip x.asserts).length<=48:=by rw [List.length_zip]; have:=h.al; omega
 have m2:(x.modules.zip x.asserts).length*40001<=48*40001:=Nat.mul_le_mul_right _ hz
 have m3:x.steps.length*10000001<=64*10000001:=Nat.mul_le_mul_right _ h.sl
 have m4:x.loops.length*10000001<=8*10000001:=Nat.mul_le_mul_right _ h.ll
 simp only [threadT,List.length_append]
 omega
theorem cell_sum {c:Cell} (h:isLabel c.name=true/\inI c.w/\inI c.init/\inI c.thread/\inI c.module):((cellW c).map List.length).sum+(cellW c).length<=1000:=by
 have h0:=label_len h.1
 have h1:=num_len c.w h.2.1
 have h2:=num_len c.init h.2.2.1
 have h3:=num_len c.thread h.2.2.2.1
 have h4:=num_len c.module h.2.2.2.2
 simp only [cellW,List.map_cons,List.map_nil,List.sum_cons,List.sum_nil,List.length_cons,List.length_nil,flagT_len]
 omega
theorem mod_sum {m:Contract} (h:isLabel m.name=true/\isLabel m.owner=true /\ ∀ z∈m.frame,inI z) (hf:m.frame.length<=60):((modW m++m.frame.map num).map List.length).sum+(modW m++m.frame.map num).length<=10000000:=by
 have h0:=label_len h.1
 have h1:=label_len h.2.1
 have h2:=relyT_len m.rely
 have h3:=text_len m.guar
 have e1:=words_sum (modW m++m.frame.map num) 36000 (fun w hw=>by
  rcases List.mem_append.1 hw with hw | hw
  ·simp only [modW,List.mem_cons,List.not_mem_nil,or_false] at hw
   rcases hw with rfl | rfl | rfl | rfl | rfl <;> first | omega | simp
  ·obtain ⟨z,hz,rfl⟩:=List.mem_map.1 hw
   have:=num_len z (h.2.2 z hz); omega)
 have e2:(modW m++m.frame.map num).length<=65:=by
  rw [List.length_append,List.length_map]
  have:(modW m).length=5:=rfl
  omega
 have e3:(modW m++m.frame.map num).length*(36000+1)<=65*(36000+1):=Nat.mul_le_mul_right _ e2
 omega
theorem lock_sum {l:Lock} (h:inI l.cell/\inI l.module):((lockW l).map List.length).sum+(lockW l).length<=40000:=by
 have h1:=num_len l.cell h.1
 have h2:=num_len l.module h.2
 have h3:=text_len l.inv
 simp only [lockW,List.map_cons,List.map_nil,List.sum_cons,List.sum_nil,List.length_cons,List.length_nil]
 omega
theorem textM_len {p:Prog} (hn:Nums p) (hf:p.few):(p.cells.flatMap cellT).length+(p.modules.flatMap modT).length+(p.locks.flatMap lockT).length+(p.threads.flatMap threadT).length<=10000000000:=by
 have h1:=flatMap_len cellT p.cells 1001 (fun c hc=>line_le (cell_sum (hn.cell c hc)))
 have h2:=flatMap_len modT p.modules 10000001 (fun m hm=>line_le (mod_sum (hn.mods m hm) (hf.frame m hm)))
 have h3:=flatMap_len lockT p.locks 40001 (fun l hl=>line_le (lock_sum (hn.lock l hl)))
 have h4:=flatMap_len threadT p.threads 1000000000 (fun x hx=>threadT_len (thrOk_of hn hf hx))
 obtain ⟨l1,l2,l3,l4⟩:=hn.lens
 have m1:p.cells.length*1001<=32*1001:=Nat.mul_le_mul_right _ l1
 have m2:p.modules.length*10000001<=6*10000001:=Nat.mul_le_mul_right _ l2
 have m3:p.locks.length*40001<=4*40001:=Nat.mul_le_mul_right _ l3
 have m4:p.threads.length*1000000000<=4*1000000000:=Nat.mul_le_mul_right _ l4
 omega
theorem lineN_den {h:Nat->Option O} {n kb kw m:Nat} {l:List UInt8} (ws:List (List UInt8)) (hm:ws.length=m) (hk:h kw=some (.rows 1 (rowsW ws) false)) (hb:Bld h kb l) (hn:Fresh h n)
 (hl:l.length+(ws.map List.length).sum+ws.length+1<=1099511627776) :
 ∃ r h' n',DenR Γ G 241 [.mp kb 0 0, .ms kw 0 m] h n=some (r,h',n')/\(r = .tup []/\Bld h' kb (l++lineT ws)/\KeepR h h' /\ n<=n' /\ Fresh h' n'):=by
 subst hm
 exact line_den hk hb hn hl
theorem textProg_den (p:Prog) (hs:p.sane) (hf:p.few):Den Γ G 219 [(.agg [.t (.sl ((p).cells.map (Cell.enc))), .t (.sl ((p).modules.map (Contract.enc))), .t (.sl ((p).locks.map (Lock.enc))), .t (.sl ((p).threads.map (Thread.enc)))])]=some (.t (.str (bs (textP p)))):=by
 (refine den_ofY Γ219 rfl ?_; dsimp only [f219])
 have hv:=validP7_den p hs
 simp -dsimp -implicitDefEqProofs only [go_sem,seval,hv]
 refine csplit (fun h => ?_) (fun h => ?_) <;> (try rw [h]) <;> (try simp only [bools] at h) <;> (try simp -dsimp -implicitDefEqProofs only [go_sem,seval])
 ·have h0 : ¬ (validM p).1=0:=by simpa using h
  simp [textP,h0]
 ·have h0:(validM p).1=0:=by simpa using h
  have hn:=nums_of (p:=p) h0
  have hlen:=textM_len hn hf
  obtain ⟨l1,l2,l3,l4⟩:=hn.lens
  have htp:textP p=textM p:=by unfold textP; rw [if_pos h0]
  refine loopYH 72057593769492992 p.cells.length (fun i f hh y=>(f 28).v=vi i/\Bld hh 13 ((p.cells.take i).flatMap cellT)/\Fresh hh y) rfl ?_ ?_
  ·refine ⟨by simp -dsimp -implicitDefEqProofs only [go_sem,seval], .inl ⟨by simp -dsimp -implicitDefEqProofs only [go_sem,seval],rfl⟩,fun q hq => ?_⟩
   simp only [addC_eq,List.length_cons,List.length_nil] at hq
   simp -dsimp -implicitDefEqProofs only [go_sem,seval]
   rw [if_neg (by omega)]
  rintro i f u hh y bq hi ⟨h28,hb,hfr⟩
  have hw:=wrapS i (by omega)
  simp -dsimp -implicitDefEqProofs only [go_sem,seval,h28]
  refine csplit (fun h => ?_) (fun h => ?_) <;> (try rw [h]) <;> (try simp only [bools] at h) <;> (try simp -dsimp -implicitDefEqProofs only [go_sem,seval,h28])
  ·obtain ⟨c,hc,hcm⟩:=get_of ‹i<p.cells.length›
   have hcn:=hn.cell c hcm
   have i1:=itoa_den c.w hcn.2.1
   have i2:=itoa_den c.init hcn.2.2.1
   have i3:=itoa_den c.thread hcn.2.2.2.1
   have i4:=itoa_den c.module hcn.2.2.2.2
   have f1:=flagT_den c.ghost
   have hfs:=flatMap_succ cellT hc
   have hft:=flatMap_take cellT p.cells i
   have hcs:=cell_sum hcn
   simp -dsimp -implicitDefEqProofs only [go_sem,seval,h28,hc,i1,i2,i3,i4,f1]
   refine rawK_of (lineF_den (cellW c) hb hfr (by omega) (by omega) (by omega)) ?_
   rintro r h2 n2 ⟨rfl,hb2,hk2,hn2,hf2⟩
   simp -dsimp -implicitDefEqProofs only [go_sem,seval,h28,hw]
   refine ⟨by omega,by simp -dsimp -implicitDefEqProofs only [go_sem,seval,hw], ?_,hf2.mono (by simp only [addC_eq]; omega)⟩
   rw [hfs]
   exact hb2
  ·have:i=p.cells.length:=by omega
   subst this
   rw [List.take_length] at hb
   generalize hp0:p.cells.flatMap cellT=pre at hb hlen
   refine loopYH 19342812537373314491881472 p.modules.length (fun i f hh y=>(f 59).v=vi i/\Bld hh 13 (pre++(p.modules.take i).flatMap modT)/\Fresh hh y) rfl ?_ ?_
   ·exact ⟨by simp -dsimp -implicitDefEqProofs only [go_sem,seval],by simpa using hb,hfr.mono (by simp only [addC_eq]; omega)⟩
   clear hb hfr h28
   rintro i f1 u1 hh1 y1 bq1 hi1 ⟨h59,hb,hfr⟩
   have hw:=wrapS i (by omega)
   simp -dsimp -implicitDefEqProofs only [go_sem,seval,h59]
   refine csplit (fun h => ?_) (fun h => ?_) <;> (try rw [h]) <;> (try simp only [bools] at h) <;> (try simp -dsimp -implicitDefEqProofs only [go_sem,seval,h59])
   ·obtain ⟨m,hm,hmm⟩:=get_of ‹i<p.modules.length›
    have hmn:=hn.mods m hmm
    have hmf:=hf.frame m hmm
    have t1:=textP_den m.rely
    have t2:=textP_den m.guar
    have a1:=absentP_den m.rely
    have hfs:=flatMap_succ modT hm
    have hft:=flatMap_take modT p.modules i
    have hms:=mod_sum hmn hmf
    have hl5:(modW m).length+m.frame.length<2^30:=by have:(modW m).length=5:=rfl; omega
    simp -dsimp -implicitDefEqProofs only [go_sem,seval,h59,hm,a1]
    cases hab:m.rely.absent
    ·have hmw:modW m=[[109,111,100,117,108,101],byt m.name,byt m.owner,m.rely.text,m.guar.text]:=by
      unfold modW relyT
      rw [hab]; rfl
     rw [hmw] at hms hl5
     simp -dsimp -implicitDefEqProofs only [go_sem,seval,hab,t1,t2]
     refine rawK_of (withF_den [[109,111,100,117,108,101],byt m.name,byt m.owner,m.rely.text,m.guar.text] m.frame hb hfr (by omega) hmn.2.2 hl5) ?_
     rintro r h2 n2 ⟨k,rfl,hk2,hb2,hkr2,hn2,hf2⟩
     simp -dsimp -implicitDefEqProofs only [go_sem,seval]
     refine rawK_of (lineN_den ([[109,111,100,117,108,101],byt m.name,byt m.owner,m.rely.text,m.guar.text]++m.frame.map num) (by simp) hk2 hb2 (hf2.mono (by omega)) (by simp only [List.length_append] at hms ⊢; omega)) ?_
     rintro r h3 n3 ⟨rfl,hb3,hk3,hn3,hf3⟩
     simp -dsimp -implicitDefEqProofs only [go_sem,seval,h59,hw]
     refine ⟨by omega,by simp -dsimp -implicitDefEqProofs only [go_sem,seval,hw], ?_,hf3.mono (by simp only [addC_eq]; omega)⟩
     rw [hfs,show modT m=lineT (modW m++m.frame.map num) from rfl,hmw]
     simpa only [List.append_assoc] using hb3
    ·have hmw:modW m=[[109,111,100,117,108,101],byt m.name,byt m.owner,[110,111,110,101],m.guar.text]:=by
      unfold modW relyT
      rw [hab]; rfl
     rw [hmw] at hms hl5
     simp -dsimp -implicitDefEqProofs only [go_sem,seval,hab,t1,t2]
     refine rawK_of (withF_den [[109,111,100,117,108,101],byt m.name,byt m.owner,[110,111,110,101],m.guar.text] m.frame hb hfr (by omega) hmn.2.2 hl5) ?_
     rintro r h2 n2 ⟨k,rfl,hk2,hb2,hkr2,hn2,hf2⟩
     simp -dsimp -implicitDefEqProofs only [go_sem,seval]
     refine rawK_of (lineN_den ([[109,111,100,117,108,101],byt m.name,byt m.owner,[110,111,110,101],m.guar.text]++m.frame.map num) (by simp) hk2 hb2 (hf2.mono (by omega)) (by simp only [List.length_append] at hms ⊢; omega)) ?_
     rintro r h3 n3 ⟨rfl,hb3,hk3,hn3,hf3⟩
     simp -dsimp -implicitDefEqProofs only [go_sem,seval,h59,hw]
     refine ⟨by omega,by simp -dsimp -implicitDefEqProofs only [go_sem,seval,hw], ?_,hf3.mono (by simp only [addC_eq]; omega)⟩
     rw [hfs,show modT m=lineT (modW m++m.frame.map num) from rfl,hmw]
     simpa only [List.append_assoc] using hb3
   ·have:i=p.modules.length:=by omega
    subst this
    rw [List.take_length] at hb
    generalize hp1:pre++p.modules.flatMap modT=pre1 at hb
    have hprel1:pre1.length=pre.length+(p.modules.flatMap modT).length:=by rw [<- hp1]; simp only [List.length_append]
    refine loopYH 40564664464798430175360140197888 p.locks.length (fun i f hh y=>(f 87).v=vi i/\Bld hh 13 (pre1++(p.locks.take i).flatMap lockT)/\Fresh hh y) rfl ?_ ?_
    ·exact ⟨by simp -dsimp -implicitDefEqProofs only [go_sem,seval],by simpa using hb,hfr.mono (by simp only [addC_eq]; omega)⟩
    clear hb hfr h59
    rintro i f1 u1 hh1 y1 bq1 hi1 ⟨h87,hb,hfr⟩
    have hw:=wrapS i (by omega)
    simp -dsimp -implicitDefEqProofs only [go_sem,seval,h87]
    refine csplit (fun h => ?_) (fun h => ?_) <;> (try rw [h]) <;> (try simp only [bools] at h) <;> (try simp -dsimp -implicitDefEqProofs only [go_sem,seval,h87])
    ·obtain ⟨k,hk,hkm⟩:=get_of ‹i<p.locks.length›
     have hkn:=hn.lock k hkm
     have i1:=itoa_den k.cell hkn.1
     have i2:=itoa_den k.module hkn.2
     have t1:=textP_den k.inv
     have hfs:=flatMap_succ lockT hk
     have hft:=flatMap_take lockT p.locks i
     have hks:=lock_sum hkn
     simp -dsimp -implicitDefEqProofs only [go_sem,seval,h87,hk,i1,i2,t1]
     refine rawK_of (lineF_den (lockW k) hb hfr (by omega) (by simp only [List.length_append]; omega) (by omega)) ?_
     rintro r h2 n2 ⟨rfl,hb2,hk2,hn2,hf2⟩
     simp -dsimp -implicitDefEqProofs only [go_sem,seval,h87,hw]
     refine ⟨by omega,by simp -dsimp -implicitDefEqProofs only [go_sem,seval,hw], ?_,hf2.mono (by simp only [addC_eq]; omega)⟩
     rw [hfs,show lockT k=lineT (lockW k) from rfl]
     simpa only [List.append_assoc] using hb2
    ·have:i=p.locks.length:=by omega
     subst this
     rw [List.take_length] at hb
     generalize hp2:pre1++p.locks.flatMap lockT=pre2 at hb
     have hprel2:pre2.length=pre1.length+(p.locks.flatMap lockT).length:=by rw [<- hp2]; simp only [List.length_append]
     refine loopYH 41213856314620194301460814613250048 p.threads.length (fun i f hh y=>(f 108).v=vi i/\Bld hh 13 (pre2++(p.threads.take i).flatMap threadT)/\Fresh hh y) rfl ?_ ?_
     ·exact ⟨by simp -dsimp -implicitDefEqProofs only [go_sem,seval],by simpa using hb,hfr.mono (by simp only [addC_eq]; omega)⟩
     clear hb hfr h87
     rintro i f1 u1 hh1 y1 bq1 hi1 ⟨h108,hb,hfr⟩
     have hw:=wrapS i (by omega)
     simp -dsimp -implicitDefEqProofs only [go_sem,seval,h108]
     refine csplit (fun h => ?_) (fun h => ?_) <;> (try rw [h]) <;> (try simp only [bools] at h) <;> (try simp -dsimp -implicitDefEqProofs only [go_sem,seval,h108])
     ·obtain ⟨x,hx,hxm⟩:=get_of ‹i<p.threads.length›
      have hto:=thrOk_of hn hf hxm
      have hfs:=flatMap_succ threadT hx
      have hft:=flatMap_take threadT p.threads i
      have htl:=threadT_len hto
      simp -dsimp -implicitDefEqProofs only [go_sem,seval,h108,hx]
      refine rawK_of (wthread_den hto hb (hfr.mono (by omega)) (by simp only [List.length_append]; omega)) ?_
      rintro r h2 n2 ⟨rfl,hb2,hk2,hn2,hf2⟩
      simp -dsimp -implicitDefEqProofs only [go_sem,seval,h108,hw]
      refine ⟨by omega,by simp -dsimp -implicitDefEqProofs only [go_sem,seval,hw], ?_,hf2.mono (by simp only [addC_eq]; omega)⟩
      rw [hfs]
      simpa only [List.append_assoc] using hb2
     ·have:i=p.threads.length:=by omega
      subst this
      rw [List.take_length] at hb
      refine rawK_of (bldG_den hb) ?_
      rintro r h3 n3 rfl
      simp -dsimp -implicitDefEqProofs only [go_sem,seval]
      rw [htp,textM, <- hp2, <- hp1, <- hp0]
end Rg
end
section
namespace Rg
open Go
theorem intsOf_rowsI : ∀ l:List Int,intsOf (rowsI l)=some l
 | []=>rfl
 | a::l=>by
  have:rowsI (a::l)=[.t (.int .i64 a)]::rowsI l:=rfl
  rw [this,intsOf,intsOf_rowsI l]; rfl
theorem ofInts_rowsI (l:List Int):ofInts l=rowsI l:=by simp [ofInts,rowsI]
theorem rowsI_tt (h:Nat->Option O) (d:Nat) (l:List Int):(rowsI l).mapM (fun row=>row.mapM (toT h d))=some (l.map fun n=>[ti n]):=rows_toT h d (l.map fun n=>[ti n]) (ints_norm _)
def sortedM (l:List Int):List Int:=Go.Lib.compact (l.mergeSort fun x y=>decide (x<=y))
theorem compact_mem (l:List Int) (x:Int):x∈Go.Lib.compact l<->x∈l:=by
 unfold Go.Lib.compact Go.Lib.compactUpTo
 simp only [List.mem_map,List.mem_filter,List.mem_range]
 constructor
 ·rintro ⟨j,⟨hj,_⟩,rfl⟩
  simp [hj]
 ·intro hx
  obtain ⟨i,hi⟩:=List.getElem?_of_mem hx
  have key : ∀ i:Nat,l[i]? = some x -> ∃ a,(a<l.length/\Go.Lib.keeps l.toArray a=true)/\l.toArray[a]! = x:=by
   intro i
   induction i with
   | zero =>
    intro h
    obtain ⟨h1,h2⟩:=List.getElem?_eq_some_iff.1 h
    exact ⟨0,⟨h1,by simp [Go.Lib.keeps]⟩,by simp [h1,h2]⟩
   | succ i ih =>
    intro h
    obtain ⟨h1,h2⟩:=List.getElem?_eq_some_iff.1 h
    by_cases he:l[i]? = some x
    ·exact ih he
    ·refine ⟨i+1,⟨h1, ?_⟩,by simp [h1,h2]⟩
     have hi:i<l.length:=by omega
     have : ¬ l[i+1]=l[i]:=by
      intro hh
      rw [List.getElem?_eq_getElem hi] at he
      exact he (by rw [<- hh,h2])
     simp [Go.Lib.keeps,h1,hi,this]
  exact key i hi
theorem sortedM_mem (l:List Int) (x:Int):x∈sortedM l<->x∈l:=by
 rw [sortedM,compact_mem,List.mem_mergeSort]
theorem compactL (l:List Int):(Go.Lib.compact l).length<=l.length:=by
 unfold Go.Lib.compact Go.Lib.compactUpTo
 rw [List.length_map]
 exact Nat.le_trans (List.length_filter_le _ _) (by simp)
theorem sortedM_len (l:List Int):(sortedM l).length<=l.length:=by
 have:=compactL (l.mergeSort fun x y=>decide (x<=y))
 rwa [List.length_mergeSort] at this
def Shown (h:Nat->Option O) (r:V) (l:List Int):Prop:=(r = .t .nils/\l=[]) \/ ∃ k m,r = .ms k 0 l.length/\h k=some (.rows 1 (rowsI (l++m)) false)
theorem sorted_den (H:Nat->Option O) (x n:Nat) (v:V) (l:List Int) (ho:OwnB H x v 1 (rowsI l)) (hl:l.length<2^40) :
 ∃ r h' n',DenR Γ G 57 [v] H n=some (r,h',n')/\Shown h' r (sortedM l):=by
 (refine denR_ofY Γ57 rfl ?_; dsimp only [f57])
 rcases ho with ⟨rfl,hr⟩ | ⟨k,rfl,hk,hh⟩
 ·have hl0:l=[]:=by
   have:=congrArg List.length hr
   rw [rowsI_len] at this
   exact List.eq_nil_of_length_eq_zero this
  subst hl0
  have a1 : ∀ n,DenR Γ G 74 [.t .nils] H n=some (.tup [],H,n):=fun n=>denR_ext Γ74 rfl rfl rfl
  have a2 : ∀ n,DenR Γ G 75 [.t .nils] H n=some (.t .nils,H,n):=fun n=>denR_ext Γ75 rfl rfl rfl
  simp -dsimp -implicitDefEqProofs only [go_sem,seval,a1,a2]
  exact .inl ⟨rfl,by rw [sortedM,List.mergeSort_nil]; rfl⟩
 ·rw [rowsI_len]
  have s1:(l.mergeSort fun x y=>decide (x<=y)).length=l.length:=List.length_mergeSort _
  have a1 : ∀ n,DenR Γ G 74 [.ms k 0 l.length] H n=some (.tup [],upd H k (some (.rows 1 (rowsI (l.mergeSort fun x y=>decide (x<=y))) false)),n):=fun n=>denR_ext Γ74 rfl rfl (by
   simp only [extSem,hh,intsOf_rowsI,Option.bind_some,ofInts_rowsI]
   rw [if_pos (by exact ⟨trivial,by omega⟩)])
  have a2 : ∀ n,DenR Γ G 75 [.ms k 0 l.length] (upd H k (some (.rows 1 (rowsI (l.mergeSort fun x y=>decide (x<=y))) false))) n=some (.ms k 0 (sortedM l).length,upd (upd H k (some (.rows 1 (rowsI (l.mergeSort fun x y=>decide (x<=y))) false))) k (some (.rows 1 (rowsI (sortedM l++List.replicate (l.length-(sortedM l).length) 0)) false)),n):=fun n=>denR_ext Γ75 rfl rfl (by
   simp only [extSem,upd_same,intsOf_rowsI,Option.bind_some,ofInts_rowsI]
   rw [if_pos ⟨s1,by omega⟩,s1]; rfl)
  simp -dsimp -implicitDefEqProofs only [go_sem,seval,a1,a2]
  exact .inr ⟨k,_,rfl,upd_same _ _ _⟩
def writesM (s:Step):List Int:=sortedM (s.set.map Assign.cell)
theorem writes_den (s:Step) (hs:s.set.length<2^31):Den Γ G 28 [(.agg [.t (ti (s).kind), .t (ti (s).fr), .t (ti (s).to), .t (ti ((s).guard).op), .t (ti ((s).guard).w), .t (ti ((s).guard).n), .t (.sl (((s).guard).kids.map Expr.enc)), .t (.sl ((s).set.map Assign.enc)), .t (tb (s).release), .t (ti (s).target), .t (ti (s).module)])]=some (.t (ints (writesM s))):=by
 (refine den_ofY Γ28 rfl ?_; dsimp only [f28])
 simp -dsimp -implicitDefEqProofs only [go_sem,seval]
 refine loopYH 523816 s.set.length (fun i f h x=>(f 9).v=vi i/\OwnB h x (f 3).v 1 (rowsI ((s.set.map Assign.cell).take i))) rfl ⟨by simp -dsimp -implicitDefEqProofs only [go_sem,seval], .inl ⟨by simp -dsimp -implicitDefEqProofs only [go_sem,seval],rfl⟩⟩ ?_
 rintro i f u H x bs hi ⟨h9,hown⟩
 have hw:=wrapS i (by omega)
 simp -dsimp -implicitDefEqProofs only [go_sem,seval,h9]
 refine csplit (fun h => ?_) (fun h => ?_) <;> (try rw [h]) <;> (try simp only [bools] at h) <;> (try simp -dsimp -implicitDefEqProofs only [go_sem,seval,h9])
 ·obtain ⟨a,ha,_⟩:=get_of ‹i<s.set.length›
  have ha' : (s.set.map Assign.cell)[i]? = some a.cell:=by simp [ha]
  have v1:=hown.valOf
  have v2:=hown.r2
  have v3:=hown.r3
  simp -dsimp -implicitDefEqProofs only [go_sem,seval,h9,ha,v1,v2,v3]
  refine putA_app1 (hown.upd (by omega) _) (by omega) (by rw [rowsI_len]; simp; omega) (by decide) rfl (rowsI_all _) ?_
  intro v hp hO hoffs hkeep
  have w1:=hO.valOf
  rw [show rowsI ((s.set.map Assign.cell).take i)++[[V.t (ti a.cell)]]=rowsI ((s.set.map Assign.cell).take (i+1)) from by rw [take_succ_of ha',rowsI_app]] at hO
  simp -dsimp -implicitDefEqProofs only [go_sem,seval,w1,h9]
  exact ⟨by omega,by simp -dsimp -implicitDefEqProofs only [go_sem,seval,hw],by simp -dsimp -implicitDefEqProofs only [go_sem,seval]; exact hO.le (by omega)⟩
 ·have:i=s.set.length:=by omega
  subst this
  rw [show (s.set.map Assign.cell).take s.set.length=s.set.map Assign.cell from List.take_of_length_le (by simp)] at hown
  have v1:=hown.valOf
  simp -dsimp -implicitDefEqProofs only [go_sem,seval,v1]
  refine rawK_of (sorted_den H x _ _ _ hown (by simp; omega)) ?_
  rintro r h' n' hsh
  rcases hsh with ⟨rfl,he⟩ | ⟨k,m,rfl,hk⟩
  ·simp -dsimp -implicitDefEqProofs only [go_sem,seval]
   rw [writesM,he]; rfl
  ·have q1:List.take (sortedM (s.set.map Assign.cell)).length (rowsI (sortedM (s.set.map Assign.cell)++m))=rowsI (sortedM (s.set.map Assign.cell)):=by simp [rowsI]
   have q2:(rowsI (sortedM (s.set.map Assign.cell)++m)).length=(sortedM (s.set.map Assign.cell)).length+m.length:=by rw [rowsI_len,List.length_append]
   simp -dsimp -implicitDefEqProofs only [go_sem,seval,hk,q1,q2,Nat.le_add_right,rowsI_tt]
   rfl
theorem marked_mem (l:List Bool) (m:Nat) (n:Nat):(n:Int)∈marked l m<->n<m/\l.getD n false=true:=by
 unfold marked
 simp only [List.mem_map,List.mem_filter,List.mem_range]
 constructor
 ·rintro ⟨j,⟨hj,hg⟩,he⟩
  have:j=n:=by omega
  subst this
  exact ⟨hj,hg⟩
 ·rintro ⟨hj,hg⟩
  exact ⟨n,⟨hj,hg⟩,rfl⟩
theorem fold_mark_keep (op:Int) (n:Nat) : ∀ (l:List Expr) (s:List Bool),s.getD n false=true->(l.foldl (markS op) s).getD n false=true
 | [],s,h=>h
 | x::l,s,h=>by
  rw [List.foldl_cons]
  refine fold_mark_keep op n l _ ?_
  unfold markS
  split
  ·rw [List.getD_eq_getElem?_getD,List.getElem?_set]
   split
   ·split
    ·rfl
    ·rename_i he hlt
     subst he
     rw [List.getD_eq_getElem?_getD,List.getElem?_eq_none (by omega)] at h
     simp at h
   ·rw [<- List.getD_eq_getElem?_getD]; exact h
  ·exact h
theorem fold_mark (op:Int) {n:Nat} : ∀ (l:List Expr) (s:List Bool),n<s.length->(∃ x∈l,x.op=op/\x.n.toNat=n)->(l.foldl (markS op) s).getD n false=true
 | [],s,_,h=>by obtain ⟨x,hx,_⟩:=h; simp at hx
 | y::l,s,hn,h=>by
  rw [List.foldl_cons]
  by_cases hy:y.op=op/\y.n.toNat=n
  ·refine fold_mark_keep op n l _ ?_
   rw [markS,if_pos hy.1,List.getD_eq_getElem?_getD,List.getElem?_set,if_pos hy.2,if_pos (by omega)]; rfl
  ·refine fold_mark op l _ (by rw [markS_len]; exact hn) ?_
   obtain ⟨x,hx,h1⟩:=h
   rcases List.mem_cons.1 hx with rfl | hx
   ·exact absurd h1 hy
   ·exact ⟨x,hx,h1⟩
def readsM (s:Step):List Int:=sortedM (s.guard.sup 2++s.set.flatMap fun a=>a.to.sup 2)
def readsL (s:Step) (i:Nat):List Int:=s.guard.sup 2++(s.set.take i).flatMap fun a=>a.to.sup 2
theorem readsL_len (s:Step) (i:Nat):(readsL s i).length<=32+32*i:=by
 unfold readsL
 have h0:=sup_len 2 s.guard
 have : ∀ l:List Assign,(l.flatMap fun a=>a.to.sup 2).length<=32*l.length:=by
  intro l
  induction l with
  | nil=>simp
  | cons a l ih =>
   have:=sup_len 2 a.to
   simp only [List.flatMap_cons,List.length_append,List.length_cons]
   omega
 have h1:=this (s.set.take i)
 have h2:(s.set.take i).length<=i:=by simp; omega
 rw [List.length_append]; omega
theorem readsL_succ {s:Step} {i:Nat} {a:Assign} (h:s.set[i]? = some a):readsL s (i+1)=readsL s i++a.to.sup 2:=by
 unfold readsL
 rw [take_succ_of h,List.flatMap_append,List.append_assoc]
 simp
theorem reads_den (s:Step) (hs:s.set.length<2^20):Den Γ G 31 [(.agg [.t (ti (s).kind), .t (ti (s).fr), .t (ti (s).to), .t (ti ((s).guard).op), .t (ti ((s).guard).w), .t (ti ((s).guard).n), .t (.sl (((s).guard).kids.map Expr.enc)), .t (.sl ((s).set.map Assign.enc)), .t (tb (s).release), .t (ti (s).target), .t (ti (s).module)])]=some (.t (ints (readsM s))):=by
 (refine den_ofY Γ31 rfl ?_; dsimp only [f31])
 simp -dsimp -implicitDefEqProofs only [go_sem,seval]
 refine rawK_of (nxt_of (supportP_den s.guard _ _)) ?_
 rintro r h0 n0 ⟨⟨u3,u2,rfl,o3,o2,_,_⟩,hn0⟩
 have x3:=o3.valOf
 have x2:=o2.valOf
 simp -dsimp -implicitDefEqProofs only [go_sem,seval,x3,x2]
 refine loopYH 4294705616 s.set.length (fun i f h x=>(f 18).v=vi i/\OwnB h x (f 4).v 1 (rowsI (readsL s i))) rfl ⟨by simp -dsimp -implicitDefEqProofs only [go_sem,seval], ?_⟩ ?_
 ·simp -dsimp -implicitDefEqProofs only [go_sem,seval]
  have:readsL s 0=s.guard.sup 2:=by simp [readsL]
  rw [this]
  exact o2.le (by omega)
 rintro i f u H x bs hi ⟨h18,hown⟩
 have hw:=wrapS i (by omega)
 simp -dsimp -implicitDefEqProofs only [go_sem,seval,h18]
 refine csplit (fun h => ?_) (fun h => ?_) <;> (try rw [h]) <;> (try simp only [bools] at h) <;> (try simp -dsimp -implicitDefEqProofs only [go_sem,seval,h18])
 ·obtain ⟨a,ha,_⟩:=get_of ‹i<s.set.length›
  have v1:=hown.valOf
  simp -dsimp -implicitDefEqProofs only [go_sem,seval,h18,ha,v1]
  refine rawK_of (nxt_of (supportP_den a.to _ _)) ?_
  rintro r h1 n1 ⟨⟨w3,w2,rfl,p3,p2,hle1,hkp⟩,hn1⟩
  have y3:=p3.valOf
  have y2:=p2.valOf
  have hown' : OwnB h1 n1 (f 4).v 1 (rowsI (readsL s i)):=hown.keep (by omega) (fun k hk _=>(hkp k (by omega)).1)
  have z1:=hown'.rowsS
  have z2:=p2.rowsS
  simp -dsimp -implicitDefEqProofs only [go_sem,seval,h18,v1,y3,y2,z1,z2]
  have hrl:=readsL_len s i
  have hsl:=sup_len 2 a.to
  refine putA_app hown' (by omega) (by rw [rowsI_len,rowsI_len]; omega) (by decide) (rowsI_all _) (rowsI_all _) ?_
  intro v hp hO _ _
  have hap:rowsI (readsL s i)++rowsI (a.to.sup 2)=rowsI (readsL s (i+1)):=by rw [readsL_succ ha]; simp [rowsI]
  rw [hap] at hO
  have w1:=hO.valOf
  simp -dsimp -implicitDefEqProofs only [go_sem,seval,w1,h18]
  exact ⟨by omega,by simp -dsimp -implicitDefEqProofs only [go_sem,seval,hw],by simp -dsimp -implicitDefEqProofs only [go_sem,seval]; exact hO.le (by omega)⟩
 ·have:i=s.set.length:=by omega
  subst this
  have v1:=hown.valOf
  have hrl:=readsL_len s s.set.length
  simp -dsimp -implicitDefEqProofs only [go_sem,seval,v1]
  refine rawK_of (sorted_den H x _ _ _ hown (by omega)) ?_
  rintro r h' n' hsh
  have hrm:readsM s=sortedM (readsL s s.set.length):=by simp [readsM,readsL]
  rw [hrm]
  rcases hsh with ⟨rfl,he⟩ | ⟨k,m,rfl,hk⟩
  ·simp -dsimp -implicitDefEqProofs only [go_sem,seval]
   (try (rw [he]; rfl))
  ·have q1:List.take (sortedM (readsL s s.set.length)).length (rowsI (sortedM (readsL s s.set.length)++m))=rowsI (sortedM (readsL s s.set.length)):=by simp [rowsI]
   have q2:(rowsI (sortedM (readsL s s.set.length)++m)).length=(sortedM (readsL s s.set.length)).length+m.length:=by rw [rowsI_len,List.length_append]
   simp -dsimp -implicitDefEqProofs only [go_sem,seval,hk,q1,q2,Nat.le_add_right,rowsI_tt]
   (try rfl)
theorem zipA_drop {α:Type} {a b:List α} (h:a.length=b.length):(a.zip b).length=a.length:=by rw [List.length_zip]; omega
theorem zipA_get {α:Type} {a b:List α} {i:Nat} {x y:α} (hx:a[i]? = some x) (hy:b[i]? = some y):(a.zip b)[i]? = some (x,y):=by rw [List.getElem?_zip_eq_some]; exact ⟨hx,hy⟩
theorem zipA_eq {α:Type} [DecidableEq α] : ∀ {a b:List α},a.length=b.length->((a.zip b).all fun q=>decide (q.1=q.2))=decide (a=b)
 | [],[],_=>rfl
 | x::a,y::b,h=>by
  rw [List.zip_cons_cons,List.all_cons,zipA_eq (by simpa using h)]
  by_cases h1:x=y <;> by_cases h2:a=b <;> simp [h1,h2]
theorem ints_den (a b:List Int) (hl:a.length<2^40):Den Γ G 221 [.t (ints a), .t (ints b)]=some (vb (decide (a=b))):=by
 (refine den_ofY Γ221 rfl ?_; dsimp only [f221])
 simp -dsimp -implicitDefEqProofs only [go_sem,seval]
 by_cases hlen:a.length=b.length
 ·have hl' : decide (¬ (a.length:Int)=b.length)=false:=by simp [hlen]
  simp -dsimp -implicitDefEqProofs only [go_sem,seval,hl']
  rw [<- zipA_eq hlen]
  have hzl:=zipA_drop hlen
  refine loopY 67106864 a.length (fun i f=>(f 5).v=vi i/\((a.zip b).all fun q=>decide (q.1=q.2))=((a.zip b).drop i).all fun q=>decide (q.1=q.2)) rfl rfl ⟨by simp -dsimp -implicitDefEqProofs only [go_sem,seval],rfl⟩ ?_
  rintro i f u kk bb hi ⟨h5,hall⟩
  have hw:=wrapS i (by omega)
  simp -dsimp -implicitDefEqProofs only [go_sem,seval,h5]
  refine csplit (fun h => ?_) (fun h => ?_) <;> (try rw [h]) <;> (try simp only [bools] at h) <;> (try simp -dsimp -implicitDefEqProofs only [go_sem,seval,h5])
  ·obtain ⟨x,hx,_⟩:=get_of ‹i<a.length›
   obtain ⟨y,hy,_⟩:=get_of (show i<b.length by omega)
   have hz:=zipA_get hx hy
   simp -dsimp -implicitDefEqProofs only [go_sem,seval,h5,hx,hy]
   refine csplit (fun h => ?_) (fun h => ?_) <;> (try rw [h]) <;> (try simp only [bools] at h) <;> (try simp -dsimp -implicitDefEqProofs only [go_sem,seval,h5])
   ·rw [hall,all_stop hz (by simpa using h)]
   ·refine ⟨by omega,by simp -dsimp -implicitDefEqProofs only [go_sem,seval,hw], ?_⟩
    rw [hall,all_step hz (by simpa using h)]
  ·have:i=a.length:=by omega
   subst this
   have hz:=all_end (fun q:Int×Int=>decide (q.1=q.2)) (a.zip b)
   rw [hzl] at hz
   rw [hall,hz]
 ·have hl' : decide (¬ (a.length:Int)=b.length)=true:=by simp; omega
  simp -dsimp -implicitDefEqProofs only [go_sem,seval,hl']
  have : ¬ a=b:=fun h=>hlen (by rw [h])
  simp [this]
def idxN {α:Type} (f:α->Bool) (l:List α) (i:Nat):List Int:=((l.take i).zipIdx.filter fun q=>f q.1).map fun q=>(q.2:Int)
def idxM {α:Type} (f:α->Bool) (l:List α):List Int:=idxN f l l.length
theorem idxN_succ {α:Type} (f:α->Bool) {l:List α} {i:Nat} {x:α} (h:l[i]? = some x):idxN f l (i+1)=idxN f l i++if f x then [(i:Int)] else []:=by
 unfold idxN
 have hi:i<l.length:=(List.getElem?_eq_some_iff.1 h).1
 rw [take_succ_of h,List.zipIdx_append,List.filter_append,List.map_append]
 have e:0+(l.take i).length=i:=by simp; omega
 rw [e]
 cases hf:f x <;> simp [hf]
theorem idxN_len {α:Type} (f:α->Bool) (l:List α) (i:Nat):(idxN f l i).length<=i:=by
 unfold idxN
 rw [List.length_map]
 refine Nat.le_trans (List.length_filter_le _ _) ?_
 simp; omega
theorem idxN_zero {α:Type} (f:α->Bool) (l:List α):idxN f l 0=[]:=by simp [idxN]
def ofM (p:Prog) (t:Int):List Int:=idxM (fun c:Cell=>decide (c.thread=t)) p.cells
def localsM (p:Prog) (t:Int):List Int:=if t<0 then [] else ofM p t
def stepsM (p:Prog) (t k:Int):List Int:=if inR t p.threads.length then (match p.threads[t.toNat]? with
 | some x=>idxM (fun s:Step=>decide (s.fr=k)) x.steps
 | none=>[]) else []
theorem ofP_den (p:Prog) (t:Int) (hl:p.cells.length<2^31):Den Γ G 253 [(.agg [.t (.sl ((p).cells.map (Cell.enc))), .t (.sl ((p).modules.map (Contract.enc))), .t (.sl ((p).locks.map (Lock.enc))), .t (.sl ((p).threads.map (Thread.enc)))]),vi t]=some (.t (ints (ofM p t))):=by
 (refine den_ofY Γ253 rfl ?_; dsimp only [f253])
 simp -dsimp -implicitDefEqProofs only [go_sem,seval]
 refine loopYH 33552608 p.cells.length (fun i f h x=>(f 11).v=vi i/\OwnB h x (f 5).v 1 (rowsI (idxN (fun c:Cell=>decide (c.thread=t)) p.cells i))) rfl ⟨by simp -dsimp -implicitDefEqProofs only [go_sem,seval], .inl ⟨by simp -dsimp -implicitDefEqProofs only [go_sem,seval],by rw [idxN_zero]; rfl⟩⟩ ?_
 rintro i f u H x bq hi ⟨h11,hown⟩
 have hw:=wrapS i (by omega)
 simp -dsimp -implicitDefEqProofs only [go_sem,seval,h11]
 refine csplit (fun h => ?_) (fun h => ?_) <;> (try rw [h]) <;> (try simp only [bools] at h) <;> (try simp -dsimp -implicitDefEqProofs only [go_sem,seval,h11])
 ·obtain ⟨c,hc,_⟩:=get_of ‹i<p.cells.length›
  have hsucc:=idxN_succ (fun c:Cell=>decide (c.thread=t)) hc
  have hln:=idxN_len (fun c:Cell=>decide (c.thread=t)) p.cells i
  have v1:=hown.valOf
  have v2:=hown.r2
  have v3:=hown.r3
  have v4:=hown.r4
  simp -dsimp -implicitDefEqProofs only [go_sem,seval,h11,hc]
  refine csplit (fun h => ?_) (fun h => ?_) <;> (try rw [h]) <;> (try simp only [bools] at h) <;> (try simp -dsimp -implicitDefEqProofs only [go_sem,seval,h11])
  ·rw [if_pos (by simpa using h)] at hsucc
   simp -dsimp -implicitDefEqProofs only [go_sem,seval,h11,v1,v2,v3,v4]
   refine putA_app1 (hown.upd (by omega) _) (by omega) (by rw [rowsI_len]; simp; omega) (by decide) rfl (rowsI_all _) ?_
   intro v hp hO hoffs hkeep
   have w1:=hO.valOf
   rw [<- rowsI_app, <- hsucc] at hO
   simp -dsimp -implicitDefEqProofs only [go_sem,seval,w1,h11]
   exact ⟨by omega,by simp -dsimp -implicitDefEqProofs only [go_sem,seval,hw],by simp -dsimp -implicitDefEqProofs only [go_sem,seval]; exact hO.le (by omega)⟩
  ·rw [if_neg (by simpa using h),List.append_nil] at hsucc
   refine ⟨by omega,by simp -dsimp -implicitDefEqProofs only [go_sem,seval,hw], ?_⟩
   simp -dsimp -implicitDefEqProofs only [go_sem,seval,hsucc]
   exact hown.le (by omega)
 ·have:i=p.cells.length:=by omega
  subst this
  have v1:=hown.valOf
  have hre:=hown.reify (ints_norm _)
  have v5:=hown.resVal
  simp only [Rg.resVal] at v5
  simp -dsimp -implicitDefEqProofs only [go_sem,seval,v1,v5]
  exact hre
theorem sharedLP_den (p:Prog) (hl:p.cells.length<2^31):Den Γ G 228 [(.agg [.t (.sl ((p).cells.map (Cell.enc))), .t (.sl ((p).modules.map (Contract.enc))), .t (.sl ((p).locks.map (Lock.enc))), .t (.sl ((p).threads.map (Thread.enc)))])]=some (.t (ints (ofM p (-1)))):=by
 (refine den_ofY Γ228 rfl ?_; dsimp only [f228])
 have h1:=ofP_den p (-1) hl
 simp -dsimp -implicitDefEqProofs only [go_sem,seval,h1]
theorem localsP_den (p:Prog) (t:Int) (hl:p.cells.length<2^31):Den Γ G 226 [(.agg [.t (.sl ((p).cells.map (Cell.enc))), .t (.sl ((p).modules.map (Contract.enc))), .t (.sl ((p).locks.map (Lock.enc))), .t (.sl ((p).threads.map (Thread.enc)))]),vi t]=some (.t (ints (localsM p t))):=by
 (refine den_ofY Γ226 rfl ?_; dsimp only [f226])
 have h1:=ofP_den p t hl
 simp -dsimp -implicitDefEqProofs only [go_sem,seval,h1]
 refine csplit (fun h => ?_) (fun h => ?_) <;> (try rw [h]) <;> (try simp only [bools] at h) <;> (try simp -dsimp -implicitDefEqProofs only [go_sem,seval,h1])
 ·simp [localsM,h]
 ·simp [localsM,h]
theorem stepsP_den (p:Prog) (t k:Int) (hl : ∀ x∈p.threads,x.steps.length<2^31):Den Γ G 224 [(.agg [.t (.sl ((p).cells.map (Cell.enc))), .t (.sl ((p).modules.map (Contract.enc))), .t (.sl ((p).locks.map (Lock.enc))), .t (.sl ((p).threads.map (Thread.enc)))]),vi t,vi k]=some (.t (ints (stepsM p t k))):=by
 (refine den_ofY Γ224 rfl ?_; dsimp only [f224])
 have h1:=below_den t p.threads.length
 simp -dsimp -implicitDefEqProofs only [go_sem,seval,h1]
 cases hin:inR t p.threads.length
 ·simp -dsimp -implicitDefEqProofs only [go_sem,seval]
  simp [stepsM,hin]
 ·have hin' := hin
  simp only [inR,decide_eq_true_eq] at hin'
  have hlt:t.toNat<p.threads.length:=by omega
  obtain ⟨x,hx,hxm⟩:=get_of hlt
  have hsl:=hl x hxm
  have ht0:(0<=t)=True:=by apply eq_true; omega
  have hsm:stepsM p t k=idxM (fun s:Step=>decide (s.fr=k)) x.steps:=by simp [stepsM,hin,hx]
  rw [hsm]
  simp -dsimp -implicitDefEqProofs only [go_sem,seval,ht0,hx]
  refine loopYH 137430565760 x.steps.length (fun i f h y=>(f 23).v=vi i/\OwnB h y (f 7).v 1 (rowsI (idxN (fun s:Step=>decide (s.fr=k)) x.steps i))) rfl ⟨by simp -dsimp -implicitDefEqProofs only [go_sem,seval], .inl ⟨by simp -dsimp -implicitDefEqProofs only [go_sem,seval],by rw [idxN_zero]; rfl⟩⟩ ?_
  rintro i f u H y bq hi ⟨h23,hown⟩
  have hw:=wrapS i (by omega)
  simp -dsimp -implicitDefEqProofs only [go_sem,seval,h23]
  refine csplit (fun h => ?_) (fun h => ?_) <;> (try rw [h]) <;> (try simp only [bools] at h) <;> (try simp -dsimp -implicitDefEqProofs only [go_sem,seval,h23])
  ·obtain ⟨c,hc,_⟩:=get_of ‹i<x.steps.length›
   have hsucc:=idxN_succ (fun s:Step=>decide (s.fr=k)) hc
   have hln:=idxN_len (fun s:Step=>decide (s.fr=k)) x.steps i
   have v1:=hown.valOf
   have v2:=hown.r2
   have v3:=hown.r3
   have v4:=hown.r4
   simp -dsimp -implicitDefEqProofs only [go_sem,seval,h23,hc]
   refine csplit (fun h => ?_) (fun h => ?_) <;> (try rw [h]) <;> (try simp only [bools] at h) <;> (try simp -dsimp -implicitDefEqProofs only [go_sem,seval,h23])
   ·rw [if_pos (by simpa using h)] at hsucc
    simp -dsimp -implicitDefEqProofs only [go_sem,seval,h23,v1,v2,v3,v4]
    refine putA_app1 (hown.upd (by omega) _) (by omega) (by rw [rowsI_len]; simp; omega) (by decide) rfl (rowsI_all _) ?_
    intro v hp hO hoffs hkeep
    have w1:=hO.valOf
    rw [<- rowsI_app, <- hsucc] at hO
    simp -dsimp -implicitDefEqProofs only [go_sem,seval,w1,h23]
    exact ⟨by omega,by simp -dsimp -implicitDefEqProofs only [go_sem,seval,hw],by simp -dsimp -implicitDefEqProofs only [go_sem,seval]; exact hO.le (by omega)⟩
   ·rw [if_neg (by simpa using h),List.append_nil] at hsucc
    refine ⟨by omega,by simp -dsimp -implicitDefEqProofs only [go_sem,seval,hw], ?_⟩
    simp -dsimp -implicitDefEqProofs only [go_sem,seval,hsucc]
    exact hown.le (by omega)
  ·have:i=x.steps.length:=by omega
   subst this
   have v1:=hown.valOf
   have hre:=hown.reify (ints_norm _)
   have v5:=hown.resVal
   simp only [Rg.resVal] at v5
   simp -dsimp -implicitDefEqProofs only [go_sem,seval,v1,v5]
   exact hre
end Rg
end
