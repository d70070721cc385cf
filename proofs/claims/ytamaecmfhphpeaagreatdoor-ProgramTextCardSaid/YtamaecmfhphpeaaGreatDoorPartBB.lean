/- Part of the proof of the laws of the package relyguardlaw07: an abstract machine for the program's functions, what they compute, and that the machine is the program's. No condition. (H30f H30g H14a H15r) -/
import Derived.Test.YtamaecmfhphpeaaGreatDoorPartAZ
import Derived.Test.YtamaecmfhphpeaaGreatDoorPartAY
set_option linter.unusedSimpArgs false
set_option linter.unusedVariables false
section
set_option maxRecDepth 100000
namespace Rg
open Go
theorem Bld.updF {h:Nat->Option O} {k q:Nat} {l:List UInt8} {o:Option O} (hb:Bld h k l) (hq:h q=none):Bld (updC h q o) k l:=by
 rcases hb with ⟨h1,h2⟩ | ⟨g,h1,h2,h3⟩
 ·exact .inl ⟨by rw [updC_at,if_neg (by rintro rfl; rw [hq] at h1; cases h1)]; exact h1,h2⟩
 ·refine .inr ⟨g, ?_, ?_,h3⟩
  ·rw [updC_at,if_neg (by rintro rfl; rw [hq] at h1; cases h1)]; exact h1
  ·rw [updC_at,if_neg (by rintro rfl; rw [hq] at h2; cases h2)]; exact h2
theorem KeepR.updF {h:Nat->Option O} {q:Nat} {o:Option O} (hq:h q=none):KeepR h (updC h q o):=by
 intro k o' hk ho
 rw [updC_at,if_neg (by rintro rfl; rw [hq] at hk; cases hk)]; exact hk
theorem Bld.updR {h:Nat->Option O} {k q:Nat} {l:List UInt8} {o o' : Option O} (hb:Bld h k l) (hq:h q=o') (ho : ∀ x,o' ≠ some (.raw x)):Bld (updC h q o) k l:=by
 subst hq
 rcases hb with ⟨h1,h2⟩ | ⟨g,h1,h2,h3⟩
 ·exact .inl ⟨by rw [updC_at,if_neg (by rintro rfl; exact ho _ h1)]; exact h1,h2⟩
 ·refine .inr ⟨g, ?_, ?_,h3⟩
  ·rw [updC_at,if_neg (by rintro rfl; exact ho _ h1)]; exact h1
  ·rw [updC_at,if_neg (by rintro rfl; exact ho _ h2)]; exact h2
theorem Fresh.lt {h:Nat->Option O} {n k:Nat} {o:O} (hf:Fresh h n) (hk:h k=some o):k<n:=by
 rcases Nat.lt_or_ge k n with h0 | h0
 ·exact h0
 ·have:=hf k h0; rw [hk] at this; cases this
theorem Bld.frame {h h' : Nat->Option O} {k:Nat} {l:List UInt8} (hb:Bld h k l) (hf : ∀ j x,h j=some (.raw x)->h' j=h j):Bld h' k l:=by
 rcases hb with ⟨h1,h2⟩ | ⟨g,h1,h2,h3⟩
 ·exact .inl ⟨by rw [hf k _ h1]; exact h1,h2⟩
 ·exact .inr ⟨g,by rw [hf k _ h1]; exact h1,by rw [hf g _ h2]; exact h2,h3⟩
theorem withF_den {h:Nat->Option O} {n m kb q:Nat} {l:List UInt8} (ws:List (List UInt8)) (fl:List Int) (hb:Bld h kb l) (hn:Fresh h n) (hq:n<=q/\q<m) (hi : ∀ z∈fl,inI z) (hl:ws.length+fl.length<2^30) :
 ∃ r h' n',DenR Γ G 244 [.ms q 0 ws.length, .t (ints fl)] (updC h q (some (.rows 1 (rowsW ws) false))) m=some (r,h',n') /\
  (∃ k,r = .ms k 0 (ws++fl.map num).length/\h' k=some (.rows 1 (rowsW (ws++fl.map num)) false)/\Bld h' kb l/\KeepR h h' /\ m<=n' /\ Fresh h' n'):=by
 have hfr:=(hn.mono (m:=m) (by omega)).upd (k:=q) (o:=.rows 1 (rowsW ws) false) hq.2
 obtain ⟨r,h',n',h1,k,h2,h3,h4,h5,h6⟩:=with_den (h:=updC h q (some (.rows 1 (rowsW ws) false))) (n:=m) (kw:=q) (ws:=ws) (fl:=fl) (by rw [updC_at,if_pos rfl]) hfr hi hl
 refine ⟨r,h',n',h1,k,h2,h3, ?_,fun j o hj ho => ?_,h5,h6⟩
 ·refine (hb.updF (o:=some (.rows 1 (rowsW ws) false)) (hn q hq.1)).frame fun j x hj=>h4 j (hfr.lt hj) ?_
  rintro rfl
  rw [updC_at,if_pos rfl] at hj; cases hj
 ·have hjn:=hn.lt hj
  rw [h4 j (by omega) (by omega),updC_at,if_neg (by omega)]; exact hj
theorem lineF_den {h:Nat->Option O} {n m kb q:Nat} {l:List UInt8} (ws:List (List UInt8)) (hb:Bld h kb l) (hn:Fresh h n) (hq:n<=q/\q<m) (hl:l.length<=549755813888) (hw:(ws.map List.length).sum+ws.length<=549755813887) :
 ∃ r h' n',DenR Γ G 241 [.mp kb 0 0, .ms q 0 ws.length] (updC h q (some (.rows 1 (rowsW ws) false))) m=some (r,h',n')/\(r = .tup []/\Bld h' kb (l++lineT ws)/\KeepR h h' /\ m<=n' /\ Fresh h' n'):=by
 obtain ⟨r,h',n',h1,h2,h3,h4,h5,h6⟩:=line_den (h:=updC h q (some (.rows 1 (rowsW ws) false))) (n:=m) (kb:=kb) (kw:=q) (l:=l) (ws:=ws) (fz:=false) (by rw [updC_at,if_pos rfl]) (hb.updF (hn q hq.1)) ((hn.mono (by omega)).upd hq.2) (by omega)
 exact ⟨r,h',n',h1,h2,h3,(KeepR.updF (hn q hq.1)).trans h4,h5,h6⟩
theorem head_sum (x:Thread) (h:isLabel x.name=true):((headW x).map List.length).sum+(headW x).length<=1000:=by
 have:=label_len h
 simp only [headW,List.map_cons,List.map_nil,List.sum_cons,List.sum_nil,List.length_cons,List.length_nil,flagT_len]
 omega
theorem point_sum (q:Int×Expr) (h:inI q.1):((pointW q).map List.length).sum+(pointW q).length<=40000:=by
 have h1:=num_len q.1 h
 have h2:=text_len q.2
 simp only [pointW,List.map_cons,List.map_nil,List.sum_cons,List.sum_nil,List.length_cons,List.length_nil]
 omega
structure ThrOk (x:Thread):Prop where
 name:isLabel x.name=true
 al:x.asserts.length<=48
 ml:x.modules.length=x.asserts.length
 sl:x.steps.length<=64
 ll:x.loops.length<=8
 mi : ∀ z∈x.modules,inI z
 st : ∀ s∈x.steps,inI s.kind/\inI s.fr/\inI s.to/\inI s.target/\inI s.module/\(∀ a∈s.set,inI a.cell)/\s.set.length<=40
 lp : ∀ l∈x.loops,inI l.head/\(∀ z∈l.body,inI z)/\l.body.length<=60
theorem words_sum (ws:List (List UInt8)) (K:Nat) (h : ∀ w∈ws,w.length<=K):(ws.map List.length).sum+ws.length<=ws.length*(K+1):=by
 have:=sum_map_le ws K h
 rw [Nat.mul_add]; omega
theorem stepW_le {s:Step} (h:inI s.kind/\inI s.fr/\inI s.to/\inI s.target/\inI s.module/\(∀ a∈s.set,inI a.cell)/\s.set.length<=40) : ∀ w∈stepW s,w.length<=36000:=by
 have h1:=num_len s.kind h.1
 have h2:=num_len s.fr h.2.1
 have h3:=num_len s.to h.2.2.1
 have h4:=num_len s.target h.2.2.2.1
 have h5:=num_len s.module h.2.2.2.2.1
 have h6:=text_len s.guard
 have h7:=flagT_len s.release
 intro w hw
 simp only [stepW,List.mem_cons,List.not_mem_nil,or_false] at hw
 rcases hw with rfl | rfl | rfl | rfl | rfl | rfl | rfl | rfl <;> first | omega | simp
theorem setW_le {s:Step} (h : ∀ a∈s.set,inI a.cell) : ∀ w∈s.set.flatMap setW,w.length<=36000:=by
 intro w hw
 obtain ⟨a,ha,hw⟩:=List.mem_flatMap.1 hw
 have h1:=num_len a.cell (h a ha)
 have h6:=text_len a.to
 simp only [setW,List.mem_cons,List.not_mem_nil,or_false] at hw
 rcases hw with rfl | rfl <;> omega
theorem setW_len (l:List Assign):(l.flatMap setW).length=2*l.length:=by
 induction l with
 | nil=>rfl
 | cons a r ih=>simp only [List.flatMap_cons,List.length_append,ih,List.length_cons,setW,List.length_nil]; omega
theorem step_sum {s:Step} (h:inI s.kind/\inI s.fr/\inI s.to/\inI s.target/\inI s.module/\(∀ a∈s.set,inI a.cell)/\s.set.length<=40) :
 ((stepW s++s.set.flatMap setW).map List.length).sum+(stepW s++s.set.flatMap setW).length<=10000000:=by
 have h1:=words_sum (stepW s++s.set.flatMap setW) 36000 (fun w hw=>by
  rcases List.mem_append.1 hw with hw | hw
  ·exact stepW_le h w hw
  ·exact setW_le h.2.2.2.2.2.1 w hw)
 have h2:(stepW s++s.set.flatMap setW).length<=88:=by
  rw [List.length_append,setW_len]
  have:(stepW s).length=8:=rfl
  omega
 have h3:(stepW s++s.set.flatMap setW).length*(36000+1)<=88*(36000+1):=Nat.mul_le_mul_right _ h2
 omega
theorem wthread_den {x:Thread} (hx:ThrOk x) {h0:Nat->Option O} {n kb:Nat} {l:List UInt8} (hb:Bld h0 kb l) (hn:Fresh h0 n) (hl:l.length+(threadT x).length<=549755813888) :
 ∃ r h' n',DenR Γ G 245 [.mp kb 0 0,(.agg [.t (.str (x).name), .t (ti (x).points), .t (.sl ((x).asserts.map Expr.enc)), .t (ints (x).modules), .t (.sl ((x).steps.map Step.enc)), .t (.sl ((x).loops.map Loop.enc)), .t (tb (x).asleep)])] h0 n=some (r,h',n')/\(r = .tup []/\Bld h' kb (l++threadT x)/\KeepR h0 h' /\ n<=n' /\ Fresh h' n'):=by
 have hfl:=flagT_den x.asleep
 have hsum:=head_sum x hx.name
 have htl:(threadT x).length=(lineT (headW x)).length+((x.modules.zip x.asserts).flatMap pointT).length+(x.steps.flatMap stepT).length+(x.loops.flatMap loopX).length:=by
  simp only [threadT,List.length_append]
 (refine denR_ofY Γ245 rfl ?_; dsimp only [f245])
 simp -dsimp -implicitDefEqProofs only [go_sem,seval,hfl]
 refine rawK_of (lineF_den (headW x) hb hn (by omega) (by omega) (by omega)) ?_
 rintro r h1 n1 ⟨rfl,hb1,hk1,hn1,hf1⟩
 simp -dsimp -implicitDefEqProofs only [go_sem,seval]
 have hzl:(x.modules.zip x.asserts).length=x.asserts.length:=by rw [List.length_zip,hx.ml]; simp
 have hal:=hx.al
 have hsl:=hx.sl
 have hll:=hx.ll
 refine loopYH 8796059467872 x.asserts.length (fun i f hh y=>(f 25).v=vi i/\Bld hh kb (l++lineT (headW x)++((x.modules.zip x.asserts).take i).flatMap pointT)/\KeepR h0 hh/\n<=y/\Fresh hh y) rfl ?_ ?_
 ·exact ⟨by simp -dsimp -implicitDefEqProofs only [go_sem,seval],by simpa using hb1,hk1,by simp only [addC_eq]; omega,hf1.mono (by simp only [addC_eq]; omega)⟩
 clear hb1 hk1 hf1 hn1
 rintro i f u hh y bq hi ⟨h25,hb1,hk1,hny,hf1⟩
 have hw:=wrapS i (by omega)
 simp -dsimp -implicitDefEqProofs only [go_sem,seval,h25]
 refine csplit (fun h => ?_) (fun h => ?_) <;> (try rw [h]) <;> (try simp only [bools] at h) <;> (try simp -dsimp -implicitDefEqProofs only [go_sem,seval,h25])
 ·obtain ⟨e,he,hem⟩:=get_of ‹i<x.asserts.length›
  obtain ⟨m,hm,hmm⟩:=get_of (show i<x.modules.length by rw [hx.ml]; exact ‹i<x.asserts.length›)
  have i1:=itoa_den m (hx.mi m hmm)
  have t1:=textP_den e
  have hz:(x.modules.zip x.asserts)[i]? = some (m,e):=by rw [List.getElem?_zip_eq_some]; exact ⟨hm,he⟩
  have hfs:=flatMap_succ pointT hz
  have hft:=flatMap_take pointT (x.modules.zip x.asserts) i
  have hps:=point_sum (m,e) (hx.mi m hmm)
  simp -dsimp -implicitDefEqProofs only [go_sem,seval,h25,he,hm,i1,t1]
  refine rawK_of (lineF_den (pointW (m,e)) hb1 hf1 (by omega) (by simp only [List.length_append]; omega) (by omega)) ?_
  rintro r h2 n2 ⟨rfl,hb2,hk2,hn2,hf2⟩
  simp -dsimp -implicitDefEqProofs only [go_sem,seval,h25,hw]
  refine ⟨by omega,by simp -dsimp -implicitDefEqProofs only [go_sem,seval,hw], ?_,hk1.trans hk2,by simp only [addC_eq]; omega,hf2.mono (by simp only [addC_eq]; omega)⟩
  rw [hfs,show pointT (m,e)=lineT (pointW (m,e)) from rfl]
  simpa only [List.append_assoc] using hb2
 ·have:i=x.asserts.length:=by omega
  subst this
  rw [<- hzl,List.take_length] at hb1
  generalize hp0:l++lineT (headW x)++(x.modules.zip x.asserts).flatMap pointT=pre at hb1
  have hprel:pre.length=l.length+(lineT (headW x)).length+((x.modules.zip x.asserts).flatMap pointT).length:=by rw [<- hp0]; simp only [List.length_append]
  refine loopYH 633825300114114630379607427840 x.steps.length (fun i f hh y=>(f 46).v=vi i/\Bld hh kb (pre++(x.steps.take i).flatMap stepT)/\KeepR h0 hh/\n<=y/\Fresh hh y) rfl ?_ ?_
  ·exact ⟨by simp -dsimp -implicitDefEqProofs only [go_sem,seval],by simpa using hb1,hk1,by simp only [addC_eq]; omega,hf1.mono (by simp only [addC_eq]; omega)⟩
  clear hb1 hk1 hf1 h25 hny
  rintro i f1 u1 hh1 y1 bq1 hi1 ⟨h46,hb1,hk1,hny,hf1⟩
  have hw:=wrapS i (by omega)
  simp -dsimp -implicitDefEqProofs only [go_sem,seval,h46]
  refine csplit (fun h => ?_) (fun h => ?_) <;> (try rw [h]) <;> (try simp only [bools] at h) <;> (try simp -dsimp -implicitDefEqProofs only [go_sem,seval,h46])
  ·obtain ⟨s,hs,hsm⟩:=get_of ‹i<x.steps.length›
   have hst:=hx.st s hsm
   have i1:=itoa_den s.kind hst.1
   have i2:=itoa_den s.fr hst.2.1
   have i3:=itoa_den s.to hst.2.2.1
   have i4:=itoa_den s.target hst.2.2.2.1
   have i5:=itoa_den s.module hst.2.2.2.2.1
   have t1:=textP_den s.guard
   have f1' := flagT_den s.release
   have hsum2:=step_sum hst
   have hfs:=flatMap_succ stepT hs
   have hft:=flatMap_take stepT x.steps i
   simp -dsimp -implicitDefEqProofs only [go_sem,seval,h46,hs,i1,i2,i3,i4,i5,t1,f1']
   refine loopYH 39612872331312554167597271552 s.set.length (fun j f hh y=>(f 80).v=vi j/\(∃ k,(f 9).v = .ms k 0 (rowsW (stepW s++(s.set.take j).flatMap setW)).length/\hh k=some (.rows 1 (rowsW (stepW s++(s.set.take j).flatMap setW)) false)/\k<y/\y1<=k) /\
    Bld hh kb (pre++(x.steps.take i).flatMap stepT)/\KeepR hh1 hh/\y1<=y/\Fresh hh y) rfl ?_ ?_
   ·refine ⟨by simp -dsimp -implicitDefEqProofs only [go_sem,seval],⟨y1+1+4+26,by simp -dsimp -implicitDefEqProofs only [go_sem,seval]; rfl,by simp -dsimp -implicitDefEqProofs only [go_sem,seval]; rfl,by simp only [addC_eq,List.length_cons,List.length_nil]; omega,by omega⟩, ?_, ?_,by simp only [addC_eq]; omega, ?_⟩
    ·simp -dsimp -implicitDefEqProofs only [go_sem,seval]
     exact hb1.updF (hf1 _ (by omega))
    ·simp -dsimp -implicitDefEqProofs only [go_sem,seval]
     exact KeepR.updF (hf1 _ (by omega))
    ·intro q hq
     simp only [addC_eq,List.length_cons,List.length_nil] at hq
     simp -dsimp -implicitDefEqProofs only [go_sem,seval]
     rw [if_neg (by omega)]
     exact hf1 q (by omega)
   clear hb1
   rintro j f2 u2 hh2 y2 bq2 hj ⟨h80,⟨k,h9,hkk,hk2,hky⟩,hb2,hkr,hyy,hf2⟩
   have hwj:=wrapS j (by omega)
   simp -dsimp -implicitDefEqProofs only [go_sem,seval,h80]
   refine csplit (fun h => ?_) (fun h => ?_) <;> (try rw [h]) <;> (try simp only [bools] at h) <;> (try simp -dsimp -implicitDefEqProofs only [go_sem,seval,h80])
   ·obtain ⟨a,ha,ham⟩:=get_of ‹j<s.set.length›
    have i6:=itoa_den a.cell (hst.2.2.2.2.2.1 a ham)
    have t2:=textP_den a.to
    have hfs2:=flatMap_succ setW ha
    simp -dsimp -implicitDefEqProofs only [go_sem,seval,h80,h9,ha,i6,t2,hkk,ne_add hk2,ne_add2 hk2,ne_add3 hk2,List.take_length,Nat.le_refl]
    have hne1:k≠y2+1+4+8:=by omega
    have hup:updC hh2 (y2+1+4+8) (some (O.rows 1 [[V.t (T.str (bs (num a.cell)))],[V.t (T.str (bs a.to.text))]] false)) k=some (.rows 1 (rowsW (stepW s++(s.set.take j).flatMap setW)) false):=by rw [updC_at,if_neg hne1]; exact hkk
    have h88:(stepW s++(s.set.take j).flatMap setW).length<=88:=by
     rw [List.length_append,setW_len,List.length_take]
     have:(stepW s).length=8:=rfl
     omega
    refine putA_appC hup rfl (by rw [rowsW_len]; simp only [List.length_cons,List.length_nil]; omega) (by decide) rfl (rowsW_all _) (by simp) ?_
    intro hp hph
    have he:rowsW (stepW s++(s.set.take j).flatMap setW)++[[V.t (T.str (bs (num a.cell)))],[V.t (T.str (bs a.to.text))]]=rowsW (stepW s++(s.set.take (j+1)).flatMap setW):=by
     rw [hfs2, <- List.append_assoc,rowsW_app (stepW s++_)]; rfl
    rw [he] at hph ⊢
    simp -dsimp -implicitDefEqProofs only [go_sem,seval,h80,hwj]
    refine ⟨by omega,by simp -dsimp -implicitDefEqProofs only [go_sem,seval,hwj],⟨y2+1+4+9,by simp -dsimp -implicitDefEqProofs only [go_sem,seval],by simp -dsimp -implicitDefEqProofs only [go_sem,seval,hph],by simp only [addC_eq,List.length_cons,List.length_nil]; omega,by omega⟩, ?_,fun q o hq ho => ?_,by simp only [addC_eq]; omega,fun q hq => ?_⟩
    ·simp -dsimp -implicitDefEqProofs only [go_sem,seval,hph]
     exact ((hb2.updF (hf2 _ (by omega))).updR hup (by simp)).updF (by rw [updC_at,if_neg (by omega),updC_at,if_neg (by omega)]; exact hf2 _ (by omega))
    ·have hqy:=hf1.lt hq
     simp -dsimp -implicitDefEqProofs only [go_sem,seval,hph]
     rw [if_neg (by omega),if_neg (by omega),if_neg (by omega)]
     exact hkr q o hq ho
    ·simp only [addC_eq,List.length_cons,List.length_nil] at hq
     simp -dsimp -implicitDefEqProofs only [go_sem,seval,hph]
     rw [if_neg (by omega),if_neg (by omega),if_neg (by omega)]
     exact hf2 q (by omega)
   ·have:j=s.set.length:=by omega
    subst this
    rw [rowsW_len] at h9
    rw [List.take_length] at h9 hkk
    simp -dsimp -implicitDefEqProofs only [go_sem,seval,h9]
    refine rawK_of (line_den (ws:=stepW s++s.set.flatMap setW) (fz:=false) hkk hb2 (hf2.mono (by omega)) (by simp only [List.length_append] at hsum2 ⊢; omega)) ?_
    rintro r h3 n3 ⟨rfl,hb3,hk3,hn3,hf3⟩
    simp -dsimp -implicitDefEqProofs only [go_sem,seval,h46,hw]
    refine ⟨by omega,by simp -dsimp -implicitDefEqProofs only [go_sem,seval,hw], ?_,fun k o hk ho=>hk3 k o (hkr k o (hk1 k o hk ho) ho) ho,by simp only [addC_eq]; omega,hf3.mono (by simp only [addC_eq]; omega)⟩
    rw [hfs,show stepT s=lineT (stepW s++s.set.flatMap setW) from rfl]
    simpa only [List.append_assoc] using hb3
  ·have:i=x.steps.length:=by omega
   subst this
   rw [List.take_length] at hb1
   generalize hp1:pre++x.steps.flatMap stepT=pre1 at hb1
   have hprel1:pre1.length=pre.length+(x.steps.flatMap stepT).length:=by rw [<- hp1]; simp only [List.length_append]
   refine loopYH 1329222925182514959986201073467531264 x.loops.length (fun i f hh y=>(f 102).v=vi i/\Bld hh kb (pre1++(x.loops.take i).flatMap loopX)/\KeepR h0 hh/\n<=y/\Fresh hh y) rfl ?_ ?_
   ·exact ⟨by simp -dsimp -implicitDefEqProofs only [go_sem,seval],by simpa using hb1,hk1,by simp only [addC_eq]; omega,hf1.mono (by simp only [addC_eq]; omega)⟩
   clear hb1 hk1 hf1 h46 hny
   rintro i f3 u3 hh3 y3 bq3 hi3 ⟨h102,hb1,hk1,hny,hf1⟩
   have hw:=wrapS i (by omega)
   simp -dsimp -implicitDefEqProofs only [go_sem,seval,h102]
   refine csplit (fun h => ?_) (fun h => ?_) <;> (try rw [h]) <;> (try simp only [bools] at h) <;> (try simp -dsimp -implicitDefEqProofs only [go_sem,seval,h102])
   ·obtain ⟨q,hq,hqm⟩:=get_of ‹i<x.loops.length›
    have hlp:=hx.lp q hqm
    have i1:=itoa_den q.head hlp.1
    have t1:=textP_den q.variant
    have hfs:=flatMap_succ loopX hq
    have hft:=flatMap_take loopX x.loops i
    simp -dsimp -implicitDefEqProofs only [go_sem,seval,h102,hq,i1,t1]
    have hls:((loopW q++q.body.map num).map List.length).sum+(loopW q++q.body.map num).length<=10000000:=by
     have e1:=words_sum (loopW q++q.body.map num) 36000 (fun w hw=>by
      have n1:=num_len q.head hlp.1
      have n2:=text_len q.variant
      rcases List.mem_append.1 hw with hw | hw
      ·simp only [loopW,List.mem_cons,List.not_mem_nil,or_false] at hw
       rcases hw with rfl | rfl | rfl <;> first | omega | simp
      ·obtain ⟨z,hz,rfl⟩:=List.mem_map.1 hw
       have:=num_len z (hlp.2.1 z hz); omega)
     have e2:(loopW q++q.body.map num).length<=63:=by
      rw [List.length_append,List.length_map]
      have:(loopW q).length=3:=rfl
      omega
     have e3:(loopW q++q.body.map num).length*(36000+1)<=63*(36000+1):=Nat.mul_le_mul_right _ e2
     omega
    refine rawK_of (withF_den (loopW q) q.body hb1 hf1 (by omega) hlp.2.1 (by have:(loopW q).length=3:=rfl; omega)) ?_
    rintro r h2 n2 ⟨k,rfl,hk2,hb2,hkr2,hn2,hf2⟩
    simp -dsimp -implicitDefEqProofs only [go_sem,seval]
    refine rawK_of (line_den (ws:=loopW q++q.body.map num) (fz:=false) hk2 hb2 (hf2.mono (by omega)) (by simp only [List.length_append] at hls ⊢; omega)) ?_
    rintro r h3 n3 ⟨rfl,hb3,hk3,hn3,hf3⟩
    simp -dsimp -implicitDefEqProofs only [go_sem,seval,h102,hw]
    refine ⟨by omega,by simp -dsimp -implicitDefEqProofs only [go_sem,seval,hw], ?_,(hk1.trans hkr2).trans hk3,by simp only [addC_eq]; omega,hf3.mono (by simp only [addC_eq]; omega)⟩
    rw [hfs,show loopX q=lineT (loopW q++q.body.map num) from rfl]
    simpa only [List.append_assoc] using hb3
   ·have:i=x.loops.length:=by omega
    subst this
    rw [List.take_length] at hb1
    refine ⟨rfl, ?_,hk1,by simp only [addC_eq]; omega,hf1.mono (by simp only [addC_eq]; omega)⟩
    rw [<- hp1, <- hp0] at hb1
    simpa only [threadT,List.append_assoc] using hb1
end Rg
end
section
set_option maxRecDepth 100000
namespace Rg
open Go
theorem thrOk_of {p:Prog} (hn:Nums p) (hf:p.few) {x:Thread} (hx:x∈p.threads):ThrOk x:=by
 obtain ⟨a1,a2,a3,a4,a5,a6,a7,a8⟩:=hn.thr x hx
 refine ⟨a1,a2,a3,a4,a5,a6,fun s hs => ?_,fun l hl => ?_⟩
 ·obtain ⟨b1,b2,b3,b4,b5,b6⟩:=a7 s hs
  exact ⟨b1,b2,b3,b4,b5,b6,hf.sets x hx s hs⟩
 ·exact ⟨(a8 l hl).1,(a8 l hl).2,hf.body x hx l hl⟩
theorem line_le {ws:List (List UInt8)} {K:Nat} (h:(ws.map List.length).sum+ws.length<=K):(lineT ws).length<=K+1:=by
 have:=lineT_len ws; omega
theorem threadT_len {x:Thread} (h:ThrOk x):(threadT x).length<=1000000000:=by
 have h1:=line_le (head_sum x h.name)
 have h2:=flatMap_len pointT (x.modules.zip x.asserts) 40001 (fun q hq=>line_le (point_sum q (h.mi _ (List.of_mem_zip hq).1)))
 have h3:=flatMap_len stepT x.steps 10000001 (fun s hs=>line_le (step_sum (h.st s hs)))
 have h4:=flatMap_len loopX x.loops 10000001 (fun q hq=>line_le (by
  have hlp:=h.lp q hq
  have e1:=words_sum (loopW q++q.body.map num) 36000 (fun w hw=>by
   have n1:=num_len q.head hlp.1
   have n2:=text_len q.variant
   rcases List.mem_append.1 hw with hw | hw
   ·simp only [loopW,List.mem_cons,List.not_mem_nil,or_false] at hw
    rcases hw with rfl | rfl | rfl <;> first | omega | simp
   ·obtain ⟨z,hz,rfl⟩:=List.mem_map.1 hw
    have:=num_len z (hlp.2.1 z hz); omega)
  have e2:(loopW q++q.body.map num).length<=63:=by
   rw [List.length_append,List.length_map]
   have:(loopW q).length=3:=rfl
   omega
  have e3:(loopW q++q.body.map num).length*(36000+1)<=63*(36000+1):=Nat.mul_le_mul_right _ e2
  omega))
 have hz:(x.modules.zip x.asserts).length<=48:=by rw [List.length_zip]; have:=h.al; omega
 have m2:(x.modules.zip x.asserts).length*40001<=48*40001:=Nat.mul_le_mul_right _ hz
 have m3:x.steps.length*10000001<=64*10000001:=Nat.mul_le_mul_right _ h.sl
 have m4:x.loops.length*10000001<=8*10000001:=Nat.mul_le_mul_right _ h.ll
 simp only [threadT,List.length_append]
 omega
theorem cell_sum {c:Cell} (h:isLabel c.name=true/\inI c.w/\inI c.init/\inI c.thread/\inI c.module):((cellW c).map List.length).sum+(cellW c).length<=1000:=by
 have h0:=label_len h.1
 have h1:=num_len c.w h.2.1
 have h2:=num_len c.init h.2.2.1
 have h3:=num_len c.thread h.2.2.2.1
 have h4:=num_len c.module h.2.2.2.2
 simp only [cellW,List.map_cons,List.map_nil,List.sum_cons,List.sum_nil,List.length_cons,List.length_nil,flagT_len]
 omega
theorem mod_sum {m:Contract} (h:isLabel m.name=true/\isLabel m.owner=true /\ ∀ z∈m.frame,inI z) (hf:m.frame.length<=60):((modW m++m.frame.map num).map List.length).sum+(modW m++m.frame.map num).length<=10000000:=by
 have h0:=label_len h.1
 have h1:=label_len h.2.1
 have h2:=relyT_len m.rely
 have h3:=text_len m.guar
 have e1:=words_sum (modW m++m.frame.map num) 36000 (fun w hw=>by
  rcases List.mem_append.1 hw with hw | hw
  ·simp only [modW,List.mem_cons,List.not_mem_nil,or_false] at hw
   rcases hw with rfl | rfl | rfl | rfl | rfl <;> first | omega | simp
  ·obtain ⟨z,hz,rfl⟩:=List.mem_map.1 hw
   have:=num_len z (h.2.2 z hz); omega)
 have e2:(modW m++m.frame.map num).length<=65:=by
  rw [List.length_append,List.length_map]
  have:(modW m).length=5:=rfl
  omega
 have e3:(modW m++m.frame.map num).length*(36000+1)<=65*(36000+1):=Nat.mul_le_mul_right _ e2
 omega
theorem lock_sum {l:Lock} (h:inI l.cell/\inI l.module):((lockW l).map List.length).sum+(lockW l).length<=40000:=by
 have h1:=num_len l.cell h.1
 have h2:=num_len l.module h.2
 have h3:=text_len l.inv
 simp only [lockW,List.map_cons,List.map_nil,List.sum_cons,List.sum_nil,List.length_cons,List.length_nil]
 omega
theorem textM_len {p:Prog} (hn:Nums p) (hf:p.few):(p.cells.flatMap cellT).length+(p.modules.flatMap modT).length+(p.locks.flatMap lockT).length+(p.threads.flatMap threadT).length<=10000000000:=by
 have h1:=flatMap_len cellT p.cells 1001 (fun c hc=>line_le (cell_sum (hn.cell c hc)))
 have h2:=flatMap_len modT p.modules 10000001 (fun m hm=>line_le (mod_sum (hn.mods m hm) (hf.frame m hm)))
 have h3:=flatMap_len lockT p.locks 40001 (fun l hl=>line_le (lock_sum (hn.lock l hl)))
 have h4:=flatMap_len threadT p.threads 1000000000 (fun x hx=>threadT_len (thrOk_of hn hf hx))
 obtain ⟨l1,l2,l3,l4⟩:=hn.lens
 have m1:p.cells.length*1001<=32*1001:=Nat.mul_le_mul_right _ l1
 have m2:p.modules.length*10000001<=6*10000001:=Nat.mul_le_mul_right _ l2
 have m3:p.locks.length*40001<=4*40001:=Nat.mul_le_mul_right _ l3
 have m4:p.threads.length*1000000000<=4*1000000000:=Nat.mul_le_mul_right _ l4
 omega
theorem lineN_den {h:Nat->Option O} {n kb kw m:Nat} {l:List UInt8} (ws:List (List UInt8)) (hm:ws.length=m) (hk:h kw=some (.rows 1 (rowsW ws) false)) (hb:Bld h kb l) (hn:Fresh h n)
 (hl:l.length+(ws.map List.length).sum+ws.length+1<=1099511627776) :
 ∃ r h' n',DenR Γ G 241 [.mp kb 0 0, .ms kw 0 m] h n=some (r,h',n')/\(r = .tup []/\Bld h' kb (l++lineT ws)/\KeepR h h' /\ n<=n' /\ Fresh h' n'):=by
 subst hm
 exact line_den hk hb hn hl
theorem textProg_den (p:Prog) (hs:p.sane) (hf:p.few):Den Γ G 219 [(.agg [.t (.sl ((p).cells.map (Cell.enc))), .t (.sl ((p).modules.map (Contract.enc))), .t (.sl ((p).locks.map (Lock.enc))), .t (.sl ((p).threads.map (Thread.enc)))])]=some (.t (.str (bs (textP p)))):=by
 (refine den_ofY Γ219 rfl ?_; dsimp only [f219])
 have hv:=validP7_den p hs
 simp -dsimp -implicitDefEqProofs only [go_sem,seval,hv]
 refine csplit (fun h => ?_) (fun h => ?_) <;> (try rw [h]) <;> (try simp only [bools] at h) <;> (try simp -dsimp -implicitDefEqProofs only [go_sem,seval])
 ·have h0 : ¬ (validM p).1=0:=by simpa using h
  simp [textP,h0]
 ·have h0:(validM p).1=0:=by simpa using h
  have hn:=nums_of (p:=p) h0
  have hlen:=textM_len hn hf
  obtain ⟨l1,l2,l3,l4⟩:=hn.lens
  have htp:textP p=textM p:=by unfold textP; rw [if_pos h0]
  refine loopYH 72057593769492992 p.cells.length (fun i f hh y=>(f 28).v=vi i/\Bld hh 13 ((p.cells.take i).flatMap cellT)/\Fresh hh y) rfl ?_ ?_
  ·refine ⟨by simp -dsimp -implicitDefEqProofs only [go_sem,seval], .inl ⟨by simp -dsimp -implicitDefEqProofs only [go_sem,seval],rfl⟩,fun q hq => ?_⟩
   simp only [addC_eq,List.length_cons,List.length_nil] at hq
   simp -dsimp -implicitDefEqProofs only [go_sem,seval]
   rw [if_neg (by omega)]
  rintro i f u hh y bq hi ⟨h28,hb,hfr⟩
  have hw:=wrapS i (by omega)
  simp -dsimp -implicitDefEqProofs only [go_sem,seval,h28]
  refine csplit (fun h => ?_) (fun h => ?_) <;> (try rw [h]) <;> (try simp only [bools] at h) <;> (try simp -dsimp -implicitDefEqProofs only [go_sem,seval,h28])
  ·obtain ⟨c,hc,hcm⟩:=get_of ‹i<p.cells.length›
   have hcn:=hn.cell c hcm
   have i1:=itoa_den c.w hcn.2.1
   have i2:=itoa_den c.init hcn.2.2.1
   have i3:=itoa_den c.thread hcn.2.2.2.1
   have i4:=itoa_den c.module hcn.2.2.2.2
   have f1:=flagT_den c.ghost
   have hfs:=flatMap_succ cellT hc
   have hft:=flatMap_take cellT p.cells i
   have hcs:=cell_sum hcn
   simp -dsimp -implicitDefEqProofs only [go_sem,seval,h28,hc,i1,i2,i3,i4,f1]
   refine rawK_of (lineF_den (cellW c) hb hfr (by omega) (by omega) (by omega)) ?_
   rintro r h2 n2 ⟨rfl,hb2,hk2,hn2,hf2⟩
   simp -dsimp -implicitDefEqProofs only [go_sem,seval,h28,hw]
   refine ⟨by omega,by simp -dsimp -implicitDefEqProofs only [go_sem,seval,hw], ?_,hf2.mono (by simp only [addC_eq]; omega)⟩
   rw [hfs]
   exact hb2
  ·have:i=p.cells.length:=by omega
   subst this
   rw [List.take_length] at hb
   generalize hp0:p.cells.flatMap cellT=pre at hb hlen
   refine loopYH 19342812537373314491881472 p.modules.length (fun i f hh y=>(f 59).v=vi i/\Bld hh 13 (pre++(p.modules.take i).flatMap modT)/\Fresh hh y) rfl ?_ ?_
   ·exact ⟨by simp -dsimp -implicitDefEqProofs only [go_sem,seval],by simpa using hb,hfr.mono (by simp only [addC_eq]; omega)⟩
   clear hb hfr h28
   rintro i f1 u1 hh1 y1 bq1 hi1 ⟨h59,hb,hfr⟩
   have hw:=wrapS i (by omega)
   simp -dsimp -implicitDefEqProofs only [go_sem,seval,h59]
   refine csplit (fun h => ?_) (fun h => ?_) <;> (try rw [h]) <;> (try simp only [bools] at h) <;> (try simp -dsimp -implicitDefEqProofs only [go_sem,seval,h59])
   ·obtain ⟨m,hm,hmm⟩:=get_of ‹i<p.modules.length›
    have hmn:=hn.mods m hmm
    have hmf:=hf.frame m hmm
    have t1:=textP_den m.rely
    have t2:=textP_den m.guar
    have a1:=absentP_den m.rely
    have hfs:=flatMap_succ modT hm
    have hft:=flatMap_take modT p.modules i
    have hms:=mod_sum hmn hmf
    have hl5:(modW m).length+m.frame.length<2^30:=by have:(modW m).length=5:=rfl; omega
    simp -dsimp -implicitDefEqProofs only [go_sem,seval,h59,hm,a1]
    cases hab:m.rely.absent
    ·have hmw:modW m=[[109,111,100,117,108,101],byt m.name,byt m.owner,m.rely.text,m.guar.text]:=by
      unfold modW relyT
      rw [hab]; rfl
     rw [hmw] at hms hl5
     simp -dsimp -implicitDefEqProofs only [go_sem,seval,hab,t1,t2]
     refine rawK_of (withF_den [[109,111,100,117,108,101],byt m.name,byt m.owner,m.rely.text,m.guar.text] m.frame hb hfr (by omega) hmn.2.2 hl5) ?_
     rintro r h2 n2 ⟨k,rfl,hk2,hb2,hkr2,hn2,hf2⟩
     simp -dsimp -implicitDefEqProofs only [go_sem,seval]
     refine rawK_of (lineN_den ([[109,111,100,117,108,101],byt m.name,byt m.owner,m.rely.text,m.guar.text]++m.frame.map num) (by simp) hk2 hb2 (hf2.mono (by omega)) (by simp only [List.length_append] at hms ⊢; omega)) ?_
     rintro r h3 n3 ⟨rfl,hb3,hk3,hn3,hf3⟩
     simp -dsimp -implicitDefEqProofs only [go_sem,seval,h59,hw]
     refine ⟨by omega,by simp -dsimp -implicitDefEqProofs only [go_sem,seval,hw], ?_,hf3.mono (by simp only [addC_eq]; omega)⟩
     rw [hfs,show modT m=lineT (modW m++m.frame.map num) from rfl,hmw]
     simpa only [List.append_assoc] using hb3
    ·have hmw:modW m=[[109,111,100,117,108,101],byt m.name,byt m.owner,[110,111,110,101],m.guar.text]:=by
      unfold modW relyT
      rw [hab]; rfl
     rw [hmw] at hms hl5
     simp -dsimp -implicitDefEqProofs only [go_sem,seval,hab,t1,t2]
     refine rawK_of (withF_den [[109,111,100,117,108,101],byt m.name,byt m.owner,[110,111,110,101],m.guar.text] m.frame hb hfr (by omega) hmn.2.2 hl5) ?_
     rintro r h2 n2 ⟨k,rfl,hk2,hb2,hkr2,hn2,hf2⟩
     simp -dsimp -implicitDefEqProofs only [go_sem,seval]
     refine rawK_of (lineN_den ([[109,111,100,117,108,101],byt m.name,byt m.owner,[110,111,110,101],m.guar.text]++m.frame.map num) (by simp) hk2 hb2 (hf2.mono (by omega)) (by simp only [List.length_append] at hms ⊢; omega)) ?_
     rintro r h3 n3 ⟨rfl,hb3,hk3,hn3,hf3⟩
     simp -dsimp -implicitDefEqProofs only [go_sem,seval,h59,hw]
     refine ⟨by omega,by simp -dsimp -implicitDefEqProofs only [go_sem,seval,hw], ?_,hf3.mono (by simp only [addC_eq]; omega)⟩
     rw [hfs,show modT m=lineT (modW m++m.frame.map num) from rfl,hmw]
     simpa only [List.append_assoc] using hb3
   ·have:i=p.modules.length:=by omega
    subst this
    rw [List.take_length] at hb
    generalize hp1:pre++p.modules.flatMap modT=pre1 at hb
    have hprel1:pre1.length=pre.length+(p.modules.flatMap modT).length:=by rw [<- hp1]; simp only [List.length_append]
    refine loopYH 40564664464798430175360140197888 p.locks.length (fun i f hh y=>(f 87).v=vi i/\Bld hh 13 (pre1++(p.locks.take i).flatMap lockT)/\Fresh hh y) rfl ?_ ?_
    ·exact ⟨by simp -dsimp -implicitDefEqProofs only [go_sem,seval],by simpa using hb,hfr.mono (by simp only [addC_eq]; omega)⟩
    clear hb hfr h59
    rintro i f1 u1 hh1 y1 bq1 hi1 ⟨h87,hb,hfr⟩
    have hw:=wrapS i (by omega)
    simp -dsimp -implicitDefEqProofs only [go_sem,seval,h87]
    refine csplit (fun h => ?_) (fun h => ?_) <;> (try rw [h]) <;> (try simp only [bools] at h) <;> (try simp -dsimp -implicitDefEqProofs only [go_sem,seval,h87])
    ·obtain ⟨k,hk,hkm⟩:=get_of ‹i<p.locks.length›
     have hkn:=hn.lock k hkm
     have i1:=itoa_den k.cell hkn.1
     have i2:=itoa_den k.module hkn.2
     have t1:=textP_den k.inv
     have hfs:=flatMap_succ lockT hk
     have hft:=flatMap_take lockT p.locks i
     have hks:=lock_sum hkn
     simp -dsimp -implicitDefEqProofs only [go_sem,seval,h87,hk,i1,i2,t1]
     refine rawK_of (lineF_den (lockW k) hb hfr (by omega) (by simp only [List.length_append]; omega) (by omega)) ?_
     rintro r h2 n2 ⟨rfl,hb2,hk2,hn2,hf2⟩
     simp -dsimp -implicitDefEqProofs only [go_sem,seval,h87,hw]
     refine ⟨by omega,by simp -dsimp -implicitDefEqProofs only [go_sem,seval,hw], ?_,hf2.mono (by simp only [addC_eq]; omega)⟩
     rw [hfs,show lockT k=lineT (lockW k) from rfl]
     simpa only [List.append_assoc] using hb2
    ·have:i=p.locks.length:=by omega
     subst this
     rw [List.take_length] at hb
     generalize hp2:pre1++p.locks.flatMap lockT=pre2 at hb
     have hprel2:pre2.length=pre1.length+(p.locks.flatMap lockT).length:=by rw [<- hp2]; simp only [List.length_append]
     refine loopYH 41213856314620194301460814613250048 p.threads.length (fun i f hh y=>(f 108).v=vi i/\Bld hh 13 (pre2++(p.threads.take i).flatMap threadT)/\Fresh hh y) rfl ?_ ?_
     ·exact ⟨by simp -dsimp -implicitDefEqProofs only [go_sem,seval],by simpa using hb,hfr.mono (by simp only [addC_eq]; omega)⟩
     clear hb hfr h87
     rintro i f1 u1 hh1 y1 bq1 hi1 ⟨h108,hb,hfr⟩
     have hw:=wrapS i (by omega)
     simp -dsimp -implicitDefEqProofs only [go_sem,seval,h108]
     refine csplit (fun h => ?_) (fun h => ?_) <;> (try rw [h]) <;> (try simp only [bools] at h) <;> (try simp -dsimp -implicitDefEqProofs only [go_sem,seval,h108])
     ·obtain ⟨x,hx,hxm⟩:=get_of ‹i<p.threads.length›
      have hto:=thrOk_of hn hf hxm
      have hfs:=flatMap_succ threadT hx
      have hft:=flatMap_take threadT p.threads i
      have htl:=threadT_len hto
      simp -dsimp -implicitDefEqProofs only [go_sem,seval,h108,hx]
      refine rawK_of (wthread_den hto hb (hfr.mono (by omega)) (by simp only [List.length_append]; omega)) ?_
      rintro r h2 n2 ⟨rfl,hb2,hk2,hn2,hf2⟩
      simp -dsimp -implicitDefEqProofs only [go_sem,seval,h108,hw]
      refine ⟨by omega,by simp -dsimp -implicitDefEqProofs only [go_sem,seval,hw], ?_,hf2.mono (by simp only [addC_eq]; omega)⟩
      rw [hfs]
      simpa only [List.append_assoc] using hb2
     ·have:i=p.threads.length:=by omega
      subst this
      rw [List.take_length] at hb
      refine rawK_of (bldG_den hb) ?_
      rintro r h3 n3 rfl
      simp -dsimp -implicitDefEqProofs only [go_sem,seval]
      rw [htp,textM, <- hp2, <- hp1, <- hp0]
end Rg
end
section
namespace Rg
open Go
theorem intsOf_rowsI : ∀ l:List Int,intsOf (rowsI l)=some l
 | []=>rfl
 | a::l=>by
  have:rowsI (a::l)=[.t (.int .i64 a)]::rowsI l:=rfl
  rw [this,intsOf,intsOf_rowsI l]; rfl
theorem ofInts_rowsI (l:List Int):ofInts l=rowsI l:=by simp [ofInts,rowsI]
theorem rowsI_tt (h:Nat->Option O) (d:Nat) (l:List Int):(rowsI l).mapM (fun row=>row.mapM (toT h d))=some (l.map fun n=>[ti n]):=rows_toT h d (l.map fun n=>[ti n]) (ints_norm _)
def sortedM (l:List Int):List Int:=Go.Lib.compact (l.mergeSort fun x y=>decide (x<=y))
def Shown (h:Nat->Option O) (r:V) (l:List Int):Prop:=(r = .t .nils/\l=[]) \/ ∃ k m,r = .ms k 0 l.length/\h k=some (.rows 1 (rowsI (l++m)) false)
theorem sorted_den (H:Nat->Option O) (x n:Nat) (v:V) (l:List Int) (ho:OwnB H x v 1 (rowsI l)) (hl:l.length<2^40) :
 ∃ r h' n',DenR Γ G 57 [v] H n=some (r,h',n')/\Shown h' r (sortedM l):=by
 (refine denR_ofY Γ57 rfl ?_; dsimp only [f57])
 rcases ho with ⟨rfl,hr⟩ | ⟨k,rfl,hk,hh⟩
 ·have hl0:l=[]:=by
   have:=congrArg List.length hr
   rw [rowsI_len] at this
   exact List.eq_nil_of_length_eq_zero this
  subst hl0
  have a1 : ∀ n,DenR Γ G 74 [.t .nils] H n=some (.tup [],H,n):=fun n=>denR_ext Γ74 rfl rfl rfl
  have a2 : ∀ n,DenR Γ G 75 [.t .nils] H n=some (.t .nils,H,n):=fun n=>denR_ext Γ75 rfl rfl rfl
  simp -dsimp -implicitDefEqProofs only [go_sem,seval,a1,a2]
  exact .inl ⟨rfl,by rw [sortedM,List.mergeSort_nil]; rfl⟩
 ·rw [rowsI_len]
  have s1:(l.mergeSort fun x y=>decide (x<=y)).length=l.length:=List.length_mergeSort _
  have a1 : ∀ n,DenR Γ G 74 [.ms k 0 l.length] H n=some (.tup [],upd H k (some (.rows 1 (rowsI (l.mergeSort fun x y=>decide (x<=y))) false)),n):=fun n=>denR_ext Γ74 rfl rfl (by
   simp only [extSem,hh,intsOf_rowsI,Option.bind_some,ofInts_rowsI]
   rw [if_pos (by exact ⟨trivial,by omega⟩)])
  have a2 : ∀ n,DenR Γ G 75 [.ms k 0 l.length] (upd H k (some (.rows 1 (rowsI (l.mergeSort fun x y=>decide (x<=y))) false))) n=some (.ms k 0 (sortedM l).length,upd (upd H k (some (.rows 1 (rowsI (l.mergeSort fun x y=>decide (x<=y))) false))) k (some (.rows 1 (rowsI (sortedM l++List.replicate (l.length-(sortedM l).length) 0)) false)),n):=fun n=>denR_ext Γ75 rfl rfl (by
   simp only [extSem,upd_same,intsOf_rowsI,Option.bind_some,ofInts_rowsI]
   rw [if_pos ⟨s1,by omega⟩,s1]; rfl)
  simp -dsimp -implicitDefEqProofs only [go_sem,seval,a1,a2]
  exact .inr ⟨k,_,rfl,upd_same _ _ _⟩
def writesM (s:Step):List Int:=sortedM (s.set.map Assign.cell)
theorem writes_den (s:Step) (hs:s.set.length<2^31):Den Γ G 28 [(.agg [.t (ti (s).kind), .t (ti (s).fr), .t (ti (s).to), .t (ti ((s).guard).op), .t (ti ((s).guard).w), .t (ti ((s).guard).n), .t (.sl (((s).guard).kids.map Expr.enc)), .t (.sl ((s).set.map Assign.enc)), .t (tb (s).release), .t (ti (s).target), .t (ti (s).module)])]=some (.t (ints (writesM s))):=by
 (refine den_ofY Γ28 rfl ?_; dsimp only [f28])
 simp -dsimp -implicitDefEqProofs only [go_sem,seval]
 refine loopYH 523816 s.set.length (fun i f h x=>(f 9).v=vi i/\OwnB h x (f 3).v 1 (rowsI ((s.set.map Assign.cell).take i))) rfl ⟨by simp -dsimp -implicitDefEqProofs only [go_sem,seval], .inl ⟨by simp -dsimp -implicitDefEqProofs only [go_sem,seval],rfl⟩⟩ ?_
 rintro i f u H x bs hi ⟨h9,hown⟩
 have hw:=wrapS i (by omega)
 simp -dsimp -implicitDefEqProofs only [go_sem,seval,h9]
 refine csplit (fun h => ?_) (fun h => ?_) <;> (try rw [h]) <;> (try simp only [bools] at h) <;> (try simp -dsimp -implicitDefEqProofs only [go_sem,seval,h9])
 ·obtain ⟨a,ha,_⟩:=get_of ‹i<s.set.length›
  have ha' : (s.set.map Assign.cell)[i]? = some a.cell:=by simp [ha]
  have v1:=hown.valOf
  have v2:=hown.r2
  have v3:=hown.r3
  simp -dsimp -implicitDefEqProofs only [go_sem,seval,h9,ha,v1,v2,v3]
  refine putA_app1 (hown.upd (by omega) _) (by omega) (by rw [rowsI_len]; simp; omega) (by decide) rfl (rowsI_all _) ?_
  intro v hp hO hoffs hkeep
  have w1:=hO.valOf
  rw [show rowsI ((s.set.map Assign.cell).take i)++[[V.t (ti a.cell)]]=rowsI ((s.set.map Assign.cell).take (i+1)) from by rw [take_succ_of ha',rowsI_app]] at hO
  simp -dsimp -implicitDefEqProofs only [go_sem,seval,w1,h9]
  exact ⟨by omega,by simp -dsimp -implicitDefEqProofs only [go_sem,seval,hw],by simp -dsimp -implicitDefEqProofs only [go_sem,seval]; exact hO.le (by omega)⟩
 ·have:i=s.set.length:=by omega
  subst this
  rw [show (s.set.map Assign.cell).take s.set.length=s.set.map Assign.cell from List.take_of_length_le (by simp)] at hown
  have v1:=hown.valOf
  simp -dsimp -implicitDefEqProofs only [go_sem,seval,v1]
  refine rawK_of (sorted_den H x _ _ _ hown (by simp; omega)) ?_
  rintro r h' n' hsh
  rcases hsh with ⟨rfl,he⟩ | ⟨k,m,rfl,hk⟩
  ·simp -dsimp -implicitDefEqProofs only [go_sem,seval]
   rw [writesM,he]; rfl
  ·have q1:List.take (sortedM (s.set.map Assign.cell)).length (rowsI (sortedM (s.set.map Assign.cell)++m))=rowsI (sortedM (s.set.map Assign.cell)):=by simp [rowsI]
   have q2:(rowsI (sortedM (s.set.map Assign.cell)++m)).length=(sortedM (s.set.map Assign.cell)).length+m.length:=by rw [rowsI_len,List.length_append]
   simp -dsimp -implicitDefEqProofs only [go_sem,seval,hk,q1,q2,Nat.le_add_right,rowsI_tt]
   rfl
def readsM (s:Step):List Int:=sortedM (s.guard.sup 2++s.set.flatMap fun a=>a.to.sup 2)
def readsL (s:Step) (i:Nat):List Int:=s.guard.sup 2++(s.set.take i).flatMap fun a=>a.to.sup 2
theorem readsL_len (s:Step) (i:Nat):(readsL s i).length<=32+32*i:=by
 unfold readsL
 have h0:=sup_len 2 s.guard
 have : ∀ l:List Assign,(l.flatMap fun a=>a.to.sup 2).length<=32*l.length:=by
  intro l
  induction l with
  | nil=>simp
  | cons a l ih =>
   have:=sup_len 2 a.to
   simp only [List.flatMap_cons,List.length_append,List.length_cons]
   omega
 have h1:=this (s.set.take i)
 have h2:(s.set.take i).length<=i:=by simp; omega
 rw [List.length_append]; omega
theorem readsL_succ {s:Step} {i:Nat} {a:Assign} (h:s.set[i]? = some a):readsL s (i+1)=readsL s i++a.to.sup 2:=by
 unfold readsL
 rw [take_succ_of h,List.flatMap_append,List.append_assoc]
 simp
theorem reads_den (s:Step) (hs:s.set.length<2^20):Den Γ G 31 [(.agg [.t (ti (s).kind), .t (ti (s).fr), .t (ti (s).to), .t (ti ((s).guard).op), .t (ti ((s).guard).w), .t (ti ((s).guard).n), .t (.sl (((s).guard).kids.map Expr.enc)), .t (.sl ((s).set.map Assign.enc)), .t (tb (s).release), .t (ti (s).target), .t (ti (s).module)])]=some (.t (ints (readsM s))):=by
 (refine den_ofY Γ31 rfl ?_; dsimp only [f31])
 simp -dsimp -implicitDefEqProofs only [go_sem,seval]
 refine rawK_of (nxt_of (supportP_den s.guard _ _)) ?_
 rintro r h0 n0 ⟨⟨u3,u2,rfl,o3,o2,_,_⟩,hn0⟩
 have x3:=o3.valOf
 have x2:=o2.valOf
 simp -dsimp -implicitDefEqProofs only [go_sem,seval,x3,x2]
 refine loopYH 4294705616 s.set.length (fun i f h x=>(f 18).v=vi i/\OwnB h x (f 4).v 1 (rowsI (readsL s i))) rfl ⟨by simp -dsimp -implicitDefEqProofs only [go_sem,seval], ?_⟩ ?_
 ·simp -dsimp -implicitDefEqProofs only [go_sem,seval]
  have:readsL s 0=s.guard.sup 2:=by simp [readsL]
  rw [this]
  exact o2.le (by omega)
 rintro i f u H x bs hi ⟨h18,hown⟩
 have hw:=wrapS i (by omega)
 simp -dsimp -implicitDefEqProofs only [go_sem,seval,h18]
 refine csplit (fun h => ?_) (fun h => ?_) <;> (try rw [h]) <;> (try simp only [bools] at h) <;> (try simp -dsimp -implicitDefEqProofs only [go_sem,seval,h18])
 ·obtain ⟨a,ha,_⟩:=get_of ‹i<s.set.length›
  have v1:=hown.valOf
  simp -dsimp -implicitDefEqProofs only [go_sem,seval,h18,ha,v1]
  refine rawK_of (nxt_of (supportP_den a.to _ _)) ?_
  rintro r h1 n1 ⟨⟨w3,w2,rfl,p3,p2,hle1,hkp⟩,hn1⟩
  have y3:=p3.valOf
  have y2:=p2.valOf
  have hown' : OwnB h1 n1 (f 4).v 1 (rowsI (readsL s i)):=hown.keep (by omega) (fun k hk _=>(hkp k (by omega)).1)
  have z1:=hown'.rowsS
  have z2:=p2.rowsS
  simp -dsimp -implicitDefEqProofs only [go_sem,seval,h18,v1,y3,y2,z1,z2]
  have hrl:=readsL_len s i
  have hsl:=sup_len 2 a.to
  refine putA_app hown' (by omega) (by rw [rowsI_len,rowsI_len]; omega) (by decide) (rowsI_all _) (rowsI_all _) ?_
  intro v hp hO _ _
  have hap:rowsI (readsL s i)++rowsI (a.to.sup 2)=rowsI (readsL s (i+1)):=by rw [readsL_succ ha]; simp [rowsI]
  rw [hap] at hO
  have w1:=hO.valOf
  simp -dsimp -implicitDefEqProofs only [go_sem,seval,w1,h18]
  exact ⟨by omega,by simp -dsimp -implicitDefEqProofs only [go_sem,seval,hw],by simp -dsimp -implicitDefEqProofs only [go_sem,seval]; exact hO.le (by omega)⟩
 ·have:i=s.set.length:=by omega
  subst this
  have v1:=hown.valOf
  have hrl:=readsL_len s s.set.length
  simp -dsimp -implicitDefEqProofs only [go_sem,seval,v1]
  refine rawK_of (sorted_den H x _ _ _ hown (by omega)) ?_
  rintro r h' n' hsh
  have hrm:readsM s=sortedM (readsL s s.set.length):=by simp [readsM,readsL]
  rw [hrm]
  rcases hsh with ⟨rfl,he⟩ | ⟨k,m,rfl,hk⟩
  ·simp -dsimp -implicitDefEqProofs only [go_sem,seval]
   (try (rw [he]; rfl))
  ·have q1:List.take (sortedM (readsL s s.set.length)).length (rowsI (sortedM (readsL s s.set.length)++m))=rowsI (sortedM (readsL s s.set.length)):=by simp [rowsI]
   have q2:(rowsI (sortedM (readsL s s.set.length)++m)).length=(sortedM (readsL s s.set.length)).length+m.length:=by rw [rowsI_len,List.length_append]
   simp -dsimp -implicitDefEqProofs only [go_sem,seval,hk,q1,q2,Nat.le_add_right,rowsI_tt]
   (try rfl)
end Rg
end
