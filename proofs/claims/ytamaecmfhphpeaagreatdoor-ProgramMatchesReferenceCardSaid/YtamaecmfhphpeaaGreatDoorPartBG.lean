/- Part of the proof of the laws of the package relyguardlaw07: an abstract machine for the program's functions, what they compute, and that the machine is the program's. No condition. (H33e H33f H33g) -/
import Derived.Test.YtamaecmfhphpeaaGreatDoorPartBF
import Derived.Test.YtamaecmfhphpeaaGreatDoorPartBE
set_option linter.unusedSimpArgs false
set_option linter.unusedVariables false
section
set_option maxRecDepth 100000
namespace Rg
open Go
theorem inR_sml {z n:Int} (h:inR z n=true) (hn:n<=999):sml z:=by
 unfold inR at h
 simp only [decide_eq_true_eq] at h
 unfold sml; omega
structure Nums7 (p:Prog):Prop where
 cell : ∀ c∈p.cells,isLabel c.name=true/\sml c.w/\sml c.init/\sml c.thread/\sml c.module
 mods : ∀ m∈p.modules,isLabel m.name=true/\isLabel m.owner=true /\ ∀ z∈m.frame,sml z
 lock : ∀ l∈p.locks,sml l.cell/\sml l.module
 thr : ∀ x∈p.threads,isLabel x.name=true/\x.asserts.length<=48/\x.modules.length=x.asserts.length/\x.steps.length<=64/\x.loops.length<=8/\(∀ z∈x.modules,sml z) /\
  (∀ s∈x.steps,sml s.kind/\sml s.fr/\sml s.to/\sml s.target/\sml s.module /\ ∀ a∈s.set,sml a.cell) /\ ∀ l∈x.loops,sml l.head /\ ∀ z∈l.body,sml z
 lens:p.cells.length<=32/\p.modules.length<=6/\p.locks.length<=4/\p.threads.length<=4
theorem nums7_of {p:Prog} (h:p.ok):Nums7 p:=by
 obtain ⟨hl,hc,hm,hk,ht⟩:=ok_iff.1 h
 obtain ⟨⟨l1,l2,l3,l4⟩,l5⟩:=limits_iff.1 hl
 refine ⟨fun c hcm => ?_,fun m hmm => ?_,fun l hlm => ?_,fun x hxm => ?_,⟨l1,l2,l3,l4⟩⟩
 ·obtain ⟨i,hi,rfl⟩:=List.mem_iff_getElem.1 hcm
  obtain ⟨b1,b2,b3,b4,b5,b6,b7,b8⟩:=cellBad_parts (cellErr_iff.1 (hc i _ (List.getElem?_eq_getElem hi))).1
  have hp:(2:Int)^(p.cells[i]).w.toNat<=2^8:=pow2_le (by omega)
  have hp' : (2:Int)^8=256:=rfl
  refine ⟨b1, ?_, ?_, ?_,inR_sml b8 (by omega)⟩ <;> (unfold sml; omega)
 ·obtain ⟨i,hi,rfl⟩:=List.mem_iff_getElem.1 hmm
  obtain ⟨⟨b1,b2⟩,_,_,_,b5⟩:=modErr_iff.1 (hm i _ (List.getElem?_eq_getElem hi))
  refine ⟨b1,b2,fun z hz => ?_⟩
  have:=ofThread_rng (List.all_eq_true.1 b5 z hz)
  unfold sml; omega
 ·obtain ⟨i,hi,rfl⟩:=List.mem_iff_getElem.1 hlm
  obtain ⟨⟨b1,_,_,b4⟩,_⟩:=lockErr_iff.1 (hk i _ (List.getElem?_eq_getElem hi))
  have:=ofThread_rng b1
  exact ⟨by unfold sml; omega,inR_sml b4 (by omega)⟩
 ·have hx5:=l5 x hxm
  obtain ⟨i,hi,rfl⟩:=List.mem_iff_getElem.1 hxm
  obtain ⟨b1,_,b3,b4,_,b6,b7⟩:=threadErr_iff.1 (ht i _ (List.getElem?_eq_getElem hi))
  refine ⟨b1,by omega,by omega,by omega,by omega,fun z hz=>inR_sml (List.all_eq_true.1 b4 z hz) (by omega),fun s hs => ?_,fun l hl => ?_⟩
  ·obtain ⟨j,hj,rfl⟩:=List.mem_iff_getElem.1 hs
   obtain ⟨c1,_,c3,c4⟩:=stepErr_iff.1 (b6 j _ (List.getElem?_eq_getElem hj))
   have htg:=kind_target c1 c4
   unfold stepBad at c1
   simp only [Bool.or_eq_false_iff,Bool.and_eq_false_iff,decide_eq_false_iff_not,Bool.not_eq_false',Bool.or_eq_true,decide_eq_true_eq,ne_eq,Decidable.not_not] at c1
   obtain ⟨⟨⟨⟨⟨⟨d1,d2⟩,d3⟩,d4⟩,d5⟩,_⟩,_⟩:=c1
   refine ⟨by unfold sml; omega,inR_sml d3 (by omega),inR_sml d4 (by omega), ?_,inR_sml d5 (by omega),fun a ha => ?_⟩
   ·rcases htg with h | h
    ·rw [h]; unfold sml; omega
    ·exact inR_sml h (by omega)
   ·obtain ⟨q,hq,rfl⟩:=List.mem_iff_getElem.1 ha
    exact inR_sml (setErr_iff.1 (c3 q _ (List.getElem?_eq_getElem hq))).1.1 (by omega)
  ·obtain ⟨j,hj,rfl⟩:=List.mem_iff_getElem.1 hl
   obtain ⟨⟨c1,_,c3⟩,_⟩:=loopErr_iff.1 (b7 j _ (List.getElem?_eq_getElem hj))
   refine ⟨inR_sml c1 (by omega),fun z hz => ?_⟩
   have:=List.all_eq_true.1 c3 z hz
   simp only [Bool.and_eq_true] at this
   exact inR_sml this.1 (by omega)
theorem truth_absent {p:Prog} {e:Expr} {b:Bool} {t:Int} (h:truthOk p e b t=true):e.absent=false:=by
 unfold truthOk at h
 simp only [Bool.and_eq_true,decide_eq_true_eq] at h
 obtain ⟨o,w,n,k⟩:=e
 have hw:w=1:=h.1.2
 simp [Expr.absent,hw,Expr.w]
theorem valid_absent {c:List Cell} {e:Expr} {b:Bool} (h:e.valid c b=true):e.absent=false:=by
 simp only [Expr.valid,Bool.and_eq_true] at h
 have hn:=deep_node (formed_deep h.1)
 obtain ⟨o,w,n,k⟩:=e
 unfold nodeOk at hn
 split at hn
 ·cases hn
 ·rename_i hc
  have:w≠0:=by intro h0; apply hc; right; left; show w<1; omega
  simp [Expr.absent,this,Expr.w]
theorem thr7_of {p:Prog} (h:p.ok) (hf:p.few) {x:Thread} (hx:x∈p.threads):Thr7 x:=by
 have hn:=nums_of h
 have h7:=nums7_of h
 have h1:=thrOk_of hn hf hx
 obtain ⟨i,hi,rfl⟩:=List.mem_iff_getElem.1 hx
 obtain ⟨b1,_,b3,b4,b5,b6,b7⟩:=threadErr_iff.1 ((ok_iff.1 h).threads i _ (List.getElem?_eq_getElem hi))
 obtain ⟨_,_,_,_,_,t6,t7,t8⟩:=h7.thr _ hx
 refine ⟨h1,b3.2.1,t6,fun e he=>truth_absent (List.all_eq_true.1 b5 e he),fun s hs => ?_,fun l hl => ?_⟩
 ·obtain ⟨j,hj,rfl⟩:=List.mem_iff_getElem.1 hs
  have hst:=stepErr_iff.1 (b6 j _ (List.getElem?_eq_getElem hj))
  obtain ⟨u1,u2,u3,u4,u5,u6⟩:=t7 _ hs
  refine ⟨u1,u2,u3,u4,u5,fun a ha=>⟨u6 a ha, ?_⟩,valid_absent hst.2.1.1⟩
  obtain ⟨q,hq,rfl⟩:=List.mem_iff_getElem.1 ha
  exact valid_absent (setErr_iff.1 (hst.2.2.1 q _ (List.getElem?_eq_getElem hq))).2.1
 ·obtain ⟨j,hj,rfl⟩:=List.mem_iff_getElem.1 hl
  have hlp:=loopErr_iff.1 (b7 j _ (List.getElem?_eq_getElem hj))
  obtain ⟨u1,u2⟩:=t8 _ hl
  exact ⟨u1,u2,valid_absent hlp.2.1⟩
theorem okR7_den (p:Prog) (hs:p.sane):Den Γ G 176 [(.agg [.t (.sl ((p).cells.map (Cell.enc))), .t (.sl ((p).modules.map (Contract.enc))), .t (.sl ((p).locks.map (Lock.enc))), .t (.sl ((p).threads.map (Thread.enc)))])]=some (vb (decide ((validM p).1=0))):=by
 (refine den_ofY Γ176 rfl ?_; dsimp only [f176])
 have h1:=validR_den p hs
 simp -dsimp -implicitDefEqProofs only [go_sem,seval,h1]
theorem cellT_eq (c:Cell):cellT c=[99,101,108,108,32]++byt c.name++numsT [c.w,c.init,c.thread]++[32]++flagT c.ghost++[32]++num c.module++[10]:=by
 unfold cellT cellW; rw [line_cons]; simp [numsT]
theorem modT_eq (m:Contract):modT m=[109,111,100,117,108,101,32]++byt m.name++[32]++byt m.owner++[32]++relyT m.rely++[32]++m.guar.text++numsT m.frame++[10]:=by
 unfold modT modW; rw [List.cons_append,line_cons]; simp [numsT,List.flatMap_map]
theorem lockT_eq (l:Lock):lockT l=[108,111,99,107,32]++num l.cell++[32]++l.inv.text++[32]++num l.module++[10]:=by
 unfold lockT lockW; rw [line_cons]; simp
end Rg
end
section
set_option maxRecDepth 100000
namespace Rg
open Go
theorem bs_name (A:List UInt8) (n:ByteArray):bs A++n=bs (A++byt n):=by rw [<- bs_app,bs_of]
theorem byt_size (n:ByteArray):n.size=(byt n).length:=by rw [Array.length_toList]; rfl
set_option maxHeartbeats 2000000 in
theorem textR7_den (p:Prog) (hs:p.sane) (hf:p.few):Den Γ G 220 [(.agg [.t (.sl ((p).cells.map (Cell.enc))), .t (.sl ((p).modules.map (Contract.enc))), .t (.sl ((p).locks.map (Lock.enc))), .t (.sl ((p).threads.map (Thread.enc)))])]=some (.t (.str (bs (textP p)))):=by
 (refine den_ofY Γ220 rfl ?_; dsimp only [f220])
 have hok:=okR7_den p hs
 by_cases h0:(validM p).1=0
 rotate_left
 ·rw [decide_eq_false h0] at hok
  simp -dsimp -implicitDefEqProofs only [go_sem,seval,hok,textP,h0,if_false]
 rw [decide_eq_true h0] at hok
 have htp:textP p=textM p:=by unfold textP; rw [if_pos h0]
 rw [htp]
 have hn:=nums_of (p:=p) h0
 have h7:=nums7_of (p:=p) h0
 have hlen:=textM_len hn hf
 obtain ⟨l1,l2,l3,l4⟩:=hn.lens
 have hc0 : ∀ i,((p.cells.take i).flatMap cellT).length<=10000000000:=fun i=>by have:=flatMap_take cellT p.cells i; omega
 have hm0 : ∀ i,((p.modules.take i).flatMap modT).length<=10000000000:=fun i=>by have:=flatMap_take modT p.modules i; omega
 have hk0 : ∀ i,((p.locks.take i).flatMap lockT).length<=10000000000:=fun i=>by have:=flatMap_take lockT p.locks i; omega
 have ht0 : ∀ i,((p.threads.take i).flatMap threadT).length<=10000000000:=fun i=>by have:=flatMap_take threadT p.threads i; omega
 simp -dsimp -implicitDefEqProofs only [go_sem,seval,hok]
 refine loopYH 2251799813668920 p.cells.length (fun i f h y=>(f 4).v=vi i/\(f 3).v = .t (.str (bs ((p.cells.take i).flatMap cellT)))) rfl ⟨by simp -dsimp -implicitDefEqProofs only [go_sem,seval],by simp -dsimp -implicitDefEqProofs only [go_sem,seval,List.take_zero,List.flatMap_nil]⟩ ?_
 rintro i f u H q bq hi ⟨h4,h3⟩
 have hw:=wrapS i (by omega)
 simp -dsimp -implicitDefEqProofs only [go_sem,seval,h4,h3]
 refine csplit (fun h => ?_) (fun h => ?_) <;> (try rw [h]) <;> (try simp only [bools] at h) <;> (try simp -dsimp -implicitDefEqProofs only [go_sem,seval,h4,h3])
 ·have hil:i<p.cells.length:=by omega
  have hx:p.cells[i]? = some p.cells[i]:=List.getElem?_eq_getElem hil
  have hxm:=List.getElem_mem hil
  generalize p.cells[i]=c at hx hxm
  obtain ⟨s0,s1,s2,s3,s4⟩:=h7.cell c hxm
  have n1:Den Γ G 247 [.t (.sl [[ti c.w],[ti c.init],[ti c.thread]])]=some (.t (.str (bs (numsT [c.w,c.init,c.thread])))):=numbers_sml (l:=[c.w,c.init,c.thread]) (by simp) (by simp only [List.mem_cons,List.not_mem_nil,or_false]; rintro z (rfl | rfl | rfl) <;> assumption)
  have n2:=number_sml s4
  have hfl:=flag7_den c.ghost
  have hfl2:=flagT_len c.ghost
  have g1:=label_len s0
  have g2:(numsT [c.w,c.init,c.thread]).length<=66:=numsT_len _ (by simp [sml_inI s1,sml_inI s2,sml_inI s3])
  have g3:=sml_num s4
  have g4:=hc0 i
  have hsucc:=flatMap_succ cellT hx
  have hna:=fun A=>bs_name A c.name
  have hsz:=byt_size c.name
  simp -dsimp -implicitDefEqProofs (disch:=first | omega | (simp only [List.length_append,List.length_cons,List.length_nil]; omega) | simp only [go_sem,seval]) only [go_sem,seval,h4,h3,hx,n1,n2,hfl,cat_ok,hw,hna,hsz]
  show _/\_
  refine ⟨hil,by simp -dsimp -implicitDefEqProofs only [go_sem,seval], ?_⟩
  simp -dsimp -implicitDefEqProofs only [go_sem,seval]
  rw [hsucc,cellT_eq]
  simp only [List.append_assoc]
 ·have:i=p.cells.length:=by omega
  subst this
  rw [List.take_length] at h3
  have hA0:=hc0 p.cells.length
  rw [List.take_length] at hA0
  obtain ⟨A,hA⟩ : ∃ A,A=p.cells.flatMap cellT:=⟨_,rfl⟩
  rw [<- hA] at h3 hA0
  clear h4 hw hi
  refine loopYH 154742504908420734548705480 p.modules.length (fun i f h y=>(f 6).v=vi i/\(f 3).v = .t (.str (bs (A++(p.modules.take i).flatMap modT)))) rfl ⟨by simp -dsimp -implicitDefEqProofs only [go_sem,seval],by simp -dsimp -implicitDefEqProofs only [go_sem,seval,h3,List.take_zero,List.flatMap_nil,List.append_nil]⟩ ?_
  rintro i f u H q bq hi ⟨h6,h3⟩
  have hw:=wrapS i (by omega)
  simp -dsimp -implicitDefEqProofs only [go_sem,seval,h6,h3]
  refine csplit (fun h => ?_) (fun h => ?_) <;> (try rw [h]) <;> (try simp only [bools] at h) <;> (try simp -dsimp -implicitDefEqProofs only [go_sem,seval,h6,h3])
  ·have hil:i<p.modules.length:=by omega
   have hx:p.modules[i]? = some p.modules[i]:=List.getElem?_eq_getElem hil
   have hxm:=List.getElem_mem hil
   generalize p.modules[i]=m at hx hxm
   obtain ⟨s0,s1,s2⟩:=h7.mods m hxm
   have hfr:=hf.frame m hxm
   have n1:=numbers_sml (by omega) s2
   have n2:=formula_den m.rely
   have n3:=formula_den m.guar
   have hgm:m.guar.absent=false:=by
    obtain ⟨j,hj,rfl⟩:=List.mem_iff_getElem.1 hxm
    exact truth_absent (modErr_iff.1 ((ok_iff.1 h0).modules j _ (List.getElem?_eq_getElem hj))).2.2.1.2
   rw [rely_text hgm] at n3
   have g1:=label_len s0
   have g2:=label_len s1
   have g3:=relyT_len m.rely
   have g4:=text_len m.guar
   have g5:=numsT_len m.frame fun z hz=>sml_inI (s2 z hz)
   have g6:=hm0 i
   have hsucc:=flatMap_succ modT hx
   have hna:=fun A=>bs_name A m.name
   have hsz:=byt_size m.name
   have hna2:=fun A=>bs_name A m.owner
   have hsz2:=byt_size m.owner
   simp -dsimp -implicitDefEqProofs (disch:=first | omega | (simp only [List.length_append,List.length_cons,List.length_nil]; omega) | simp only [go_sem,seval]) only [go_sem,seval,h6,h3,hx,n1,n2,n3,cat_ok,hw,hna,hsz,hna2,hsz2]
   show _/\_
   refine ⟨hil,by simp -dsimp -implicitDefEqProofs only [go_sem,seval], ?_⟩
   simp -dsimp -implicitDefEqProofs only [go_sem,seval]
   rw [hsucc,modT_eq]
   simp only [List.append_assoc]
  ·have:i=p.modules.length:=by omega
   subst this
   rw [List.take_length] at h3
   have hB0:=hm0 p.modules.length
   rw [List.take_length] at hB0
   obtain ⟨B,hB⟩ : ∃ B,B=A++p.modules.flatMap modT:=⟨_,rfl⟩
   have hBl:B.length<=20000000000:=by rw [hB,List.length_append]; omega
   rw [<- hB] at h3
   clear h6 hw hi
   refine loopYH 83076749581814737145815406905131784 p.locks.length (fun i f h y=>(f 8).v=vi i/\(f 3).v = .t (.str (bs (B++(p.locks.take i).flatMap lockT)))) rfl ⟨by simp -dsimp -implicitDefEqProofs only [go_sem,seval],by simp -dsimp -implicitDefEqProofs only [go_sem,seval,h3,List.take_zero,List.flatMap_nil,List.append_nil]⟩ ?_
   rintro i f u H q bq hi ⟨h8,h3⟩
   have hw:=wrapS i (by omega)
   simp -dsimp -implicitDefEqProofs only [go_sem,seval,h8,h3]
   refine csplit (fun h => ?_) (fun h => ?_) <;> (try rw [h]) <;> (try simp only [bools] at h) <;> (try simp -dsimp -implicitDefEqProofs only [go_sem,seval,h8,h3])
   ·have hil:i<p.locks.length:=by omega
    have hx:p.locks[i]? = some p.locks[i]:=List.getElem?_eq_getElem hil
    have hxm:=List.getElem_mem hil
    generalize p.locks[i]=l at hx hxm
    obtain ⟨s0,s1⟩:=h7.lock l hxm
    have n1:=number_sml s0
    have n2:=number_sml s1
    have n3:=formula_den l.inv
    have hgm:l.inv.absent=false:=by
     obtain ⟨j,hj,rfl⟩:=List.mem_iff_getElem.1 hxm
     exact truth_absent (lockErr_iff.1 ((ok_iff.1 h0).locks j _ (List.getElem?_eq_getElem hj))).2.2
    rw [rely_text hgm] at n3
    have g1:=sml_num s0
    have g2:=sml_num s1
    have g4:=text_len l.inv
    have g6:=hk0 i
    have hsucc:=flatMap_succ lockT hx
    simp -dsimp -implicitDefEqProofs (disch:=first | omega | (simp only [List.length_append,List.length_cons,List.length_nil]; omega) | simp only [go_sem,seval]) only [go_sem,seval,h8,h3,hx,n1,n2,n3,cat_ok,hw]
    show _/\_
    refine ⟨hil,by simp -dsimp -implicitDefEqProofs only [go_sem,seval], ?_⟩
    simp -dsimp -implicitDefEqProofs only [go_sem,seval]
    rw [hsucc,lockT_eq]
    simp only [List.append_assoc]
   ·have:i=p.locks.length:=by omega
    subst this
    rw [List.take_length] at h3
    have hC0:=hk0 p.locks.length
    rw [List.take_length] at hC0
    obtain ⟨C,hC⟩ : ∃ C,C=B++p.locks.flatMap lockT:=⟨_,rfl⟩
    have hCl:C.length<=30000000000:=by rw [hC,List.length_append]; omega
    rw [<- hC] at h3
    clear h8 hw hi
    refine loopYH 2722175858617771150464940371512878171144 p.threads.length (fun i f h y=>(f 10).v=vi i/\(f 3).v = .t (.str (bs (C++(p.threads.take i).flatMap threadT)))) rfl ⟨by simp -dsimp -implicitDefEqProofs only [go_sem,seval],by simp -dsimp -implicitDefEqProofs only [go_sem,seval,h3,List.take_zero,List.flatMap_nil,List.append_nil]⟩ ?_
    rintro i f u H q bq hi ⟨h10,h3⟩
    have hw:=wrapS i (by omega)
    simp -dsimp -implicitDefEqProofs only [go_sem,seval,h10,h3]
    refine csplit (fun h => ?_) (fun h => ?_) <;> (try rw [h]) <;> (try simp only [bools] at h) <;> (try simp -dsimp -implicitDefEqProofs only [go_sem,seval,h10,h3])
    ·have hil:i<p.threads.length:=by omega
     have hx:p.threads[i]? = some p.threads[i]:=List.getElem?_eq_getElem hil
     have hxm:=List.getElem_mem hil
     generalize p.threads[i]=x at hx hxm
     have n1:=thread7_den x (thr7_of h0 hf hxm)
     have g1:=threadT_len (thrOk_of hn hf hxm)
     have g6:=ht0 i
     have hsucc:=flatMap_succ threadT hx
     simp -dsimp -implicitDefEqProofs (disch:=first | omega | (simp only [List.length_append,List.length_cons,List.length_nil]; omega) | simp only [go_sem,seval]) only [go_sem,seval,h10,h3,hx,n1,cat_ok,hw]
     show _/\_
     refine ⟨hil,by simp -dsimp -implicitDefEqProofs only [go_sem,seval], ?_⟩
     simp -dsimp -implicitDefEqProofs only [go_sem,seval]
     rw [hsucc]
     simp only [List.append_assoc]
    ·have:i=p.threads.length:=by omega
     subst this
     rw [List.take_length,hC,hB,hA]
     unfold textM
     simp only [List.append_assoc]
end Rg
end
section
set_option maxRecDepth 100000
namespace Rg
open Go
theorem idxM_len {α:Type} (f:α->Bool) (l:List α):(idxM f l).length<=l.length:=idxN_len f l _
theorem lawMatches_den (p:Prog) (hl:p.lite7) (s:Step) (t k:Int):Den Γ G 208 [(.agg [.t (.sl ((p).cells.map (Cell.enc))), .t (.sl ((p).modules.map (Contract.enc))), .t (.sl ((p).locks.map (Lock.enc))), .t (.sl ((p).threads.map (Thread.enc)))]),(.agg [.t (ti (s).kind), .t (ti (s).fr), .t (ti (s).to), .t (ti ((s).guard).op), .t (ti ((s).guard).w), .t (ti ((s).guard).n), .t (.sl (((s).guard).kids.map Expr.enc)), .t (.sl ((s).set.map Assign.enc)), .t (tb (s).release), .t (ti (s).target), .t (ti (s).module)]),vi t,vi k]=some (vb true):=by
 (refine den_ofY Γ208 rfl ?_; dsimp only [f208])
 have h0:=head7_den
 have h1:=small7_den p 620 (by decide)
 have h2:=stepSmall_den s 620 (by decide)
 cases hg:progSmall 620 p
 ·rw [hg] at h1
  simp -dsimp -implicitDefEqProofs only [go_sem,seval,h0,h1]
 rw [hg] at h1
 cases hgs:stepSmall 620 s
 ·rw [hgs] at h2
  simp -dsimp -implicitDefEqProofs only [go_sem,seval,h0,h1,h2]
 rw [hgs] at h2
 have hsm:=progSmall_of hg
 have hsn:=hsm.sane hl
 have hfew:p.few:=⟨fun m hm=>(hsm.mods m hm).1,fun x hx s hs=>(hsm.steps x hx s hs).1,fun x hx l hl=>(hsm.loops x hx l hl).1⟩
 have hsl:s.set.length<=40:=by simp only [stepSmall,Bool.and_eq_true,decide_eq_true_eq] at hgs; omega
 have hcl:=hsm.cells
 have a1:=validP7_den p hsn
 have a2:=validR_den p hsn
 have a3:=textProg_den p hsn hfew
 have a4:=textR7_den p hsn hfew
 have a5:=reads_den s (by omega)
 have a6:=reads7_den s (by omega)
 have a7:=writes_den s (by omega)
 have a8:=writes7_den s (by omega)
 have hst : ∀ x∈p.threads,x.steps.length<2^31:=fun x hx=>by have:=(hsm.thr x hx).2.2.1; omega
 have b1:=stepsP_den p t k hst
 have b2:=stepsR_den p t k hst
 have b3:=localsP_den p t (by omega)
 have b4:=localsR_den p t (by omega)
 have b5:=sharedLP_den p (by omega)
 have b6:=sharedLR_den p (by omega)
 have hrl:(readsM s).length<2^40:=by
  have h1:=sortedM_len (s.guard.sup 2++s.set.flatMap fun a=>a.to.sup 2)
  have h2:=readsL_len s s.set.length
  simp only [readsL,List.take_length] at h2
  unfold readsM; omega
 have hwl:(writesM s).length<2^40:=by
  have h1:=sortedM_len (s.set.map Assign.cell)
  rw [List.length_map] at h1
  unfold writesM; omega
 have hsl2:(stepsM p t k).length<2^40:=by
  unfold stepsM
  split
  ·split
   ·rename_i x hx
    have h1:=idxM_len (fun s:Step=>decide (s.fr=k)) x.steps
    have h2:=(hsm.thr x (List.mem_of_getElem? hx)).2.2.1
    omega
   ·simp
  ·simp
 have hol : ∀ z:Int,(ofM p z).length<2^40:=fun z=>by
  have h1:=idxM_len (fun c:Cell=>decide (c.thread=z)) p.cells
  unfold ofM; omega
 have hll:(localsM p t).length<2^40:=by
  unfold localsM
  split
  ·simp
  ·exact hol t
 have c1:Den Γ G 221 [.t (ints (readsM s)), .t (ints (readsM s))]=some (vb true):=(ints_den _ _ hrl).trans (by simp)
 have c2:Den Γ G 221 [.t (ints (writesM s)), .t (ints (writesM s))]=some (vb true):=(ints_den _ _ hwl).trans (by simp)
 have c3:Den Γ G 221 [.t (ints (stepsM p t k)), .t (ints (stepsM p t k))]=some (vb true):=(ints_den _ _ hsl2).trans (by simp)
 have c4:Den Γ G 221 [.t (ints (localsM p t)), .t (ints (localsM p t))]=some (vb true):=(ints_den _ _ hll).trans (by simp)
 have c5:Den Γ G 221 [.t (ints (ofM p (-1))), .t (ints (ofM p (-1)))]=some (vb true):=(ints_den _ _ (hol (-1))).trans (by simp)
 simp -dsimp -implicitDefEqProofs only [go_sem,seval,h0,h1,h2,a1,a2,a3,a4,a5,a6,a7,a8,b1,b2,b3,b4,b5,b6,c1,c2,c3,c4,c5,decide_true,beq_self_eq_true]
end Rg
end
