/- Part of the proof of the laws of the package relyguardlaw12: an abstract machine for the program's functions, what they compute, and that the machine is the program's. No condition. (H10h H11a H11b H11c H11d H11e H11f H11g H11h H11i) -/
import Derived.Test.YtadooimmjnipcaaGreatDoorPartAY
set_option linter.unusedSimpArgs false
set_option linter.unusedVariables false
section
namespace Rg
open Go
@[go_sem] theorem fnK_fa (g:Nat) (c:List T) (K:Nat->List V->List V->Prop) (w:WK K):fnK (some (.t (.fa g c))) K w=K g [.agg (c.map V.t)] []:=rfl
theorem validP7_den (p:Prog) (hs:p.sane):Den Γ G 64 [(.agg [.t (.sl ((p).cells.map (Cell.enc))), .t (.sl ((p).modules.map (Contract.enc))), .t (.sl ((p).locks.map (Lock.enc))), .t (.sl ((p).threads.map (Thread.enc)))])]=some (.tup [vi (validM p).1,vi (validM p).2.1,vi (validM p).2.2]):=by
 (refine den_ofY Γ64 rfl ?_; dsimp only [f64])
 have h1:=limitsP_den p hs
 simp -dsimp -implicitDefEqProofs only [go_sem,seval,h1]
 refine csplit (fun h => ?_) (fun h => ?_) <;> (try rw [h]) <;> (try simp only [bools] at h) <;> (try simp -dsimp -implicitDefEqProofs only [go_sem,seval])
 ·have h0 : ¬ (limitsM p).1=0:=by simpa using h
  have:validM p=((limitsM p).1,(limitsM p).2, -1):=by rw [validM,if_pos h0]
  rw [this]; simp
 ·have h0:(limitsM p).1=0:=by simpa using h
  obtain ⟨⟨l1,l2,l3,l4⟩,l5⟩:=limits_points h0
  have hv1:validM p=if ¬ cellsM p=0 then (cellsM p, -1, -1) else if ¬ modulesM p=0 then (modulesM p, -1, -1) else if ¬ locksM p=0 then (locksM p, -1, -1) else thrGo p 0 p.threads:=by
   rw [validM,if_neg (by simpa using h0)]
  have c1:=cellsP_den p hs
  have c2:=modulesP_den p hs
  have c3:=locksP_den p hs
  refine wL_step ?_
  simp -dsimp -implicitDefEqProofs only [go_sem,seval,c1]
  refine csplit (fun h => ?_) (fun h => ?_) <;> (try rw [h]) <;> (try simp only [bools] at h) <;> (try simp -dsimp -implicitDefEqProofs only [go_sem,seval])
  ·have:validM p=(cellsM p, -1, -1):=by rw [hv1,if_pos (by simpa using h)]
   rw [this]; simp
  ·have h2:cellsM p=0:=by simpa using h
   rw [if_neg (by simpa using h2)] at hv1
   refine wL_step ?_
   simp -dsimp -implicitDefEqProofs only [go_sem,seval,c2]
   refine csplit (fun h => ?_) (fun h => ?_) <;> (try rw [h]) <;> (try simp only [bools] at h) <;> (try simp -dsimp -implicitDefEqProofs only [go_sem,seval])
   ·have:validM p=(modulesM p, -1, -1):=by rw [hv1,if_pos (by simpa using h)]
    rw [this]; simp
   ·have h3:modulesM p=0:=by simpa using h
    rw [if_neg (by simpa using h3)] at hv1
    refine wL_step ?_
    simp -dsimp -implicitDefEqProofs only [go_sem,seval,c3]
    refine csplit (fun h => ?_) (fun h => ?_) <;> (try rw [h]) <;> (try simp only [bools] at h) <;> (try simp -dsimp -implicitDefEqProofs only [go_sem,seval])
    ·have:validM p=(locksM p, -1, -1):=by rw [hv1,if_pos (by simpa using h)]
     rw [this]; simp
    ·have h4:locksM p=0:=by simpa using h
     rw [if_neg (by simpa using h4)] at hv1
     refine wL_step ?_
     simp -dsimp -implicitDefEqProofs only [go_sem,seval]
     refine loopYH 73786835557349912604 p.threads.length (fun i f h y=>(f 47).v=vi i/\56<y/\h 56=some (.map (setS ((p.threads.take i).map Thread.name)))/\validM p=thrGo p i (p.threads.drop i)) rfl ⟨by simp -dsimp -implicitDefEqProofs only [go_sem,seval],by simp -dsimp -implicitDefEqProofs only [go_sem,seval],by simp -dsimp -implicitDefEqProofs only [go_sem,seval]; rfl,hv1⟩ ?_
     rintro i f u hh y bs hi ⟨h47,hy,hmap,hm⟩
     have hw:=wrapS i (by omega)
     simp -dsimp -implicitDefEqProofs only [go_sem,seval,h47]
     refine csplit (fun h => ?_) (fun h => ?_) <;> (try rw [h]) <;> (try simp only [bools] at h) <;> (try simp -dsimp -implicitDefEqProofs only [go_sem,seval,h47])
     ·obtain ⟨x,hx,hxm⟩:=get_of ‹i<p.threads.length›
      simp -dsimp -implicitDefEqProofs only [go_sem,seval,h47,hx]
      refine rawK_of (threadP_den p hs i x hx (by have:=(l5 x hxm).1; omega) hh _ 56 (by omega) hmap) ?_
      rintro r h' n' ⟨⟨hn,rfl⟩,hk⟩
      simp -dsimp -implicitDefEqProofs only [go_sem,seval,h47]
      refine csplit (fun h => ?_) (fun h => ?_) <;> (try rw [h]) <;> (try simp only [bools] at h) <;> (try simp -dsimp -implicitDefEqProofs only [go_sem,seval,h47])
      ·rw [hm,thr_stop hx (by simpa using h)]; simp
      ·have hk' := hk (by simpa using h)
       refine ⟨by omega,by simp -dsimp -implicitDefEqProofs only [go_sem,seval,hw],by simp -dsimp -implicitDefEqProofs only [go_sem,seval]; omega,by simp -dsimp -implicitDefEqProofs only [go_sem,seval,hk'], ?_⟩
       rw [hm,thr_step hx (by simpa using h)]
     ·have:i=p.threads.length:=by omega
      subst this
      rw [hm,thr_end]; simp
end Rg
end
section
namespace Rg
open Go
def formedM (p:Prog):Bool:=decide ((validM p).1=0)
theorem machineValid_den (p:Prog) (hs:p.sane):Den Γ G 38 [(.agg [.t (.sl ((p).cells.map (Cell.enc))), .t (.sl ((p).modules.map (Contract.enc))), .t (.sl ((p).locks.map (Lock.enc))), .t (.sl ((p).threads.map (Thread.enc)))])]=some (vb (formedM p)):=by
 (refine den_ofY Γ38 rfl ?_; dsimp only [f38])
 have h1:=validP7_den p hs
 simp -dsimp -implicitDefEqProofs only [go_sem,seval,h1]
 rfl
theorem zip_get {α β:Type} {l:List α} {m:List β} {i:Nat} {a:α} {b:β} (h1:l[i]? = some a) (h2:m[i]? = some b):(l.zip m)[i]? = some (a,b):=by
 rw [List.getElem?_zip_eq_some]; exact ⟨h1,h2⟩
def cellFit (q:Int×Cell):Bool:=decide (0<=q.1)&&decide (q.1<2^q.2.w.toNat)
def atFit (q:Int×Thread):Bool:=decide (-1<=q.1)&&decide (q.1<q.2.points) && !(decide (q.1 = -1) && !q.2.asleep)
def fitsM (p:Prog) (mem at_:List Int):Bool :=
 decide (mem.length=p.cells.length)&&decide (at_.length=p.threads.length)&&(mem.zip p.cells).all cellFit&&(at_.zip p.threads).all atFit
def isM (p:Prog) (c:Config):Bool:=fitsM p c.mem c.at_&&decide (c.buf.length=p.threads.length)&&c.buf.all List.isEmpty
theorem formed_limits {p:Prog} (h:formedM p=true):(limitsM p).1=0/\cellsM p=0/\modulesM p=0/\locksM p=0/\thrGo p 0 p.threads=(0, -1, -1):=by
 rw [formedM,decide_eq_true_eq,validM] at h
 have key : ∀ (l:List Thread) (i:Nat),(thrGo p i l).1=0->thrGo p i l=(0, -1, -1):=by
  intro l
  induction l with
  | nil=>intro i _; rfl
  | cons x r ih =>
   intro i h
   rw [thrGo] at h ⊢
   split at h
   ·rename_i h0; rw [if_pos h0]; exact ih _ h
   ·rename_i h0; exact absurd h h0
 split at h
 ·rename_i h0; exact absurd h h0
 ·rename_i h0
  split at h
  ·rename_i h1; exact absurd h h1
  ·rename_i h1
   split at h
   ·rename_i h2; exact absurd h h2
   ·rename_i h2
    split at h
    ·rename_i h3; exact absurd h h3
    ·rename_i h3
     exact ⟨by simpa using h0,by simpa using h1,by simpa using h2,by simpa using h3,key _ _ h⟩
theorem formed_cell {p:Prog} (h:formedM p=true) {x:Cell} (hx:x∈p.cells):1<=x.w/\x.w<=8/\0<=x.init/\x.init<2^x.w.toNat:=by
 have:=cellBad_parts (cellsM_thread (formed_limits h).2.1 x hx)
 exact ⟨this.2.1,this.2.2.1,this.2.2.2.1,this.2.2.2.2.1⟩
theorem fitsR_den (p:Prog) (hf:formedM p=true) (mem at_:List Int) (h1:mem.length<2^40) (h2:at_.length<2^40):Den Γ G 46 [(.agg [.t (.sl ((p).cells.map (Cell.enc))), .t (.sl ((p).modules.map (Contract.enc))), .t (.sl ((p).locks.map (Lock.enc))), .t (.sl ((p).threads.map (Thread.enc)))]), .t (ints mem), .t (ints at_)]=some (vb (fitsM p mem at_)):=by
 (refine den_ofY Γ46 rfl ?_; dsimp only [f46])
 simp -dsimp -implicitDefEqProofs only [go_sem,seval]
 by_cases hl:(mem.length:Int)=p.cells.length/\(at_.length:Int)=p.threads.length
 ·obtain ⟨l1,l2⟩:=hl
  have l1' : decide (¬ (mem.length:Int)=p.cells.length)=false:=by simp [l1]
  have l2' : decide (¬ (at_.length:Int)=p.threads.length)=false:=by simp [l2]
  have hF:fitsM p mem at_=((mem.zip p.cells).all cellFit&&(at_.zip p.threads).all atFit):=by
   have e1:mem.length=p.cells.length:=by omega
   have e2:at_.length=p.threads.length:=by omega
   simp [fitsM,e1,e2]
  have z1:(mem.zip p.cells).length=mem.length:=by rw [List.length_zip]; omega
  have z2:(at_.zip p.threads).length=at_.length:=by rw [List.length_zip]; omega
  simp -dsimp -implicitDefEqProofs only [go_sem,seval,l1',l2']
  refine loopY 281474968322240 mem.length (fun i f=>(f 7).v=vi i/\(mem.zip p.cells).all cellFit=((mem.zip p.cells).drop i).all cellFit) rfl rfl ⟨by simp -dsimp -implicitDefEqProofs only [go_sem,seval],rfl⟩ ?_
  rintro i f u kk bb hi ⟨h7,hall⟩
  have hw:=wrapS i (by omega)
  simp -dsimp -implicitDefEqProofs only [go_sem,seval,h7]
  refine csplit (fun h => ?_) (fun h => ?_) <;> (try rw [h]) <;> (try simp only [bools] at h) <;> (try simp -dsimp -implicitDefEqProofs only [go_sem,seval,h7])
  ·obtain ⟨v,hv,_⟩:=get_of ‹i<mem.length›
   obtain ⟨x,hx,hxm⟩:=get_of (show i<p.cells.length by omega)
   obtain ⟨w1,w2,_⟩:=formed_cell hf hxm
   have hp:=power_den x.w (by omega)
   have hz:=zip_get hv hx
   simp -dsimp -implicitDefEqProofs only [go_sem,seval,h7,hv,hx]
   repeat' (refine csplit (fun h => ?_) (fun h => ?_) <;> (try rw [h]) <;> (try simp only [bools] at h) <;> (try simp -dsimp -implicitDefEqProofs only [go_sem,seval,h7,hv,hx,hp]))
   all_goals first
    | (rw [hF,hall,all_stop hz (by simp only [cellFit,Bool.and_eq_false_iff,decide_eq_false_iff_not]; omega)]; simp; done)
    | (refine ⟨by omega,by simp -dsimp -implicitDefEqProofs only [go_sem,seval,hw], ?_⟩
       rw [hall,all_step hz (by simp only [cellFit,Bool.and_eq_true,decide_eq_true_eq]; omega)])
  ·have:i=mem.length:=by omega
   subst this
   have hz:=all_end cellFit (mem.zip p.cells)
   rw [z1] at hz
   rw [hz] at hall
   rw [hall,Bool.true_and] at hF
   clear hall h7 hw
   refine loopY 309485009821063593748070720 at_.length (fun i f=>(f 8).v=vi i/\(at_.zip p.threads).all atFit=((at_.zip p.threads).drop i).all atFit) rfl rfl ⟨by simp -dsimp -implicitDefEqProofs only [go_sem,seval],rfl⟩ ?_
   rintro i f u kk bb hi ⟨h8,hall⟩
   have hw:=wrapS i (by omega)
   simp -dsimp -implicitDefEqProofs only [go_sem,seval,h8]
   refine csplit (fun h => ?_) (fun h => ?_) <;> (try rw [h]) <;> (try simp only [bools] at h) <;> (try simp -dsimp -implicitDefEqProofs only [go_sem,seval,h8])
   ·obtain ⟨v,hv,_⟩:=get_of ‹i<at_.length›
    obtain ⟨x,hx,hxm⟩:=get_of (show i<p.threads.length by omega)
    have hz:=zip_get hv hx
    simp -dsimp -implicitDefEqProofs only [go_sem,seval,h8,hv,hx]
    repeat' (refine csplit (fun h => ?_) (fun h => ?_) <;> (try rw [h]) <;> (try simp only [bools] at h) <;> (try simp -dsimp -implicitDefEqProofs only [go_sem,seval,h8,hv,hx]))
    all_goals first
     | (rw [hF,hall,all_stop hz (by simp only [atFit]; simp [*]; try omega)]; done)
     | (refine ⟨by omega,by simp -dsimp -implicitDefEqProofs only [go_sem,seval,hw], ?_⟩
        rw [hall,all_step hz (by simp only [atFit]; simp [*]; try omega)])
   ·have:i=at_.length:=by omega
    subst this
    have hz:=all_end atFit (at_.zip p.threads)
    rw [z2] at hz
    rw [hF,hall,hz]
 ·have hF:fitsM p mem at_=false:=by
   by_cases e1:mem.length=p.cells.length
   ·have e2 : ¬ at_.length=p.threads.length:=by omega
    simp [fitsM,e2]
   ·simp [fitsM,e1]
  rw [hF]
  repeat' (refine csplit (fun h => ?_) (fun h => ?_) <;> (try rw [h]) <;> (try simp only [bools] at h) <;> (try simp -dsimp -implicitDefEqProofs only [go_sem,seval]))
  all_goals (exfalso; omega)
structure Config.sane (c:Config):Prop where
 mem:c.mem.length<2^40
 at_:c.at_.length<2^40
 buf:c.buf.length<2^40
theorem fitsP_den (p:Prog) (hf:formedM p=true) (c:Config) (hc:c.sane):Den Γ G 43 [(.agg [.t (.sl ((p).cells.map (Cell.enc))), .t (.sl ((p).modules.map (Contract.enc))), .t (.sl ((p).locks.map (Lock.enc))), .t (.sl ((p).threads.map (Thread.enc)))]),(.agg [.t (ints (c).mem), .t (ints (c).at_), .t (.sl ((c).buf.map (fun b=>[.sl (b.map Entry.enc)])))])]=some (vb (isM p c)):=by
 (refine den_ofY Γ43 rfl ?_; dsimp only [f43])
 obtain ⟨hc1,hc2,hc3⟩:=hc
 simp -dsimp -implicitDefEqProofs only [go_sem,seval]
 by_cases hl:(c.mem.length:Int)=p.cells.length/\(c.at_.length:Int)=p.threads.length/\(c.buf.length:Int)=p.threads.length
 ·obtain ⟨l1,l2,l3⟩:=hl
  have l1' : decide (¬ (c.mem.length:Int)=p.cells.length)=false:=by simp [l1]
  have l2' : decide (¬ (c.at_.length:Int)=p.threads.length)=false:=by simp [l2]
  have l3' : decide (¬ (c.buf.length:Int)=p.threads.length)=false:=by simp [l3]
  have hF:isM p c=((c.mem.zip p.cells).all cellFit&&((c.at_.zip p.threads).all atFit&&c.buf.all List.isEmpty)):=by
   have e1:c.mem.length=p.cells.length:=by omega
   have e2:c.at_.length=p.threads.length:=by omega
   have e3:c.buf.length=p.threads.length:=by omega
   simp [isM,fitsM,e1,e2,e3,Bool.and_assoc]
  have z1:(c.mem.zip p.cells).length=c.mem.length:=by rw [List.length_zip]; omega
  have z2:(c.at_.zip p.threads).length=c.at_.length:=by rw [List.length_zip]; omega
  simp -dsimp -implicitDefEqProofs only [go_sem,seval,l1',l2',l3']
  refine loopY 144114913197949040 c.mem.length (fun i f=>(f 38).v=vi i/\(c.mem.zip p.cells).all cellFit=((c.mem.zip p.cells).drop i).all cellFit) rfl rfl ⟨by simp -dsimp -implicitDefEqProofs only [go_sem,seval],rfl⟩ ?_
  rintro i f u kk bb hi ⟨h38,hall⟩
  have hw:=wrapS i (by omega)
  simp -dsimp -implicitDefEqProofs only [go_sem,seval,h38]
  refine csplit (fun h => ?_) (fun h => ?_) <;> (try rw [h]) <;> (try simp only [bools] at h) <;> (try simp -dsimp -implicitDefEqProofs only [go_sem,seval,h38])
  ·obtain ⟨v,hv,_⟩:=get_of ‹i<c.mem.length›
   obtain ⟨x,hx,hxm⟩:=get_of (show i<p.cells.length by omega)
   obtain ⟨w1,w2,_⟩:=formed_cell hf hxm
   have hsh:=shl_one (w:=x.w) (by omega)
   have hs0 : ¬ x.w<0:=by omega
   have hz:=zip_get hv hx
   simp -dsimp -implicitDefEqProofs only [go_sem,seval,h38,hv,hx]
   repeat' (refine csplit (fun h => ?_) (fun h => ?_) <;> (try rw [h]) <;> (try simp only [bools] at h) <;> (try simp -dsimp -implicitDefEqProofs only [go_sem,seval,h38,hv,hx,hsh,hs0]))
   all_goals first
    | (rw [hF,hall,all_stop hz (by simp only [cellFit,Bool.and_eq_false_iff,decide_eq_false_iff_not]; omega)]; simp; done)
    | (refine ⟨by omega,by simp -dsimp -implicitDefEqProofs only [go_sem,seval,hw], ?_⟩
       rw [hall,all_step hz (by simp only [cellFit,Bool.and_eq_true,decide_eq_true_eq]; omega)])
  ·have:i=c.mem.length:=by omega
   subst this
   have hz:=all_end cellFit (c.mem.zip p.cells)
   rw [z1] at hz
   rw [hz] at hall
   rw [hall,Bool.true_and] at hF
   clear hall h38 hw
   refine loopY 158456325027375753682481054608 c.at_.length (fun i f=>(f 60).v=vi i/\((c.at_.zip p.threads).all atFit&&c.buf.all List.isEmpty)=(((c.at_.zip p.threads).drop i).all atFit&&(c.buf.drop i).all List.isEmpty)) rfl rfl ⟨by simp -dsimp -implicitDefEqProofs only [go_sem,seval],rfl⟩ ?_
   rintro i f u kk bb hi ⟨h60,hall⟩
   have hw:=wrapS i (by omega)
   simp -dsimp -implicitDefEqProofs only [go_sem,seval,h60]
   refine csplit (fun h => ?_) (fun h => ?_) <;> (try rw [h]) <;> (try simp only [bools] at h) <;> (try simp -dsimp -implicitDefEqProofs only [go_sem,seval,h60])
   ·obtain ⟨v,hv,_⟩:=get_of ‹i<c.at_.length›
    obtain ⟨x,hx,hxm⟩:=get_of (show i<p.threads.length by omega)
    obtain ⟨b,hbx,_⟩:=get_of (show i<c.buf.length by omega)
    have hz:=zip_get hv hx
    cases hat:atFit (v,x)
    ·rw [hF,hall,all_stop hz hat,Bool.false_and]
     simp -dsimp -implicitDefEqProofs only [go_sem,seval,h60,hv,hx]
     repeat' (refine csplit (fun h => ?_) (fun h => ?_) <;> (try rw [h]) <;> (try simp only [bools] at h) <;> (try simp -dsimp -implicitDefEqProofs only [go_sem,seval,h60,hv,hx,hbx]))
     all_goals (exfalso; simp only [atFit,Bool.and_eq_false_iff,decide_eq_false_iff_not,Bool.not_eq_false',Bool.and_eq_true,decide_eq_true_eq,Bool.not_eq_true'] at hat; simp_all; try omega)
    ·have hat' := hat
     simp only [atFit,Bool.and_eq_true,decide_eq_true_eq,Bool.not_eq_true',Bool.and_eq_false_iff,decide_eq_false_iff_not,Bool.not_eq_false'] at hat'
     obtain ⟨⟨a1,a2⟩,a3⟩:=hat'
     have b1 : ¬ v < -1:=by omega
     have b2 : ¬ v>=x.points:=by omega
     cases b with
     | nil =>
      simp -dsimp -implicitDefEqProofs only [go_sem,seval,h60,hv,hx,b1,b2,hbx]
      repeat' (refine csplit (fun h => ?_) (fun h => ?_) <;> (try rw [h]) <;> (try simp only [bools] at h) <;> (try simp -dsimp -implicitDefEqProofs only [go_sem,seval,h60,hv,hx,hbx]))
      all_goals first
       | (exfalso; simp_all; done)
       | (refine ⟨by omega,by simp -dsimp -implicitDefEqProofs only [go_sem,seval,hw], ?_⟩
          rw [hall,all_step hz hat,all_step hbx rfl])
     | cons e r =>
      have hbl:(((e::r).length:Nat):Int)>0:=by show ((r.length+1:Nat):Int)>0; omega
      rw [hF,hall,all_stop hbx rfl,Bool.and_false]
      simp -dsimp -implicitDefEqProofs only [go_sem,seval,h60,hv,hx,b1,b2,hbx,hbl]
      repeat' (refine csplit (fun h => ?_) (fun h => ?_) <;> (try rw [h]) <;> (try simp only [bools] at h) <;> (try simp -dsimp -implicitDefEqProofs only [go_sem,seval,h60,hv,hx,hbx,hbl]))
      all_goals (exfalso; simp_all; try omega)
   ·have:i=c.at_.length:=by omega
    subst this
    have hz:=all_end atFit (c.at_.zip p.threads)
    rw [z2] at hz
    have hz2:=all_end List.isEmpty c.buf
    rw [show c.buf.length=c.at_.length by omega] at hz2
    rw [hF,hall,hz,hz2]; rfl
 ·have hF:isM p c=false:=by
   by_cases e1:c.mem.length=p.cells.length
   ·by_cases e2:c.at_.length=p.threads.length
    ·have e3 : ¬ c.buf.length=p.threads.length:=by omega
     simp [isM,e3]
    ·simp [isM,fitsM,e2]
   ·simp [isM,fitsM,e1]
  rw [hF]
  repeat' (refine csplit (fun h => ?_) (fun h => ?_) <;> (try rw [h]) <;> (try simp only [bools] at h) <;> (try simp -dsimp -implicitDefEqProofs only [go_sem,seval]))
  all_goals (exfalso; omega)
end Rg
end
section
namespace Rg
open Go
theorem OwnB.cells {h:Nat->Option O} {x:Nat} {v:V} {sz:Nat} {rows:List (List V)} (o:OwnB h x v sz rows):v.cells=some [v]:=by
 rcases o with ⟨rfl,_⟩ | ⟨k,rfl,_,_⟩ <;> rfl
def startM (p:Prog):Config :=
 if formedM p then ⟨p.cells.map Cell.init,p.threads.map fun x=>if x.asleep then -1 else 0,p.threads.map fun _=>[]⟩ else ⟨[],[],[]⟩
theorem mapM_nils (h:Nat->Option O) : ∀ n:Nat,(List.replicate n [V.t .nils]).mapM (fun row=>row.mapM (toT h 999))=some (List.replicate n [T.sl []])
 | 0=>rfl
 | n+1=>by rw [List.replicate_succ,List.replicate_succ,List.mapM_cons,mapM_nils h n]; rfl
theorem replicate_map {α β:Type} (l:List α) (b:β):List.replicate l.length b=l.map fun _=>b:=by
 induction l with
 | nil=>rfl
 | cons x r ih=>simp [List.replicate_succ,ih]
def filled (l:List Int) (i:Nat):List Int:=l.take i++List.replicate (l.length-i) 0
theorem filled_0 (l:List Int):filled l 0=List.replicate l.length 0:=by simp [filled]
theorem filled_end (l:List Int):filled l l.length=l:=by simp [filled]
theorem filled_len (l:List Int) {i:Nat} (h:i<=l.length):(filled l i).length=l.length:=by simp [filled]; omega
theorem filled_set {l:List Int} {i:Nat} {x:Int} (h:l[i]? = some x):(filled l i).set i x=filled l (i+1):=by
 have hi:i<l.length:=(List.getElem?_eq_some_iff.1 h).1
 apply List.ext_getElem?
 intro j
 simp only [filled]
 rw [List.getElem?_set]
 have hlt:(l.take i).length=i:=by simp; omega
 have hlt1:(l.take (i+1)).length=i+1:=by simp; omega
 by_cases hj:i=j
 ·subst hj
  have hlen:i<(l.take i++List.replicate (l.length-i) 0).length:=by simp; omega
  rw [if_pos rfl,if_pos hlen,List.getElem?_append_left (by omega),List.getElem?_take,if_pos (by omega),h]
 ·rw [if_neg hj]
  by_cases hj2:j<i
  ·rw [List.getElem?_append_left (by omega),List.getElem?_append_left (by omega),List.getElem?_take,List.getElem?_take,if_pos hj2,if_pos (by omega)]
  ·rw [List.getElem?_append_right (by omega),List.getElem?_append_right (by omega),hlt,hlt1,List.getElem?_replicate,List.getElem?_replicate]
   by_cases hj3:j<l.length
   ·rw [if_pos (by omega),if_pos (by omega)]
   ·rw [if_neg (by omega),if_neg (by omega)]
theorem filled_zero {l:List Int} {i:Nat} (h:l[i]? = some 0):filled l i=filled l (i+1):=by
 have hi:i<l.length:=(List.getElem?_eq_some_iff.1 h).1
 simp only [filled,take_succ_of h]
 rw [List.append_assoc,show l.length-i=(l.length-(i+1))+1 by omega,List.replicate_succ]; rfl
theorem rowsI_set (l:List Int) (i:Nat) (x:Int):(rowsI l).set i [vi x]=rowsI (l.set i x):=by simp [rowsI,List.map_set]
theorem rowsI_rep (n:Nat):rowsI (List.replicate n 0)=List.replicate n [vi 0]:=by simp [rowsI]
theorem rowsI_get {l:List Int} {i:Nat} (h:i<l.length):(rowsI l)[i]? = some [vi l[i]]:=by simp [rowsI,h]
theorem rowsI_toT (h:Nat->Option O) (d:Nat) (l:List Int):(rowsI l).mapM (fun row=>row.mapM (toT h d))=some (l.map fun n=>[ti n]):=rows_toT h d (l.map fun n=>[ti n]) (ints_norm _)
theorem startP_den (p:Prog) (hs:p.sane):Den Γ G 12 [(.agg [.t (.sl ((p).cells.map (Cell.enc))), .t (.sl ((p).modules.map (Contract.enc))), .t (.sl ((p).locks.map (Lock.enc))), .t (.sl ((p).threads.map (Thread.enc)))])]=some (.agg [.t (ints (startM p).mem), .t (ints (startM p).at_), .t (.sl ((startM p).buf.map (fun b=>[.sl (b.map Entry.enc)])))]):=by
 (refine den_ofY Γ12 rfl ?_; dsimp only [f12])
 have h1:=machineValid_den p hs
 simp -dsimp -implicitDefEqProofs only [go_sem,seval,h1]
 refine csplit (fun h => ?_) (fun h => ?_) <;> (try rw [h]) <;> (try simp only [bools] at h) <;> (try simp -dsimp -implicitDefEqProofs only [go_sem,seval])
 ·simp [startM,h]
 ·have hf:formedM p=true:=by assumption
  obtain ⟨⟨l1,l2,l3,l4⟩,l5⟩:=limits_points (formed_limits hf).1
  have hle:(p.threads.length:Int)<=4294967296:=by omega
  have hle2:(p.cells.length:Int)<=4294967296:=by omega
  generalize hme:p.cells.map Cell.init=mems
  have hmel:mems.length=p.cells.length:=by rw [<- hme]; simp
  generalize hat:(p.threads.map fun x=>if x.asleep then (-1:Int) else 0)=ats
  have hatl:ats.length=p.threads.length:=by rw [<- hat]; simp
  simp -dsimp -implicitDefEqProofs only [go_sem,seval,hle,hle2,Int.le_refl]
  have r1:=rowsI_rep p.cells.length
  have r2:=rowsI_rep p.threads.length
  refine loopYH 1099444518928 p.cells.length (fun i f h x=>(f 26).v=vi i/\h 8=some (.rows 1 (rowsI (filled mems i)) false)/\h 12=some (.rows 1 (rowsI (List.replicate p.threads.length 0)) false)/\h 16=some (.rows 1 (List.replicate p.threads.length [.t .nils]) false))
   rfl ⟨by simp -dsimp -implicitDefEqProofs only [go_sem,seval],by simp -dsimp -implicitDefEqProofs only [go_sem,seval]; rw [filled_0,hmel,r1],by simp -dsimp -implicitDefEqProofs only [go_sem,seval]; rw [r2],by simp -dsimp -implicitDefEqProofs only [go_sem,seval]⟩ ?_
  rintro i f u H x bs hi ⟨h26,g8,g12,g16⟩
  have hw:=wrapS i (by omega)
  simp -dsimp -implicitDefEqProofs only [go_sem,seval,h26]
  refine csplit (fun h => ?_) (fun h => ?_) <;> (try rw [h]) <;> (try simp only [bools] at h) <;> (try simp -dsimp -implicitDefEqProofs only [go_sem,seval,h26])
  ·obtain ⟨c,hc,_⟩:=get_of ‹i<p.cells.length›
   have hc' : mems[i]? = some c.init:=by rw [<- hme]; simp [hc]
   have hfl:=filled_len mems (i:=i) (by omega)
   have hgt:=rowsI_get (l:=filled mems i) (i:=i) (by omega)
   have hst:=rowsI_set (filled mems i) i c.init
   rw [filled_set hc'] at hst
   have hil:i<p.cells.length:=by assumption
   simp -dsimp -implicitDefEqProofs only [go_sem,seval,h26,hc,g8,hgt,hil]
   refine ⟨by omega,by simp -dsimp -implicitDefEqProofs only [go_sem,seval,hw], ?_, ?_, ?_⟩
   ·simp -dsimp -implicitDefEqProofs only [go_sem,seval,hst]
   ·simp -dsimp -implicitDefEqProofs only [go_sem,seval,g12]
   ·simp -dsimp -implicitDefEqProofs only [go_sem,seval,g16]
  ·have:i=p.cells.length:=by omega
   subst this
   rw [<- hmel,filled_end] at g8
   refine loopYH 144106391982833696 p.threads.length (fun i f h x=>(f 43).v=vi i/\h 8=some (.rows 1 (rowsI mems) false)/\h 12=some (.rows 1 (rowsI (filled ats i)) false)/\h 16=some (.rows 1 (List.replicate p.threads.length [.t .nils]) false))
    rfl ⟨by simp -dsimp -implicitDefEqProofs only [go_sem,seval],by simp -dsimp -implicitDefEqProofs only [go_sem,seval,g8],by simp -dsimp -implicitDefEqProofs only [go_sem,seval,g12,filled_0,hatl],by simp -dsimp -implicitDefEqProofs only [go_sem,seval,g16]⟩ ?_
   clear h26 g8 g12 g16 hw
   rintro i f u H x bs hi ⟨h43,g8,g12,g16⟩
   have hw:=wrapS i (by omega)
   simp -dsimp -implicitDefEqProofs only [go_sem,seval,h43]
   refine csplit (fun h => ?_) (fun h => ?_) <;> (try rw [h]) <;> (try simp only [bools] at h) <;> (try simp -dsimp -implicitDefEqProofs only [go_sem,seval,h43])
   ·obtain ⟨c,hc,_⟩:=get_of ‹i<p.threads.length›
    have hc' : ats[i]? = some (if c.asleep then (-1:Int) else 0):=by rw [<- hat]; simp [hc]
    have hfl:=filled_len ats (i:=i) (by omega)
    have hgt:=rowsI_get (l:=filled ats i) (i:=i) (by omega)
    have hil:i<p.threads.length:=by assumption
    simp -dsimp -implicitDefEqProofs only [go_sem,seval,h43,hc]
    cases hasl:c.asleep
    ·rw [hasl] at hc'
     have hz:=filled_zero (l:=ats) (i:=i) (by simpa using hc')
     simp -dsimp -implicitDefEqProofs only [go_sem,seval,h43]
     refine ⟨by omega,by simp -dsimp -implicitDefEqProofs only [go_sem,seval,hw],by simp -dsimp -implicitDefEqProofs only [go_sem,seval,g8],by simp -dsimp -implicitDefEqProofs only [go_sem,seval,g12,hz],by simp -dsimp -implicitDefEqProofs only [go_sem,seval,g16]⟩
    ·rw [hasl] at hc'
     have hst:=rowsI_set (filled ats i) i (-1)
     rw [filled_set (by simpa using hc')] at hst
     simp -dsimp -implicitDefEqProofs only [go_sem,seval,h43,g12,hgt,hil]
     refine ⟨by omega,by simp -dsimp -implicitDefEqProofs only [go_sem,seval,hw],by simp -dsimp -implicitDefEqProofs only [go_sem,seval,g8],by simp -dsimp -implicitDefEqProofs only [go_sem,seval,hst],by simp -dsimp -implicitDefEqProofs only [go_sem,seval,g16]⟩
   ·have:i=p.threads.length:=by omega
    subst this
    rw [<- hatl,filled_end] at g12
    have t2:List.take p.threads.length (List.replicate p.threads.length [V.t .nils])=List.replicate p.threads.length [V.t .nils]:=List.take_of_length_le (by simp)
    have t3:=mapM_nils H p.threads.length
    have t4:List.take p.cells.length (rowsI mems)=rowsI mems:=List.take_of_length_le (by rw [rowsI_len]; omega)
    have t5:List.take p.threads.length (rowsI ats)=rowsI ats:=List.take_of_length_le (by rw [rowsI_len]; omega)
    have t6:=rowsI_toT H 999 mems
    have t7:=rowsI_toT H 999 ats
    simp -dsimp -implicitDefEqProofs only [go_sem,seval,t2,t3,t4,t5,t6,t7,g8,g12,g16,List.length_replicate,Nat.le_refl,rowsI_len,hmel,hatl]
    simp [startM,hf,hat,hme,replicate_map]
end Rg
end
section
-- FULL
namespace Rg
open Go
def pointsAt (p:Prog) (t:Int):Int:=match p.threads[t.toNat]? with
 | some x=>x.points
 | none=>0
def enabledM (p:Prog) (c:Config) (t:Int) (s:Step):Bool :=
 decide (atI c.at_ t=s.fr)&&decide (s.guard.eval c.mem c.mem=1) &&
  (if s.kind=6 then decide (atI c.at_ s.target = -1) else if s.kind=7 then decide (atI c.at_ s.target=pointsAt p s.target-1) else true)
structure StepOk (p:Prog) (t:Int) (x:Thread) (s:Step):Prop where
 kind:1<=s.kind/\s.kind<=7
 fr:0<=s.fr/\s.fr<x.points-1
 to:0<=s.to/\s.to<x.points
 rng:RangeOk p s
 row:kindOk p t s=true
 tgt:s.kind=6\/s.kind=7->inR s.target p.threads.length=true/\s.target≠t
 wid : ∀ a∈s.set, ∃ y,p.cells[a.cell.toNat]? = some y/\a.to.w=y.w
 dif : ∀ (i j:Nat) (a b:Assign),s.set[i]? = some a->s.set[j]? = some b->a.cell=b.cell->i=j
theorem setErr_wid {p:Prog} {set:List Assign} : ∀ {l:List Assign} {i:Nat},(feGo (setErr p set) i l).1=0 -> ∀ a∈l, ∃ y,p.cells[a.cell.toNat]? = some y/\a.to.w=y.w
 | [],_,_,a,ha=>by simp at ha
 | x::r,i,h,a,ha=>by
  rw [feGo] at h
  split at h
  ·rename_i h0
   rcases List.mem_cons.1 ha with rfl | ha
   ·unfold setErr at h0
    split at h0
    ·simp at h0
    ·split at h0
     ·simp at h0
     ·rename_i h2
      simp only [Bool.or_eq_true,not_or,Bool.not_eq_true',Bool.not_eq_false] at h2
      have:=h2.2
      unfold cellIs at this
      rcases hy:p.cells[a.cell.toNat]? with _ | y
      ·rw [hy] at this; simp at this
      ·rw [hy] at this; exact ⟨y,rfl,by simpa using this⟩
   ·exact setErr_wid h a ha
  ·rename_i h0; exact absurd h h0
theorem setErr_dif {p:Prog} {set:List Assign} : ∀ {l:List Assign} {i:Nat},set.drop i=l->(feGo (setErr p set) i l).1=0 -> ∀ (j:Nat) (a:Assign),i<=j->set[j]? = some a->(set.take j).any (fun b=>decide (b.cell=a.cell))=false
 | [],i,hd,_,j,a,hij,ha=>by
  have:set.length<=i:=by simpa using hd
  have:=(List.getElem?_eq_some_iff.1 ha).1
  omega
 | x::r,i,hd,h,j,a,hij,ha=>by
  rw [feGo] at h
  have hxi:set[i]? = some x:=by
   have:=congrArg (·[0]?) hd
   simpa using this
  have hdr:set.drop (i+1)=r:=by
   have:=drop_of hxi
   rw [hd] at this
   exact (List.cons.inj this).2.symm
  split at h
  ·rename_i h0
   by_cases hj:j=i
   ·subst hj
    rw [hxi] at ha; cases ha
    unfold setErr at h0
    split at h0
    ·simp at h0
    ·rename_i h1
     simp only [Bool.or_eq_true,not_or,Bool.not_eq_true] at h1
     exact h1.2
   ·exact setErr_dif hdr h j a (by omega) ha
  ·rename_i h0; exact absurd h h0
theorem stepOk_of {p:Prog} {t:Int} {x:Thread} {s:Step} (h:stepErr p t x.points s=0):StepOk p t x s:=by
 unfold stepErr at h
 split at h
 ·simp at h
 ·rename_i hb
  split at h
  ·simp at h
  ·rename_i hg
   split at h
   ·rename_i h0; exact absurd h h0
   ·rename_i hs
    split at h
    ·rename_i hk
     have hs:(feGo (setErr p s.set) 0 s.set).1=0:=by simpa using hs
     have hb' : stepBad p x.points s=false:=by simpa using hb
     simp only [stepBad,Bool.or_eq_false_iff,Bool.and_eq_false_iff,Bool.not_eq_false',decide_eq_false_iff_not] at hb'
     obtain ⟨⟨⟨⟨⟨⟨b1,b2⟩,b3⟩,b4⟩,b5⟩,b6⟩,b7⟩:=hb'
     simp only [inR,decide_eq_true_eq] at b3 b4
     simp only [Bool.or_eq_true,not_or,Bool.not_eq_true',Bool.not_eq_false,decide_eq_true_eq] at hg
     refine ⟨by omega,b3,b4,⟨hg.1,setErr_range (set:=s.set) hs⟩,hk,fun hk67 => ?_,setErr_wid hs,fun i j a b ha hb hab => ?_⟩
     ·rw [kindOk,if_neg (by omega),if_neg (by omega),if_neg (by omega),if_neg (by omega),if_neg (by omega)] at hk
      have hj:joinOk p t s=true:=by
       split at hk
       ·simp only [Bool.and_eq_true] at hk; exact hk.1
       ·exact hk
      simp only [joinOk,Bool.and_eq_true,decide_eq_true_eq] at hj
      exact ⟨hj.2,hj.1.2⟩
     ·have key : ∀ (i j:Nat) (a b:Assign),s.set[i]? = some a->s.set[j]? = some b->a.cell=b.cell -> ¬ i<j:=fun i j a b ha hb hab hlt=>by
       have:=setErr_dif (i:=0) rfl hs j b (by omega) hb
       rw [any_take_stop ha hlt (by simpa using hab)] at this
       simp at this
      have h1:=key i j a b ha hb hab
      have h2:=key j i b a hb ha hab.symm
      omega
    ·simp at h
theorem thrGo_mem {p:Prog} : ∀ {l:List Thread} {i:Nat},thrGo p i l=(0, -1, -1) -> ∀ (j:Nat) (x:Thread),l[j]? = some x->(threadErr p (i+j) x).1=0
 | [],_,_,j,x,hx=>by simp at hx
 | y::r,i,h,j,x,hx=>by
  rw [thrGo] at h
  split at h
  ·rename_i h0
   cases j with
   | zero=>simp at hx; subst hx; exact h0
   | succ j =>
    have:=thrGo_mem h j x (by simpa using hx)
    rw [show i+(j+1)=i+1+j by omega]; exact this
  ·rename_i h0
   exact absurd (congrArg Prod.fst h) h0
theorem formed_thread {p:Prog} (hf:formedM p=true) {t:Nat} {x:Thread} (hx:p.threads[t]? = some x):(threadErr p t x).1=0:=by
 have:=thrGo_mem (formed_limits hf).2.2.2.2 t x hx
 simpa using this
theorem fe_all {α:Type} {f:Nat->α->Int} : ∀ {l:List α} {i:Nat},(feGo f i l).1=0 -> ∀ (j:Nat) (x:α),l[j]? = some x->f (i+j) x=0
 | [],_,_,j,x,hx=>by simp at hx
 | y::r,i,h,j,x,hx=>by
  rw [feGo] at h
  split at h
  ·rename_i h0
   cases j with
   | zero=>simp at hx; subst hx; exact h0
   | succ j =>
    have:=fe_all h j x (by simpa using hx)
    rw [show i+(j+1)=i+1+j by omega]; exact this
  ·rename_i h0; exact absurd h h0
theorem thread_parts {p:Prog} {t:Nat} {x:Thread} (h:(threadErr p t x).1=0):1<=x.points/\(x.asserts.length:Int)=x.points/\(x.modules.length:Int)=x.points/\(feGo (fun _ s=>stepErr p t x.points s) 0 x.steps).1=0:=by
 unfold threadErr at h
 split at h
 ·simp at h
 ·split at h
  ·simp at h
  ·split at h
   ·simp at h
   ·rename_i h1
    split at h
    ·simp at h
    ·split at h
     ·simp at h
     ·split at h
      ·rename_i h0; exact absurd h h0
      ·rename_i h0
       exact ⟨by omega,by omega,by omega,by simpa using h0⟩
theorem formed_step {p:Prog} (hf:formedM p=true) {t i:Nat} {x:Thread} {s:Step} (hx:p.threads[t]? = some x) (hs:x.steps[i]? = some s):StepOk p t x s:=by
 have h1:=(thread_parts (formed_thread hf hx)).2.2.2
 exact stepOk_of (fe_all h1 i s hs)
end Rg
end
section
-- FULL
namespace Rg
open Go
theorem is_len {p:Prog} {c:Config} (h:isM p c=true):c.mem.length=p.cells.length/\c.at_.length=p.threads.length/\c.buf.length=p.threads.length:=by
 simp only [isM,fitsM,Bool.and_eq_true,decide_eq_true_eq] at h
 exact ⟨h.1.1.1.1.1,h.1.1.1.1.2,h.1.2⟩
theorem atI_get {l:List Int} {n:Int} {a:Int} (h:l[n.toNat]? = some a):atI l n=a:=by simp [atI,List.getD,h]
theorem points_bound {p:Prog} (hf:formedM p=true) {t:Nat} {x:Thread} (hx:p.threads[t]? = some x):1<=x.points/\x.points<=48 :=
 ⟨(thread_parts (formed_thread hf hx)).1,((limits_points (formed_limits hf).1).2 x (List.mem_of_getElem? hx)).1⟩
theorem enabledP_den (p:Prog) (hf:formedM p=true) (c:Config) (hc:isM p c=true) (t:Nat) (x:Thread) (hx:p.threads[t]? = some x) (i:Nat) (s:Step) (hs:x.steps[i]? = some s) :
 Den Γ G 67 [(.agg [.t (.sl ((p).cells.map (Cell.enc))), .t (.sl ((p).modules.map (Contract.enc))), .t (.sl ((p).locks.map (Lock.enc))), .t (.sl ((p).threads.map (Thread.enc)))]),(.agg [.t (ints (c).mem), .t (ints (c).at_), .t (.sl ((c).buf.map (fun b=>[.sl (b.map Entry.enc)])))]),vi t,vi i]=some (vb (enabledM p c t s)):=by
 obtain ⟨l1,l2,l3⟩:=is_len hc
 have hok:=formed_step hf hx hs
 have htl:t<p.threads.length:=(List.getElem?_eq_some_iff.1 hx).1
 obtain ⟨a,ha,_⟩:=get_of (show t<c.at_.length by omega)
 have ha' : atI c.at_ t=a:=atI_get (by simpa using ha)
 have hev:=evalP_den s.guard c.mem c.mem
 (refine den_ofY Γ67 rfl ?_; dsimp only [f67])
 by_cases h1:a=s.fr
 ·by_cases h2:s.guard.eval c.mem c.mem=1
  ·have hE:enabledM p c t s=(if s.kind=6 then decide (atI c.at_ s.target = -1) else if s.kind=7 then decide (atI c.at_ s.target=pointsAt p s.target-1) else true):=by
    simp [enabledM,ha',h1,h2]
   rw [h2] at hev
   rw [hE]
   by_cases hk:s.kind=6\/s.kind=7
   ·obtain ⟨hr,_⟩:=hok.tgt hk
    simp only [inR,decide_eq_true_eq] at hr
    obtain ⟨b,hb,_⟩:=get_of (show s.target.toNat<c.at_.length by omega)
    obtain ⟨y,hy,_⟩:=get_of (show s.target.toNat<p.threads.length by omega)
    have hyb:=points_bound hf hy
    have hw:IntKind.i64.wrap (y.points-1)=y.points-1:=wrap64 (by omega)
    have hb' := atI_get hb
    have hp' : pointsAt p s.target=y.points:=by simp [pointsAt,hy]
    rcases hk with hk | hk
    ·simp -dsimp -implicitDefEqProofs [go_sem,hx,hs,ha,h1,hev,hk,hr.1,hb,hb']
    ·simp -dsimp -implicitDefEqProofs [go_sem,hx,hs,ha,h1,hev,hk,hr.1,hb,hy,hw,hb',hp']
   ·have k6 : ¬ s.kind=6:=by omega
    have k7 : ¬ s.kind=7:=by omega
    simp -dsimp -implicitDefEqProofs [go_sem,hx,hs,ha,h1,hev,k6,k7]
  ·have hE:enabledM p c t s=false:=by simp [enabledM,h2]
   rw [hE]
   simp -dsimp -implicitDefEqProofs [go_sem,hx,hs,ha,h1,hev,h2]
 ·have hE:enabledM p c t s=false:=by simp [enabledM,ha',h1]
  rw [hE]
  simp -dsimp -implicitDefEqProofs [go_sem,hx,hs,ha,h1]
def choicesT (p:Prog) (c:Config) (t:Nat) (x:Thread) (i:Nat):List Choice :=
 (x.steps.take i).zipIdx.filterMap fun q=>if enabledM p c t q.1 then some ⟨t,q.2,0⟩ else none
def choicesN (p:Prog) (c:Config) (i:Nat):List Choice:=(p.threads.take i).zipIdx.flatMap fun q=>choicesT p c q.2 q.1 q.1.steps.length
def choicesM (p:Prog) (c:Config):List Choice:=choicesN p c p.threads.length
theorem zipIdx_succ {α:Type} {l:List α} {i:Nat} {x:α} (h:l[i]? = some x):(l.take (i+1)).zipIdx=(l.take i).zipIdx++[(x,i)]:=by
 have hi:i<l.length:=(List.getElem?_eq_some_iff.1 h).1
 rw [take_succ_of h,List.zipIdx_append]
 simp; omega
theorem choicesT_succ {p:Prog} {c:Config} {t:Nat} {x:Thread} {i:Nat} {s:Step} (h:x.steps[i]? = some s) :
 choicesT p c t x (i+1)=choicesT p c t x i++(if enabledM p c t s then [⟨t,i,0⟩] else []):=by
 unfold choicesT
 rw [zipIdx_succ h,List.filterMap_append]
 congr 1
 cases hh:enabledM p c t s <;> simp [hh]
theorem choicesN_succ {p:Prog} {c:Config} {i:Nat} {x:Thread} (h:p.threads[i]? = some x):choicesN p c (i+1)=choicesN p c i++choicesT p c i x x.steps.length:=by
 unfold choicesN
 rw [zipIdx_succ h,List.flatMap_append]; simp
theorem choicesT_len (p:Prog) (c:Config) (t:Nat) (x:Thread) (i:Nat):(choicesT p c t x i).length<=i:=by
 unfold choicesT
 refine Nat.le_trans (List.length_filterMap_le _ _) ?_
 simp; omega
theorem choicesN_len {p:Prog} (hf:formedM p=true) (c:Config) : ∀ i:Nat,(choicesN p c i).length<=64*i
 | 0=>by simp [choicesN]
 | i+1=>by
  have ih:=choicesN_len hf c i
  rcases hx:p.threads[i]? with _ | x
  ·have:p.threads.length<=i:=by simpa using hx
   have e:choicesN p c (i+1)=choicesN p c i:=by
    unfold choicesN; rw [List.take_of_length_le (by omega),List.take_of_length_le (by omega)]
   rw [e]; omega
  ·have h1:=((limits_points (formed_limits hf).1).2 x (List.mem_of_getElem? hx)).2.1
   have h2:=choicesT_len p c i x x.steps.length
   rw [choicesN_succ hx,List.length_append]; omega
def rowsC (l:List Choice):List (List V):=(l.map Choice.enc).map (·.map V.t)
theorem rowsC_len (l:List Choice):(rowsC l).length=l.length:=by simp [rowsC]
theorem rowsC_app (l:List Choice) (c:Choice):rowsC (l++[c])=rowsC l++[[vi c.thread,vi c.step,vi c.cell]]:=by simp [rowsC,Choice.enc]
theorem rowsC_all (l:List Choice):((rowsC l).all fun r=>decide (r.length=3))=true:=by simp [rowsC,Choice.enc]
theorem choice_norm (l:List Choice) : ∀ e∈l.map Choice.enc, ∀ t∈e,T.norm t=t:=by
 intro e he t ht
 obtain ⟨n,_,rfl⟩:=List.mem_map.1 he
 simp [Choice.enc] at ht
 rcases ht with rfl | rfl | rfl <;> rfl
theorem choicesP_den (p:Prog) (hf:formedM p=true) (c:Config) (hc:isM p c=true):Den Γ G 44 [(.agg [.t (.sl ((p).cells.map (Cell.enc))), .t (.sl ((p).modules.map (Contract.enc))), .t (.sl ((p).locks.map (Lock.enc))), .t (.sl ((p).threads.map (Thread.enc)))]),(.agg [.t (ints (c).mem), .t (ints (c).at_), .t (.sl ((c).buf.map (fun b=>[.sl (b.map Entry.enc)])))])]=some (.t (.sl ((choicesM p c).map Choice.enc))):=by
 (refine den_ofY Γ44 rfl ?_; dsimp only [f44])
 obtain ⟨⟨l1,l2,l3,l4⟩,l5⟩:=limits_points (formed_limits hf).1
 simp -dsimp -implicitDefEqProofs only [go_sem,seval]
 refine loopYH 137438951648 p.threads.length (fun i f h x=>(f 11).v=vi i/\OwnB h x (f 5).v 3 (rowsC (choicesN p c i))) rfl ⟨by simp -dsimp -implicitDefEqProofs only [go_sem,seval], .inl ⟨by simp -dsimp -implicitDefEqProofs only [go_sem,seval],rfl⟩⟩ ?_
 rintro i f u H x bs hi ⟨h11,hown⟩
 have hw:=wrapS i (by omega)
 simp -dsimp -implicitDefEqProofs only [go_sem,seval,h11]
 refine csplit (fun h => ?_) (fun h => ?_) <;> (try rw [h]) <;> (try simp only [bools] at h) <;> (try simp -dsimp -implicitDefEqProofs only [go_sem,seval,h11])
 ·obtain ⟨t,ht,htm⟩:=get_of ‹i<p.threads.length›
  obtain ⟨_,hst,_⟩:=l5 t htm
  simp -dsimp -implicitDefEqProofs only [go_sem,seval,h11,ht]
  refine loopYH 68717379744 t.steps.length (fun j f' h x=>(f' 21).v=vi j/\OwnB h x (f' 5).v 3 (rowsC (choicesN p c i++choicesT p c i t j))) rfl ⟨by simp -dsimp -implicitDefEqProofs only [go_sem,seval],by simp -dsimp -implicitDefEqProofs only [go_sem,seval,choicesT,List.take_zero,List.zipIdx_nil,List.filterMap_nil,List.append_nil]; exact hown.le (by omega)⟩ ?_
  clear hown
  rintro j f' u' H' x' bs' hj ⟨h21,hown⟩
  have hw' := wrapS j (by omega)
  simp -dsimp -implicitDefEqProofs only [go_sem,seval,h21]
  refine csplit (fun h => ?_) (fun h => ?_) <;> (try rw [h]) <;> (try simp only [bools] at h) <;> (try simp -dsimp -implicitDefEqProofs only [go_sem,seval,h21,h11])
  ·obtain ⟨s,hs,hsm⟩:=get_of ‹j<t.steps.length›
   have hen:=enabledP_den p hf c hc i t ht j s hs
   have hsucc:=choicesT_succ (p:=p) (c:=c) (t:=i) hs
   have hl1:=choicesN_len hf c i
   have hl2:=choicesT_len p c i t j
   simp -dsimp -implicitDefEqProofs only [go_sem,seval,h21,h11,hen]
   refine csplit (fun h => ?_) (fun h => ?_) <;> (try rw [h]) <;> (try simp only [bools] at h) <;> (try simp -dsimp -implicitDefEqProofs only [go_sem,seval,h21,h11])
   ·rw [h] at hsucc
    have v1:=hown.valOf
    have v2:=hown.r2
    have v3:=hown.r3
    have v4:=hown.r4
    have v5:=hown.r5
    simp -dsimp -implicitDefEqProofs only [go_sem,seval,h21,h11,v1,v2,v3,v4,v5]
    refine putA_app1 (hown.upd (by omega) _) (by omega) (by rw [rowsC_len,List.length_append]; omega) (by decide) rfl (rowsC_all _) ?_
    intro v hp hO hoffs hkeep
    have w1:=hO.valOf
    simp -dsimp -implicitDefEqProofs only [go_sem,seval,w1,h21]
    refine ⟨by omega,by simp -dsimp -implicitDefEqProofs only [go_sem,seval,hw'], ?_⟩
    simp -dsimp -implicitDefEqProofs only [go_sem,seval,hsucc,if_true]
    rw [<- List.append_assoc,rowsC_app]
    exact hO.le (by omega)
   ·rw [h] at hsucc
    refine ⟨by omega,by simp -dsimp -implicitDefEqProofs only [go_sem,seval,hw'], ?_⟩
    simp -dsimp -implicitDefEqProofs only [go_sem,seval,hsucc,List.append_nil,Bool.false_eq_true,if_false]
    exact hown.le (by omega)
  ·have:j=t.steps.length:=by omega
   subst this
   refine ⟨by omega,by simp -dsimp -implicitDefEqProofs only [go_sem,seval,hw], ?_⟩
   simp -dsimp -implicitDefEqProofs only [go_sem,seval]
   rw [choicesN_succ ht]
   exact hown.le (by omega)
 ·have:i=p.threads.length:=by omega
  subst this
  have v1:=hown.valOf
  have hre:=hown.reify (choice_norm _)
  have v5:=hown.resVal
  simp only [Rg.resVal] at v5
  simp -dsimp -implicitDefEqProofs only [go_sem,seval,v1,v5]
  exact hre
def enabledL (p:Prog) (c:Config):List Choice:=if formedM p&&isM p c then choicesM p c else []
theorem enabledPL_den (p:Prog) (hs:p.sane) (c:Config) (hcs:c.sane):Den Γ G 17 [(.agg [.t (.sl ((p).cells.map (Cell.enc))), .t (.sl ((p).modules.map (Contract.enc))), .t (.sl ((p).locks.map (Lock.enc))), .t (.sl ((p).threads.map (Thread.enc)))]),(.agg [.t (ints (c).mem), .t (ints (c).at_), .t (.sl ((c).buf.map (fun b=>[.sl (b.map Entry.enc)])))])]=some (.t (.sl ((enabledL p c).map Choice.enc))):=by
 (refine den_ofY Γ17 rfl ?_; dsimp only [f17])
 have h1:=machineValid_den p hs
 simp -dsimp -implicitDefEqProofs only [go_sem,seval,h1]
 cases hf:formedM p
 ·simp -dsimp -implicitDefEqProofs only [go_sem,seval]
  simp [enabledL,hf]
 ·have h2:=fitsP_den p hf c hcs
  simp -dsimp -implicitDefEqProofs only [go_sem,seval,h2]
  cases hc:isM p c
  ·simp -dsimp -implicitDefEqProofs only [go_sem,seval]
   simp [enabledL,hf,hc]
  ·have h3:=choicesP_den p hf c hc
   simp -dsimp -implicitDefEqProofs only [go_sem,seval,h3]
   simp [enabledL,hf,hc]
def hasM (l:List Choice) (x:Choice):Bool:=l.any fun y=>decide (y=x)
theorem choice_eq (a b:Choice):(decide (a.thread=b.thread)&&(decide (a.step=b.step)&&decide (a.cell=b.cell)))=decide (a=b):=by
 cases a; cases b
 simp only [Choice.mk.injEq]
 simp
theorem has_den (l:List Choice) (x:Choice) (hl:l.length<2^40):Den Γ G 20 [.t (.sl (l.map Choice.enc)),(.agg [.t (ti (x).thread), .t (ti (x).step), .t (ti (x).cell)])]=some (vb (hasM l x)):=by
 (refine den_ofY Γ20 rfl ?_; dsimp only [f20])
 simp -dsimp -implicitDefEqProofs only [go_sem,seval]
 refine loopY 262128 l.length (fun i f=>(f 5).v=vi i/\hasM l x=(l.drop i).any fun y=>decide (y=x)) rfl rfl ⟨by simp -dsimp -implicitDefEqProofs only [go_sem,seval],rfl⟩ ?_
 rintro i f u kk bb hi ⟨h5,hany⟩
 have hw:=wrapS i (by omega)
 simp -dsimp -implicitDefEqProofs only [go_sem,seval,h5]
 refine csplit (fun h => ?_) (fun h => ?_) <;> (try rw [h]) <;> (try simp only [bools] at h) <;> (try simp -dsimp -implicitDefEqProofs only [go_sem,seval,h5])
 ·obtain ⟨y,hy,_⟩:=get_of ‹i<l.length›
  have he:=choice_eq y x
  simp -dsimp -implicitDefEqProofs only [go_sem,seval,h5,hy,he,Bool.bne_false]
  refine csplit (fun h => ?_) (fun h => ?_) <;> (try rw [h]) <;> (try simp only [bools] at h) <;> (try simp -dsimp -implicitDefEqProofs only [go_sem,seval,h5])
  ·rw [hany,any_stop hy (by simpa using h)]
  ·refine ⟨by omega,by simp -dsimp -implicitDefEqProofs only [go_sem,seval,hw], ?_⟩
   rw [hany,any_step hy (by simpa using h)]
 ·have:i=l.length:=by omega
  subst this
  rw [hany,any_end]
def writeM (mem view:List Int) (set:List Assign):List Int:=set.foldl (fun m a=>m.set a.cell.toNat (a.to.eval view view)) mem
theorem write_len (view:List Int) : ∀ (set:List Assign) (mem:List Int),(writeM mem view set).length=mem.length
 | [],mem=>rfl
 | a::r,mem=>by
  have:=write_len view r (mem.set a.cell.toNat (a.to.eval view view))
  simpa [writeM] using this
theorem write_take {mem view:List Int} {set:List Assign} {i:Nat} {a:Assign} (h:set[i]? = some a):writeM mem view (set.take (i+1))=(writeM mem view (set.take i)).set a.cell.toNat (a.to.eval view view):=by
 unfold writeM
 rw [take_succ_of h,List.foldl_append]; rfl
end Rg
end
