/- Part of the proof of the laws of the package relyguardlaw12: an abstract machine for the program's functions, what they compute, and that the machine is the program's. No condition. (H22e) -/
import Derived.Test.YtadooimmjnipcaaGreatDoorPartBG
set_option linter.unusedSimpArgs false
set_option linter.unusedVariables false
section
namespace Rg
open Go
theorem eqb_t1:((true==true) != true)=false:=rfl
theorem eqb_t2:((false==false) != true)=false:=rfl
theorem eqb_t3:((true==true) != false)=true:=rfl
theorem eqb_t4:((false==false) != false)=true:=rfl
theorem few_steps {p:Prog} (h:fewM p=true) : ∀ x∈p.threads,x.steps.length<=24:=by
 simp only [fewM,Bool.and_eq_true] at h
 exact fun x hx=>(fewGo_mem h.1.1.2 (by omega) x hx).1
theorem lawC_den (p:Prog) (hl:p.lite) (m:Int) (hm:0<=m/\m<256) (picks:List Int) (hpk : ∀ k∈picks,0<=k/\k<256) (x:Choice):Den Γ G 168 [(.agg [.t (.sl ((p).cells.map (Cell.enc))), .t (.sl ((p).modules.map (Contract.enc))), .t (.sl ((p).locks.map (Lock.enc))), .t (.sl ((p).threads.map (Thread.enc)))]), .t (.int .u8 m), .t (bytesT picks),(.agg [.t (ti (x).thread), .t (ti (x).step), .t (ti (x).cell)])]=some (vb true):=by
 (refine den_ofY Γ168 rfl ?_; dsimp only [f168])
 have h1:=fewM_den p hl.steps
 rcases goodB_cases p hl with hf | ⟨hf,hg,hs⟩ | ⟨hf,⟨hs,hg⟩⟩
 ·rw [hf] at h1
  simp -dsimp -implicitDefEqProofs only [go_sem,seval,headB_den,h1]
 ·rw [hf] at h1
  have h2:=okR_den p hs
  rw [hg] at h2
  simp -dsimp -implicitDefEqProofs only [go_sem,seval,headB_den,h1,h2]
 ·rw [hf] at h1
  have h2:=okR_den p hs
  rw [hg] at h2
  have hmd:=model_den m hm
  have hk:=kM_in (m:=m)
  generalize kM m=k at *
  have h3:=atK_den p hs hg k hk picks hpk
  have hc:=atK_is hg k picks
  generalize atK p k picks=c at *
  have e1:=enabledK_den p hs hg k hk c hc
  have hlen:=choicesB_len hg (k:=k) hc.b
  have hnd:=choicesB_nodup k hc.b
  have hrng:=fun y (hy:y∈choicesB p k c)=>choicesB_range hc.b (few_steps hf) hy
  have hkB:=choicesK_eq hc
  rw [hkB] at e1
  obtain ⟨⟨m1,m2,m3,m4⟩,_⟩:=limits_points (formed_limits hg).1
  have key : ∀ y:Choice, ∃ d:Config,Den Γ G 180 [(.agg [.t (.sl ((p).cells.map (Cell.enc))), .t (.sl ((p).modules.map (Contract.enc))), .t (.sl ((p).locks.map (Lock.enc))), .t (.sl ((p).threads.map (Thread.enc)))]),vi k,(.agg [.t (ints (c).mem), .t (ints (c).at_), .t (.sl ((c).buf.map (fun b=>[.sl (b.map Entry.enc)])))]),(.agg [.t (ti (y).thread), .t (ti (y).step), .t (ti (y).cell)])]=some (.tup [(.agg [.t (ints (d).mem), .t (ints (d).at_), .t (.sl ((d).buf.map (fun b=>[.sl (b.map Entry.enc)])))]),vi (if y∈choicesB p k c then 0 else 110)])/\(y∈choicesB p k c->Den Γ G 181 [(.agg [.t (ints (d).mem), .t (ints (d).at_), .t (.sl ((d).buf.map (fun b=>[.sl (b.map Entry.enc)])))])]=some (vb true)/\Den Γ G 182 [(.agg [.t (.sl ((p).cells.map (Cell.enc))), .t (.sl ((p).modules.map (Contract.enc))), .t (.sl ((p).locks.map (Lock.enc))), .t (.sl ((p).threads.map (Thread.enc)))]),vi k,(.agg [.t (ints (d).mem), .t (ints (d).at_), .t (.sl ((d).buf.map (fun b=>[.sl (b.map Entry.enc)])))])]=some (vb true)):=by
   intro y
   have n1:=nextK_den p hs hg k hk c hc y
   by_cases hy:y∈choicesB p k c
   ·obtain ⟨d,hn,hd⟩:=nextK_ok hg hc (by rw [hkB]; exact hy)
    rw [hn] at n1
    exact ⟨d,by rw [if_pos hy]; exact n1,fun _=>⟨smallK_den p hg d hd.b,fitsK_den p hs hg k hk d hd⟩⟩
   ·rw [nextK_no hg hc (by rw [hkB]; exact hy)] at n1
    exact ⟨zeroC,by rw [if_neg hy]; exact n1,fun h=>absurd h hy⟩
  have hhas : ∀ y:Choice,Den Γ G 20 [.t (.sl ((choicesB p k c).map Choice.enc)),(.agg [.t (ti (y).thread), .t (ti (y).step), .t (ti (y).cell)])]=some (vb (hasM (choicesB p k c) y)):=fun y=>has_den _ y (by omega)
  simp -dsimp -implicitDefEqProofs only [go_sem,seval,headB_den,h1,h2,hmd,h3,e1]
  refine loopY 20769187434139310513840510342250752 (p.threads.length+2) (fun i f=>(f 15).v=vi ((i:Int)-1)/\(f 14).v=vi (cntM (choicesB p k c) ((i:Int)-1) (-1) (-1))) rfl rfl ⟨by simp -dsimp -implicitDefEqProofs only [go_sem,seval], ?_⟩ ?_
  ·rw [show ((0:Nat):Int)-1 = -1 from rfl,cnt_zero fun y hy=>by have:=hrng y hy; omega]
   simp -dsimp -implicitDefEqProofs only [go_sem,seval]
  rintro i f u kk bb hi ⟨h15,h14⟩
  have hw:IntKind.i64.wrap ((i:Int)-1+1)=((i+1:Nat):Int)-1:=by rw [wrap64 (by omega)]; omega
  by_cases hit:(i:Int)-1<=(p.threads.length:Int)
  ·simp -dsimp -implicitDefEqProofs only [go_sem,seval,h15,hit]
   refine loopY 20769187434139310478093188299964672 28 (fun j f' => (f' 16).v=vi ((j:Int)-1)/\(f' 14).v=vi (cntM (choicesB p k c) ((i:Int)-1) ((j:Int)-1) (-1))) rfl rfl ⟨by simp -dsimp -implicitDefEqProofs only [go_sem,seval],by simp -dsimp -implicitDefEqProofs only [go_sem,seval,h14]⟩ ?_
   clear h14
   rintro j f' u' kk' bb' hj ⟨h16,h14⟩
   have hw' : IntKind.i64.wrap ((j:Int)-1+1)=((j+1:Nat):Int)-1:=by rw [wrap64 (by omega)]; omega
   by_cases hjt:(j:Int)-1<=26
   ·simp -dsimp -implicitDefEqProofs only [go_sem,seval,h16,hjt]
    refine loopY 20769187434139309937661233015439616 (p.cells.length+4) (fun q g=>(g 17).v=vi ((q:Int)-1)/\(g 14).v=vi (cntM (choicesB p k c) ((i:Int)-1) ((j:Int)-1) ((q:Int)-1))) rfl rfl ⟨by simp -dsimp -implicitDefEqProofs only [go_sem,seval],by simp -dsimp -implicitDefEqProofs only [go_sem,seval,h14]⟩ ?_
    clear h14
    rintro q g u2 kk2 bb2 hq ⟨h17,h14⟩
    have hw2:IntKind.i64.wrap ((q:Int)-1+1)=((q+1:Nat):Int)-1:=by rw [wrap64 (by omega)]; omega
    by_cases hqt:(q:Int)-1<=(p.cells.length:Int)/\((j:Int)-1<0\/(q:Int)-1<=1)
    ·obtain ⟨d,n1,n2⟩:=key ⟨(i:Int)-1,(j:Int)-1,(q:Int)-1⟩
     have hh:=hhas ⟨(i:Int)-1,(j:Int)-1,(q:Int)-1⟩
     have hcs:=cnt_step hnd ((i:Int)-1) ((j:Int)-1) ((q:Int)-1)
     have hq1:(q:Int)-1+1=((q+1:Nat):Int)-1:=by omega
     rw [hq1] at hcs
     have hcl:cntM (choicesB p k c) ((i:Int)-1) ((j:Int)-1) ((q:Int)-1)<=(choicesB p k c).length:=List.length_filter_le _ _
     have hwn:IntKind.i64.wrap ((cntM (choicesB p k c) ((i:Int)-1) ((j:Int)-1) ((q:Int)-1):Int)+1)=(cntM (choicesB p k c) ((i:Int)-1) ((j:Int)-1) ((q:Int)-1):Int)+1:=wrap64 (by omega)
     simp only at n1 hh
     have q1:=hqt.1
     by_cases hy:(⟨(i:Int)-1,(j:Int)-1,(q:Int)-1⟩:Choice)∈choicesB p k c
     ·obtain ⟨n3,n4⟩:=n2 hy
      rw [if_pos hy] at n1 hcs
      rw [(hasM_iff _ _).2 hy] at hh
      by_cases q2:(j:Int)-1<0
      ·simp -dsimp -implicitDefEqProofs only [go_sem,seval,h17,h16,h15,h14,q1,q2,n1,hh,n3,n4,eqb_t1,hwn]
       refine ⟨by omega,by simp -dsimp -implicitDefEqProofs only [go_sem,seval,hw2], ?_⟩
       simp -dsimp -implicitDefEqProofs only [go_sem,seval]
       rw [hcs]; omega
      ·have q3:(q:Int)-1<=1:=hqt.2.resolve_left q2
       simp -dsimp -implicitDefEqProofs only [go_sem,seval,h17,h16,h15,h14,q1,q2,q3,n1,hh,n3,n4,eqb_t1,hwn]
       refine ⟨by omega,by simp -dsimp -implicitDefEqProofs only [go_sem,seval,hw2], ?_⟩
       simp -dsimp -implicitDefEqProofs only [go_sem,seval]
       rw [hcs]; omega
     ·rw [if_neg hy] at n1 hcs
      have hno:hasM (choicesB p k c) ⟨(i:Int)-1,(j:Int)-1,(q:Int)-1⟩=false:=by rw [<- Bool.not_eq_true,hasM_iff]; exact hy
      rw [hno] at hh
      by_cases q2:(j:Int)-1<0
      ·simp -dsimp -implicitDefEqProofs only [go_sem,seval,h17,h16,h15,h14,q1,q2,n1,hh,eqb_t2]
       refine ⟨by omega,by simp -dsimp -implicitDefEqProofs only [go_sem,seval,hw2], ?_⟩
       simp -dsimp -implicitDefEqProofs only [go_sem,seval,h14]
       rw [hcs]; omega
      ·have q3:(q:Int)-1<=1:=hqt.2.resolve_left q2
       simp -dsimp -implicitDefEqProofs only [go_sem,seval,h17,h16,h15,h14,q1,q2,q3,n1,hh,eqb_t2]
       refine ⟨by omega,by simp -dsimp -implicitDefEqProofs only [go_sem,seval,hw2], ?_⟩
       simp -dsimp -implicitDefEqProofs only [go_sem,seval,h14]
       rw [hcs]; omega
    ·have hce:cntM (choicesB p k c) ((i:Int)-1) ((j:Int)-1) ((q:Int)-1)=cntM (choicesB p k c) ((i:Int)-1) (((j+1:Nat):Int)-1) (-1):=by
      rw [show (((j+1:Nat):Int)-1)=(j:Int)-1+1 by omega]
      refine cnt_cell (fun y hy y1 y2 => ?_) (fun y hy => ?_)
      ·have:=hrng y hy
       omega
      ·have:=hrng y hy
       omega
     rw [hce] at h14
     by_cases q1:(q:Int)-1<=(p.cells.length:Int)
     ·have q2 : ¬ (j:Int)-1<0:=by omega
      have q3 : ¬ (q:Int)-1<=1:=by omega
      simp -dsimp -implicitDefEqProofs only [go_sem,seval,h17,h16,q1,q2,q3]
      exact ⟨by omega,by simp -dsimp -implicitDefEqProofs only [go_sem,seval,hw',h16],by simp -dsimp -implicitDefEqProofs only [go_sem,seval,h14]⟩
     ·simp -dsimp -implicitDefEqProofs only [go_sem,seval,h17,h16,q1]
      exact ⟨by omega,by simp -dsimp -implicitDefEqProofs only [go_sem,seval,hw',h16],by simp -dsimp -implicitDefEqProofs only [go_sem,seval,h14]⟩
   ·have hce:cntM (choicesB p k c) ((i:Int)-1) ((j:Int)-1) (-1)=cntM (choicesB p k c) (((i+1:Nat):Int)-1) (-1) (-1):=by
     rw [show (((i+1:Nat):Int)-1)=(i:Int)-1+1 by omega]
     refine cnt_row (fun y hy => ?_) (fun y hy => ?_)
     ·have:=hrng y hy
      omega
     ·have:=hrng y hy
      omega
    rw [hce] at h14
    simp -dsimp -implicitDefEqProofs only [go_sem,seval,h16,h15,hjt]
    exact ⟨by omega,by simp -dsimp -implicitDefEqProofs only [go_sem,seval,hw,h15],by simp -dsimp -implicitDefEqProofs only [go_sem,seval,h14]⟩
  ·have hce:cntM (choicesB p k c) ((i:Int)-1) (-1) (-1)=(choicesB p k c).length:=cnt_all fun y hy=>by
    have:=hrng y hy
    omega
   rw [hce] at h14
   obtain ⟨d,n1,n2⟩:=key x
   have hh:=hhas x
   by_cases hy:x∈choicesB p k c
   ·rw [if_pos hy] at n1
    rw [(hasM_iff _ _).2 hy] at hh
    simp -dsimp -implicitDefEqProofs only [go_sem,seval,h15,hit,n1,hh,h14,eqb_t3,eqb_t4]
   ·rw [if_neg hy] at n1
    have hno:hasM (choicesB p k c) x=false:=by rw [<- Bool.not_eq_true,hasM_iff]; exact hy
    rw [hno] at hh
    simp -dsimp -implicitDefEqProofs only [go_sem,seval,h15,hit,n1,hh,h14,eqb_t3,eqb_t4]
end Rg
end
