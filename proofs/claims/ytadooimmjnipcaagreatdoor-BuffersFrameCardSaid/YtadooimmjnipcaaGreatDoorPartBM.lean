/- Part of the proof of the laws of the package relyguardlaw12: an abstract machine for the program's functions, what they compute, and that the machine is the program's. No condition. (H22j H22k) -/
import Derived.Test.YtadooimmjnipcaaGreatDoorPartBG
set_option linter.unusedSimpArgs false
set_option linter.unusedVariables false
section
set_option maxRecDepth 4000
namespace Rg
open Go
def markM (n:Nat) (ws:List Int):List Bool:=(List.range n).map fun (q:Nat)=>ws.contains (q:Int)
theorem markM_len (n:Nat) (ws:List Int):(markM n ws).length=n:=by simp [markM]
theorem markM_get {n i:Nat} (ws:List Int) (h:i<n):(markM n ws)[i]? = some (ws.contains (i:Int)):=by simp [markM,h]
theorem markM_set {n:Nat} {ws:List Int} {w:Int} (h:0<=w):(markM n ws).set w.toNat true=markM n (ws++[w]):=by
 refine List.ext_getElem? fun i => ?_
 rw [List.getElem?_set,markM_len]
 by_cases hi:i<n
 ·rw [markM_get _ hi]
  by_cases hw:w.toNat=i
  ·have:(i:Int)=w:=by omega
   simp [hw,hi,this,markM]
  ·have : ¬ (i:Int)=w:=by omega
   simp [hw,markM_get _ hi,this]
 ·have h1:(markM n ws)[i]? = none:=by simp [markM]; omega
  have h2:(markM n (ws++[w]))[i]? = none:=by simp [markM]; omega
  rw [h1,h2]
  split
  ·split
   ·omega
   ·rfl
  ·rfl
theorem markM_nil (n:Nat):markM n []=List.replicate n false:=by
 refine List.ext_getElem? fun i => ?_
 by_cases hi:i<n
 ·rw [markM_get _ hi]; simp [hi]
 ·have h1:(markM n [])[i]? = none:=by simp [markM]; omega
  rw [h1]; simp; omega
theorem rowsB_gt {l:List Bool} {i:Nat} {b:Bool} (h:l[i]? = some b):(rowsB l)[i]? = some [vb b]:=by simp [rowsB,h]
theorem rowsB_rep (n:Nat):rowsB (List.replicate n false)=List.replicate n [vb false]:=by simp [rowsB]
theorem execK_mem {p:Prog} {k:Int} {c:Config} {t:Nat} {s:Step} (hs:SetOk p s.set) {i:Nat} (h:(i:Int) ∉ writesM s):(execK p k c t s).mem[i]? = c.mem[i]? := by
 rw [writesM,sortedM_mem,List.mem_map] at h
 have hne : ∀ a∈s.set,a.cell.toNat≠i:=fun a ha he=>by
  have:=(hs.rng a ha).1
  simp only [inR,decide_eq_true_eq] at this
  exact h ⟨a,ha,by omega⟩
 unfold execK
 split
 ·show (writeM _ _ _)[i]? = _
  exact write_other hne
 ·show (writeM _ _ _)[i]? = _
  refine write_other fun a ha => ?_
  split at ha
  ·exact hne a (List.mem_filter.1 ha).1
  ·exact hne a ha
theorem execK_at {p:Prog} {k:Int} {c:Config} {t:Nat} {s:Step} {u:Nat} (ht:u≠t) (h:s.kind=6->(u:Int)≠s.target) (h0:s.kind=6->0<=s.target):(execK p k c t s).at_[u]? = c.at_[u]? := by
 have key:(if s.kind=6 then (c.at_.set t s.to).set s.target.toNat 0 else c.at_.set t s.to)[u]? = c.at_[u]? := by
  split
  ·rename_i h6
   have:=h h6
   have:=h0 h6
   rw [List.getElem?_set,if_neg (by omega),List.getElem?_set,if_neg (Ne.symm ht)]
  ·rw [List.getElem?_set,if_neg (Ne.symm ht)]
 unfold execK
 split
 ·exact key
 ·exact key
theorem execK_buf {p:Prog} {k:Int} {c:Config} (hc:IsK p k c) {t:Nat} {s:Step} {u:Nat} (ht:u≠t) (hu:u<p.threads.length):(execK p k c t s).buf[u]? = c.buf[u]? := by
 unfold execK
 split
 ·rename_i hk
  have h1:=hc.q hk
  have h2:c.buf[u]? = some (bufM c u):=bufM_at (by rw [hc.b.lb]; exact hu)
  rw [h2,quiet_buf h1]
  simp [execS,hu]
 ·show (if s.kind=3 then _ else _:List (List Entry))[u]? = _
  split
  ·rw [List.getElem?_set,if_neg (Ne.symm ht)]
  ·rfl
theorem commitB_mem {c:Config} {t q:Nat} {e:Entry} (he:(bufM c t)[q]? = some e) {i:Nat} (h : ∀ n∈e.cells,n.toNat≠i):(commitB c t q).mem[i]? = c.mem[i]? := by
 have hC:commitB c t q=⟨putE c.mem e,c.at_,c.buf.set t ((bufM c t).eraseIdx q)⟩:=by simp only [commitB,he]
 rw [hC]; exact put_other h
theorem commitB_rest {c:Config} {t q:Nat} {e:Entry} (he:(bufM c t)[q]? = some e) {u:Nat} (ht:u≠t):(commitB c t q).at_[u]? = c.at_[u]? /\ (commitB c t q).buf[u]? = c.buf[u]? := by
 have hC:commitB c t q=⟨putE c.mem e,c.at_,c.buf.set t ((bufM c t).eraseIdx q)⟩:=by simp only [commitB,he]
 rw [hC]
 exact ⟨rfl,by rw [List.getElem?_set,if_neg (Ne.symm ht)]⟩
end Rg
end
section
set_option maxRecDepth 4000
set_option maxHeartbeats 2000000
namespace Rg
open Go
theorem lawF_den (p:Prog) (hl:p.lite) (m:Int) (hm:0<=m/\m<256) (picks:List Int) (hpk : ∀ k∈picks,0<=k/\k<256) (pick:Int) (hp:0<=pick/\pick<256) :
 Den Γ G 174 [(.agg [.t (.sl ((p).cells.map (Cell.enc))), .t (.sl ((p).modules.map (Contract.enc))), .t (.sl ((p).locks.map (Lock.enc))), .t (.sl ((p).threads.map (Thread.enc)))]), .t (.int .u8 m), .t (bytesT picks), .t (.int .u8 pick)]=some (vb true):=by
 (refine den_ofY Γ174 rfl ?_; dsimp only [f174])
 have h1:=fewM_den p hl.steps
 rcases goodB_cases p hl with hf | ⟨hf,hg,hs⟩ | ⟨hf,⟨hs,hg⟩⟩
 ·rw [hf] at h1
  simp -dsimp -implicitDefEqProofs only [go_sem,seval,headB_den,h1]
 ·rw [hf] at h1
  have h2:=okR_den p hs
  rw [hg] at h2
  simp -dsimp -implicitDefEqProofs only [go_sem,seval,headB_den,h1,h2]
 ·rw [hf] at h1
  have h2:=okR_den p hs
  rw [hg] at h2
  have hmd:=model_den m hm
  have hk:=kM_in (m:=m)
  generalize kM m=k at *
  have h3:=atK_den p hs hg k hk picks hpk
  have hc:=atK_is hg k picks
  generalize atK p k picks=c at *
  have e1:=enabledK_den p hs hg k hk c hc
  have hel:=choicesK_le hg hc
  obtain ⟨⟨m1,m2,m3,m4⟩,_⟩:=limits_points (formed_limits hg).1
  have l1:=hc.b.lm
  by_cases hstop:(choicesK p k c).length=0\/200<(choicesK p k c).length
  ·by_cases z0:(choicesK p k c).length=0
   ·simp -dsimp -implicitDefEqProofs only [go_sem,seval,headB_den,h1,h2,hmd,h3,e1,z0]
   ·have z1 : ¬ ((choicesK p k c).length:Int)=0:=by omega
    have z2:((choicesK p k c).length:Int)>200:=by omega
    simp -dsimp -implicitDefEqProofs only [go_sem,seval,headB_den,h1,h2,hmd,h3,e1,z1,z2]
  ·have z1 : ¬ ((choicesK p k c).length:Int)=0:=by omega
   have z2 : ¬ ((choicesK p k c).length:Int)>200:=by omega
   have hwn:IntKind.i64.wrap pick=pick:=wrap64 (by omega)
   have he1:0<(choicesK p k c).length:=by omega
   have hrem:pick.tmod (choicesK p k c).length=((pick.toNat % (choicesK p k c).length:Nat):Int):=by
    rw [Int.tmod_eq_emod_of_nonneg hp.1,Int.natCast_emod,Int.toNat_of_nonneg hp.1]
   have hri:pick.toNat % (choicesK p k c).length<(choicesK p k c).length:=Nat.mod_lt _ he1
   obtain ⟨y,hy,hym⟩:=get_of hri
   generalize pick.toNat % (choicesK p k c).length=ix at *
   have hnx:=nextK_den p hs hg k hk c hc y
   rcases nextK_inv hg hc hym with ⟨t,x,i,s,hx,hsi,he,rfl,hn,hd⟩ | ⟨hk0,t,i,e,ht,hi,ho,rfl,hn,hd⟩
   ·have ht:=(List.getElem?_eq_some_iff.1 hx).1
    have hil:=(List.getElem?_eq_some_iff.1 hsi).1
    have hok:=formed_step hg hx hsi
    have hss:=set_small hok.set
    rw [hn] at hnx
    have sm1:=smallK_den p hg _ hd.b
    have ft1:=fitsK_den p hs hg k hk _ hd
    have t1 : ¬ (t:Int)<0:=by omega
    have t2 : ¬ (t:Int)>=(p.threads.length:Int):=by omega
    have i1 : ¬ (i:Int)>=(x.steps.length:Int):=by omega
    have i2:(i:Int)>=0:=by omega
    simp -dsimp -implicitDefEqProofs only [go_sem,seval,headB_den,h1,h2,hmd,h3,e1,z1,z2,hwn,hrem,hy,hnx,t1,t2,hx,i1,sm1,ft1]
    have hck:(p.cells.length:Int)<=4294967296:=by omega
    have hwd:=writes_den s (by omega)
    have hwl:(writesM s).length<=32:=by
     have:=sortedM_len (s.set.map Assign.cell)
     simp only [List.length_map] at this
     unfold writesM; omega
    have hwi : ∀ w∈writesM s,0<=w/\w<(p.cells.length:Int):=fun w hw=>by
     rw [writesM,sortedM_mem,List.mem_map] at hw
     obtain ⟨a,ha,rfl⟩:=hw
     have:=(hok.rng.2 a ha).1
     simpa only [inR,decide_eq_true_eq] using this
    simp -dsimp -implicitDefEqProofs only [go_sem,seval,hck,Int.le_refl,i2,hx,hsi]
    by_cases hk6:s.kind=6
    all_goals
     try rw [hk6] at hwd
     simp -dsimp -implicitDefEqProofs only [go_sem,seval,hk6,hwd]
     refine loopYH 5986310617304397558839800508663022157917253674205440 (writesM s).length (fun j f h z=>(f 21).v=vi j/\h 107=some (.rows 1 (rowsB (markM p.cells.length ((writesM s).take j))) false)/\107<z) rfl ⟨by simp -dsimp -implicitDefEqProofs only [go_sem,seval],by rw [List.take_zero,markM_nil,rowsB_rep]; simp -dsimp -implicitDefEqProofs only [go_sem,seval],by simp -dsimp -implicitDefEqProofs only [go_sem,seval]⟩ ?_
     rintro j f u H z bs hj ⟨h21,hh,hz⟩
     have hw:=wrapS j (by omega)
     simp -dsimp -implicitDefEqProofs only [go_sem,seval,h21]
     by_cases hj1:j<(writesM s).length
     ·obtain ⟨w,hwj,hwm⟩:=get_of (show j<(writesM s).length by omega)
      obtain ⟨w0,w1⟩:=hwi w hwm
      have w2 : ¬ w<0:=by omega
      have w3 : ¬ w>=(p.cells.length:Int):=by omega
      have hgt:=rowsB_gt (markM_get (n:=p.cells.length) ((writesM s).take j) (i:=w.toNat) (by omega))
      have hst:=rowsB_set (markM p.cells.length ((writesM s).take j)) w.toNat
      rw [markM_set w0, <- take_succ_of hwj] at hst
      simp -dsimp -implicitDefEqProofs only [go_sem,seval,hj1,h21,hwj,w2,w3,hh,w0,w1,hgt,hst]
      exact ⟨by omega,by simp -dsimp -implicitDefEqProofs only [go_sem,seval,hw],by simp -dsimp -implicitDefEqProofs only [go_sem,seval],by simp -dsimp -implicitDefEqProofs only [go_sem,seval]; omega⟩
     ·have hj2:j=(writesM s).length:=by omega
      subst hj2
      rw [List.take_length] at hh
      simp -dsimp -implicitDefEqProofs only [go_sem,seval,hj1]
      refine loopYH 441711753030559623826176037945976168498066934357017814461762643551060224 p.cells.length (fun q f h z=>(f 24).v=vi q/\h 107=some (.rows 1 (rowsB (markM p.cells.length (writesM s))) false)) rfl ⟨by simp -dsimp -implicitDefEqProofs only [go_sem,seval],by simp -dsimp -implicitDefEqProofs only [go_sem,seval,hh]⟩ ?_
      clear h21 hw hh
      rintro q f2 u2 H2 z2 bs2 hq ⟨h24,hh⟩
      have hw:=wrapS q (by omega)
      simp -dsimp -implicitDefEqProofs only [go_sem,seval,h24]
      by_cases hq1:q<p.cells.length
      ·have hgt:=rowsB_gt (markM_get (n:=p.cells.length) (writesM s) hq1)
       obtain ⟨v,hv,_⟩:=get_of (show q<c.mem.length by omega)
       have hq2:(q:Int)<(p.cells.length:Int):=by omega
       cases hct:(writesM s).contains (q:Int)
       ·have hno:(q:Int) ∉ writesM s:=by simpa using hct
        have hm2:=execK_mem (p:=p) (k:=k) (c:=c) (t:=t) hok.set hno
        rw [hv] at hm2
        rw [hct] at hgt
        simp -dsimp -implicitDefEqProofs only [go_sem,seval,hq1,hq2,h24,hh,hgt,hv,hm2]
        exact ⟨by omega,by simp -dsimp -implicitDefEqProofs only [go_sem,seval,hw],by simp -dsimp -implicitDefEqProofs only [go_sem,seval,hh]⟩
       ·rw [hct] at hgt
        simp -dsimp -implicitDefEqProofs only [go_sem,seval,hq1,hq2,h24,hh,hgt]
        exact ⟨by omega,by simp -dsimp -implicitDefEqProofs only [go_sem,seval,hw],by simp -dsimp -implicitDefEqProofs only [go_sem,seval,hh]⟩
      ·simp -dsimp -implicitDefEqProofs only [go_sem,seval,hq1]
       refine loopYH 994646472819572842598998301697559284376537115865066478009953734881579463623516461465856 p.threads.length (fun q f h z=>(f 25).v=vi q) rfl (by simp -dsimp -implicitDefEqProofs only [go_sem,seval]) ?_
       clear h24 hw hh
       rintro q f2 u2 H2 z2 bs2 hq h25
       have hw:=wrapS q (by omega)
       simp -dsimp -implicitDefEqProofs only [go_sem,seval,h25]
       by_cases hq1:q<p.threads.length
       ·have hm1 : ¬ (q:Int) = -1:=by omega
        obtain ⟨a,ha,_⟩:=get_of (show q<c.at_.length by rw [hc.b.la]; exact hq1)
        have hb:=bufM_at (c:=c) (t:=q) (by rw [hc.b.lb]; exact hq1)
        by_cases hqt:(q:Int)=(t:Int)
        ·have hqt' : ((q:Int)=(t:Int))=True:=eq_true hqt
         simp -dsimp -implicitDefEqProofs only [go_sem,seval,hq1,h25,hqt']
         exact ⟨by omega,by simp -dsimp -implicitDefEqProofs only [go_sem,seval,hw]⟩
        ·have hb2:=execK_buf (s:=s) hc (show q≠t by omega) hq1
         rw [hb] at hb2
         have sme:Den Γ G 11 [.agg [.t (.sl []), .t (.sl []), .t (.sl [[.sl ((bufM c q).map Entry.enc)]])], .agg [.t (.sl []), .t (.sl []), .t (.sl [[.sl ((bufM c q).map Entry.enc)]])]]=some (vb true) :=
          (same_den ⟨[],[],[bufM c q]⟩ ⟨[],[],[bufM c q]⟩ ⟨by simp,by simp,by simp⟩ (fun l hl=>by
            rw [List.mem_singleton] at hl; subst hl
            exact hc.b.ents hg _ (List.mem_of_getElem? hb))).trans (by rw [decide_eq_true rfl])
         by_cases htq:s.kind=6/\(q:Int)=s.target
         ·first
           | exact absurd htq.1 hk6
           | (have htq' : ((q:Int)=s.target)=True:=eq_true htq.2
              simp -dsimp -implicitDefEqProofs only [go_sem,seval,hq1,h25,hqt,htq',hm1,hb,hb2]
              have ez : ¬ z2=z2+7:=by omega
              simp -dsimp -implicitDefEqProofs only [go_sem,seval,ez,sme,h25]
              exact ⟨by omega,by simp -dsimp -implicitDefEqProofs only [go_sem,seval,hw]⟩)
         ·have htn:s.kind=6 -> ¬ (q:Int)=s.target:=fun h h2=>htq ⟨h,h2⟩
          have hat:=execK_at (p:=p) (k:=k) (c:=c) (t:=t) (s:=s) (u:=q) (by omega) htn (fun h=>by
           have:=(hok.tgt (.inl h)).1
           simp only [inR,decide_eq_true_eq] at this; exact this.1)
          rw [ha] at hat
          have htn2:s.kind=6 -> ¬ (q:Int)=s.target:=htn
          first
           | (have htn3:=htn2 hk6
              simp -dsimp -implicitDefEqProofs only [go_sem,seval,hq1,h25,hqt,htn3,hm1,hb,hb2,ha,hat])
           | simp -dsimp -implicitDefEqProofs only [go_sem,seval,hq1,h25,hqt,hm1,hb,hb2,ha,hat]
          have ez : ¬ z2=z2+7:=by omega
          simp -dsimp -implicitDefEqProofs only [go_sem,seval,ez,sme,h25]
          exact ⟨by omega,by simp -dsimp -implicitDefEqProofs only [go_sem,seval,hw]⟩
       ·simp -dsimp -implicitDefEqProofs only [go_sem,seval,hq1]
   ·rw [hn] at hnx
    have sm1:=smallK_den p hg _ hd.b
    have ft1:=fitsK_den p hs hg k hk _ hd
    have t1 : ¬ (t:Int)<0:=by omega
    have t2 : ¬ (t:Int)>=(p.threads.length:Int):=by omega
    obtain ⟨x,hx,_⟩:=get_of ht
    have i1 : ¬ (-1:Int)>=(x.steps.length:Int):=by omega
    have hck:(p.cells.length:Int)<=4294967296:=by omega
    have hget:=bufM_at (c:=c) (t:=t) (by rw [hc.b.lb]; exact ht)
    obtain ⟨b1,b2,_⟩:=hc.b.buf t _ hget
    simp -dsimp -implicitDefEqProofs only [go_sem,seval,headB_den,h1,h2,hmd,h3,e1,z1,z2,hwn,hrem,hy,hnx,t1,t2,hx,i1,sm1,ft1]
    simp -dsimp -implicitDefEqProofs only [go_sem,seval,hck,Int.le_refl]
    refine loopYH 13164036458563662026533246082105841746787081029820128207105425408 (bufM c t).length (fun j f h z=>(f 22).v=vi j/\h 107=some (.rows 1 (rowsB (markM p.cells.length (((bufM c t).take j).flatMap Entry.cells))) false)/\107<z) rfl ⟨by simp -dsimp -implicitDefEqProofs only [go_sem,seval],by rw [List.take_zero,List.flatMap_nil,markM_nil,rowsB_rep]; simp -dsimp -implicitDefEqProofs only [go_sem,seval],by simp -dsimp -implicitDefEqProofs only [go_sem,seval]⟩ ?_
    rintro j f u H z bs hj ⟨h22,hh,hz⟩
    have hw:=wrapS j (by omega)
    simp -dsimp -implicitDefEqProofs only [go_sem,seval,h22,hget]
    by_cases hj1:j<(bufM c t).length
    ·obtain ⟨e',he',hem'⟩:=get_of hj1
     have hpr:=b2 e' hem'
     have hpl:=proper_len hpr
     simp -dsimp -implicitDefEqProofs only [go_sem,seval,hj1]
     refine loopYH 13164036446309684010312642593592027822659413456118725929328443392 e'.cells.length (fun r g h z=>(g 23).v=vi r/\h 107=some (.rows 1 (rowsB (markM p.cells.length (((bufM c t).take j).flatMap Entry.cells++e'.cells.take r))) false)/\107<z) rfl ⟨by simp -dsimp -implicitDefEqProofs only [go_sem,seval],by rw [List.take_zero,List.append_nil]; simp -dsimp -implicitDefEqProofs only [go_sem,seval,hh],by simp -dsimp -implicitDefEqProofs only [go_sem,seval]; omega⟩ ?_
     clear hh
     rintro r g u2 H2 z2 bs2 hr ⟨h23,hh,hz2⟩
     have hw2:=wrapS r (by omega)
     simp -dsimp -implicitDefEqProofs only [go_sem,seval,h23,h22,hget,he',Entry.enc]
     by_cases hr1:r<e'.cells.length
     ·obtain ⟨n,hn1,hnm⟩:=get_of hr1
      have hnp:=proper_lt hpr hnm
      have n0:=hnp.1
      have n1:n<(p.cells.length:Int):=by omega
      have hgt:=rowsB_gt (markM_get (n:=p.cells.length) (((bufM c t).take j).flatMap Entry.cells++e'.cells.take r) (i:=n.toNat) (by omega))
      have hst:=rowsB_set (markM p.cells.length (((bufM c t).take j).flatMap Entry.cells++e'.cells.take r)) n.toNat
      rw [markM_set n0,List.append_assoc, <- take_succ_of hn1] at hst
      simp -dsimp -implicitDefEqProofs only [go_sem,seval,hr1,h23,h22,hget,he',Entry.enc,hn1,hh,n0,n1,hgt,hst]
      exact ⟨by omega,by simp -dsimp -implicitDefEqProofs only [go_sem,seval,hw2],by simp -dsimp -implicitDefEqProofs only [go_sem,seval],by simp -dsimp -implicitDefEqProofs only [go_sem,seval]; omega⟩
     ·have hr2:r=e'.cells.length:=by omega
      subst hr2
      rw [List.take_length] at hh
      simp -dsimp -implicitDefEqProofs only [go_sem,seval,hr1,h22]
      refine ⟨by omega,by simp -dsimp -implicitDefEqProofs only [go_sem,seval,hw], ?_,by simp -dsimp -implicitDefEqProofs only [go_sem,seval]; omega⟩
      rw [take_succ_of he',List.flatMap_append,List.flatMap_cons,List.flatMap_nil,List.append_nil]
      simp -dsimp -implicitDefEqProofs only [go_sem,seval,hh]
    ·have hj2:j=(bufM c t).length:=by omega
     subst hj2
     rw [List.take_length] at hh
     simp -dsimp -implicitDefEqProofs only [go_sem,seval,hj1]
     refine loopYH 441711753030559623826176037945976168498066934357017814461762643551060224 p.cells.length (fun q f h z=>(f 24).v=vi q/\h 107=some (.rows 1 (rowsB (markM p.cells.length ((bufM c t).flatMap Entry.cells))) false)) rfl ⟨by simp -dsimp -implicitDefEqProofs only [go_sem,seval],by simp -dsimp -implicitDefEqProofs only [go_sem,seval,hh]⟩ ?_
     clear h22 hw hh
     rintro q f2 u2 H2 z2 bs2 hq ⟨h24,hh⟩
     have hw:=wrapS q (by omega)
     simp -dsimp -implicitDefEqProofs only [go_sem,seval,h24]
     by_cases hq1:q<p.cells.length
     ·have hgt:=rowsB_gt (markM_get (n:=p.cells.length) ((bufM c t).flatMap Entry.cells) hq1)
      obtain ⟨v,hv,_⟩:=get_of (show q<c.mem.length by omega)
      have hq2:(q:Int)<(p.cells.length:Int):=by omega
      cases hct:((bufM c t).flatMap Entry.cells).contains (q:Int)
      ·have hm2:=commitB_mem (c:=c) (t:=t) hi (i:=q) (fun n hn he=>by
        have hno:(q:Int) ∉ (bufM c t).flatMap Entry.cells:=by simpa using hct
        have h0:=(proper_lt (b2 e (List.mem_of_getElem? hi)) hn).1
        exact hno (List.mem_flatMap.2 ⟨e,List.mem_of_getElem? hi,by rw [show (q:Int)=n by omega]; exact hn⟩))
       rw [hv] at hm2
       rw [hct] at hgt
       simp -dsimp -implicitDefEqProofs only [go_sem,seval,hq1,hq2,h24,hh,hgt,hv,hm2]
       exact ⟨by omega,by simp -dsimp -implicitDefEqProofs only [go_sem,seval,hw],by simp -dsimp -implicitDefEqProofs only [go_sem,seval,hh]⟩
      ·rw [hct] at hgt
       simp -dsimp -implicitDefEqProofs only [go_sem,seval,hq1,hq2,h24,hh,hgt]
       exact ⟨by omega,by simp -dsimp -implicitDefEqProofs only [go_sem,seval,hw],by simp -dsimp -implicitDefEqProofs only [go_sem,seval,hh]⟩
     ·simp -dsimp -implicitDefEqProofs only [go_sem,seval,hq1]
      refine loopYH 994646472819572842598998301697559284376537115865066478009953734881579463623516461465856 p.threads.length (fun q f h z=>(f 25).v=vi q) rfl (by simp -dsimp -implicitDefEqProofs only [go_sem,seval]) ?_
      clear h24 hw hh
      rintro q f2 u2 H2 z2 bs2 hq h25
      have hw:=wrapS q (by omega)
      simp -dsimp -implicitDefEqProofs only [go_sem,seval,h25]
      by_cases hq1:q<p.threads.length
      ·have hm1 : ¬ (q:Int) = -1:=by omega
       obtain ⟨a,ha,_⟩:=get_of (show q<c.at_.length by rw [hc.b.la]; exact hq1)
       have hb:=bufM_at (c:=c) (t:=q) (by rw [hc.b.lb]; exact hq1)
       by_cases hqt:(q:Int)=(t:Int)
       ·have hqt' : ((q:Int)=(t:Int))=True:=eq_true hqt
        simp -dsimp -implicitDefEqProofs only [go_sem,seval,hq1,h25,hqt']
        exact ⟨by omega,by simp -dsimp -implicitDefEqProofs only [go_sem,seval,hw]⟩
       ·obtain ⟨hat,hb2⟩:=commitB_rest (c:=c) (t:=t) hi (show q≠t by omega)
        rw [hb] at hb2
        rw [ha] at hat
        have sme:Den Γ G 11 [.agg [.t (.sl []), .t (.sl []), .t (.sl [[.sl ((bufM c q).map Entry.enc)]])], .agg [.t (.sl []), .t (.sl []), .t (.sl [[.sl ((bufM c q).map Entry.enc)]])]]=some (vb true) :=
         (same_den ⟨[],[],[bufM c q]⟩ ⟨[],[],[bufM c q]⟩ ⟨by simp,by simp,by simp⟩ (fun l hl=>by
           rw [List.mem_singleton] at hl; subst hl
           exact hc.b.ents hg _ (List.mem_of_getElem? hb))).trans (by rw [decide_eq_true rfl])
        simp -dsimp -implicitDefEqProofs only [go_sem,seval,hq1,h25,hqt,hm1,hb,hb2,ha,hat]
        have ez : ¬ z2=z2+7:=by omega
        simp -dsimp -implicitDefEqProofs only [go_sem,seval,ez,sme,h25]
        exact ⟨by omega,by simp -dsimp -implicitDefEqProofs only [go_sem,seval,hw]⟩
      ·simp -dsimp -implicitDefEqProofs only [go_sem,seval,hq1]
end Rg
end
