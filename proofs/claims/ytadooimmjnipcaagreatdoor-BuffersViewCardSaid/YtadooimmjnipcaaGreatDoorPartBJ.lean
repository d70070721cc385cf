/- Part of the proof of the laws of the package relyguardlaw12: an abstract machine for the program's functions, what they compute, and that the machine is the program's. No condition. (H22g) -/
import Derived.Test.YtadooimmjnipcaaGreatDoorPartBG
set_option linter.unusedSimpArgs false
set_option linter.unusedVariables false
section
set_option maxRecDepth 4000
namespace Rg
open Go
theorem lawV_den (p:Prog) (hl:p.lite) (m:Int) (hm:0<=m/\m<256) (picks:List Int) (hpk : ∀ k∈picks,0<=k/\k<256) (pick:Int) (hp:0<=pick/\pick<256) :
 Den Γ G 170 [(.agg [.t (.sl ((p).cells.map (Cell.enc))), .t (.sl ((p).modules.map (Contract.enc))), .t (.sl ((p).locks.map (Lock.enc))), .t (.sl ((p).threads.map (Thread.enc)))]), .t (.int .u8 m), .t (bytesT picks), .t (.int .u8 pick)]=some (vb true):=by
 (refine den_ofY Γ170 rfl ?_; dsimp only [f170])
 have h1:=fewM_den p hl.steps
 rcases goodB_cases p hl with hf | ⟨hf,hg,hs⟩ | ⟨hf,⟨hs,hg⟩⟩
 ·rw [hf] at h1
  simp -dsimp -implicitDefEqProofs only [go_sem,seval,headB_den,h1]
 ·rw [hf] at h1
  have h2:=okR_den p hs
  rw [hg] at h2
  simp -dsimp -implicitDefEqProofs only [go_sem,seval,headB_den,h1,h2]
 ·rw [hf] at h1
  have h2:=okR_den p hs
  rw [hg] at h2
  have hmd:=model_den m hm
  have hk:=kM_in (m:=m)
  generalize kM m=k at *
  have h3:=atK_den p hs hg k hk picks hpk
  have hc:=atK_is hg k picks
  generalize atK p k picks=c at *
  have e1:=enabledK_den p hs hg k hk c hc
  have hel:=choicesK_le hg hc
  obtain ⟨⟨m1,m2,m3,m4⟩,_⟩:=limits_points (formed_limits hg).1
  have l1:=hc.b.lm
  by_cases hstop:(choicesK p k c).length=0\/200<(choicesK p k c).length
  ·by_cases z0:(choicesK p k c).length=0
   ·simp -dsimp -implicitDefEqProofs only [go_sem,seval,headB_den,h1,h2,hmd,h3,e1,z0]
   ·have z1 : ¬ ((choicesK p k c).length:Int)=0:=by omega
    have z2:((choicesK p k c).length:Int)>200:=by omega
    simp -dsimp -implicitDefEqProofs only [go_sem,seval,headB_den,h1,h2,hmd,h3,e1,z1,z2]
  ·have z1 : ¬ ((choicesK p k c).length:Int)=0:=by omega
   have z2 : ¬ ((choicesK p k c).length:Int)>200:=by omega
   have hwn:IntKind.i64.wrap pick=pick:=wrap64 (by omega)
   have he1:0<(choicesK p k c).length:=by omega
   have hrem:pick.tmod (choicesK p k c).length=((pick.toNat % (choicesK p k c).length:Nat):Int):=by
    rw [Int.tmod_eq_emod_of_nonneg hp.1,Int.natCast_emod,Int.toNat_of_nonneg hp.1]
   have hri:pick.toNat % (choicesK p k c).length<(choicesK p k c).length:=Nat.mod_lt _ he1
   obtain ⟨y,hy,hym⟩:=get_of hri
   generalize pick.toNat % (choicesK p k c).length=ix at *
   have hnx:=nextK_den p hs hg k hk c hc y
   rcases nextK_inv hg hc hym with ⟨t,x,i,s,hx,hsi,he,rfl,hn,hd⟩ | ⟨hk0,t,i,e,ht,hi,ho,rfl,hn,hd⟩
   ·have ht:=(List.getElem?_eq_some_iff.1 hx).1
    have hil:=(List.getElem?_eq_some_iff.1 hsi).1
    have hok:=formed_step hg hx hsi
    have hss:=set_small hok.set
    rw [hn] at hnx
    have v1:=viewB_den p hs hg c hc.b t ht
    have v2:=viewB_den p hs hg _ hd.b t ht
    rw [viewK_step hg hc hx hsi he] at v2
    have t1 : ¬ (t:Int)<0:=by omega
    have t2 : ¬ (t:Int)>=(p.threads.length:Int):=by omega
    have i1 : ¬ (i:Int)>=(x.steps.length:Int):=by omega
    have i2:(i:Int)>=0:=by omega
    have lv:(viewM c t).length=p.cells.length:=by rw [view_len,l1]
    simp -dsimp -implicitDefEqProofs only [go_sem,seval,headB_den,h1,h2,hmd,h3,e1,z1,z2,hwn,hrem,hy,hnx,t1,t2,hx,i1]
    simp -dsimp -implicitDefEqProofs only [go_sem,seval,v1,lv]
    have hrw:List.map (fun x=>List.map V.t x) (List.map (fun n=>[ti n]) (viewM c t))=rowsI (viewM c t):=by simp [rowsI]
    rw [hrw]
    have hrl:(rowsI (viewM c t)).length=p.cells.length:=by rw [rowsI_len,lv]
    refine putA_appM (x:=104) (by simp -dsimp -implicitDefEqProofs only [go_sem,seval]) rfl (by decide) (by decide) (by rw [hrl]; simp; omega) (by decide) (by simp [rowsI]) rfl ?_
    intro kw hp hkw hkh hlo hhi
    rw [List.nil_append] at hkh
    rw [List.nil_append,hrl]
    simp -dsimp -implicitDefEqProofs only [go_sem,seval,i2,hsi,hx]
    refine loopYH 2923003100437233972886876372184767034246542917632 s.set.length (fun j f h z=>(f 21).v=vi j/\h kw=some (.rows 1 (rowsI (writeM (viewM c t) (viewM c t) (s.set.take j))) false)) rfl ⟨by simp -dsimp -implicitDefEqProofs only [go_sem,seval],by simp -dsimp -implicitDefEqProofs only [go_sem,seval,hkh]; rfl⟩ ?_
    clear hkh
    rintro j f u H z bs hj ⟨h21,hh⟩
    have hw:=wrapS j (by omega)
    simp -dsimp -implicitDefEqProofs only [go_sem,seval,h21]
    refine csplit (fun h => ?_) (fun h => ?_) <;> (try rw [h]) <;> (try simp only [bools] at h) <;> (try simp -dsimp -implicitDefEqProofs only [go_sem,seval,h21])
    ·obtain ⟨a,ha,ham⟩:=get_of ‹j<s.set.length›
     have hev:=evalP_den a.to (viewM c t) (viewM c t)
     have hcr:=(hok.rng.2 a ham).1
     simp only [inR,decide_eq_true_eq] at hcr
     have hlen:(writeM (viewM c t) (viewM c t) (s.set.take j)).length=p.cells.length:=by rw [write_len,lv]
     have hgt:=rowsI_get (l:=writeM (viewM c t) (viewM c t) (s.set.take j)) (i:=a.cell.toNat) (by omega)
     have hst:=rowsI_set (writeM (viewM c t) (viewM c t) (s.set.take j)) a.cell.toNat (a.to.eval (viewM c t) (viewM c t))
     rw [<- write_take ha] at hst
     have c0:=hcr.1
     have c1:=hcr.2
     simp -dsimp -implicitDefEqProofs only [go_sem,seval,h21,ha,hev,hh,c0,c1,hgt,hst]
     exact ⟨by omega,by simp -dsimp -implicitDefEqProofs only [go_sem,seval,hw],by simp -dsimp -implicitDefEqProofs only [go_sem,seval]⟩
    ·have hj2:j=s.set.length:=by omega
     subst hj2
     rw [List.take_length] at hh
     have hwl:(writeM (viewM c t) (viewM c t) s.set).length=p.cells.length:=by rw [write_len,lv]
     have f2:(rowsI (writeM (viewM c t) (viewM c t) s.set)).length=p.cells.length:=by rw [rowsI_len,hwl]
     have f3:List.take p.cells.length (rowsI (writeM (viewM c t) (viewM c t) s.set))=rowsI (writeM (viewM c t) (viewM c t) s.set):=take_all f2.symm
     have sm:=sameInts_den (writeM (viewM c t) (viewM c t) s.set) (writeM (viewM c t) (viewM c t) s.set) (by omega)
     rw [decide_eq_true rfl] at sm
     by_cases hb:s.kind=3 /\ ¬ k=0
     ·obtain ⟨b1,b2⟩:=hb
      simp -dsimp -implicitDefEqProofs only [go_sem,seval,b1,b2]
      simp -dsimp -implicitDefEqProofs only [go_sem,seval,v2,hh,f2,f3,rowsI_toT,Nat.le_refl,sm]
      have hex:execK p k c t s=execB p c t s:=by rw [execK,if_neg b2]
      refine loopYH 220855883097298041102131216288746760831038797912558045789029580088017152 p.threads.length (fun q g h z=>(g 22).v=vi q) rfl (by simp -dsimp -implicitDefEqProofs only [go_sem,seval]) ?_
      clear hh h21 hw
      rintro q g u2 H2 z2 bs2 hq h22
      have hw2:=wrapS q (by omega)
      simp -dsimp -implicitDefEqProofs only [go_sem,seval,h22]
      refine csplit (fun h => ?_) (fun h => ?_) <;> (try rw [h]) <;> (try simp only [bools] at h) <;> (try simp -dsimp -implicitDefEqProofs only [go_sem,seval,h22])
      ·have hql:q<p.threads.length:=by omega
       have va:=viewB_den p hs hg c hc.b q hql
       have vb' := viewB_den p hs hg _ hd.b q hql
       have la:(viewM c q).length=p.cells.length:=by rw [view_len,l1]
       have lb:(viewM (execK p k c t s) q).length=p.cells.length:=by rw [view_len,hd.b.lm]
       simp -dsimp -implicitDefEqProofs only [go_sem,seval,h22,va,vb',la,lb]
       refine loopYH 220855882891609971532761432323493666658766673986610386561003292276556032 p.cells.length (fun r g2 h z=>(g2 25).v=vi r) rfl (by simp -dsimp -implicitDefEqProofs only [go_sem,seval]) ?_
       rintro r g2 u3 H3 z3 bs3 hr h25
       have hw3:=wrapS r (by omega)
       simp -dsimp -implicitDefEqProofs only [go_sem,seval,h25,la]
       refine csplit (fun h => ?_) (fun h => ?_) <;> (try rw [h]) <;> (try simp only [bools] at h) <;> (try simp -dsimp -implicitDefEqProofs only [go_sem,seval,h25,la])
       ·obtain ⟨y,hy,hym⟩:=get_of ‹r<p.cells.length›
        obtain ⟨n1,hn1,_⟩:=get_of (show r<(viewM c q).length by omega)
        obtain ⟨n2,hn2,_⟩:=get_of (show r<(viewM (execK p k c t s) q).length by omega)
        by_cases hqt:(q:Int)=(t:Int)
        ·simp -dsimp -implicitDefEqProofs only [go_sem,seval,h25,h22,hqt]
         exact ⟨by omega,by simp -dsimp -implicitDefEqProofs only [go_sem,seval,hw3]⟩
        ·by_cases hyt:y.thread = -1
         ·have hvs:=view_store hc.b b1 (fun a ha=>by
           have:=(hok.rng.2 a ha).1
           simp only [inR,decide_eq_true_eq] at this
           exact this.1) (show q≠t by omega) hy hyt
          rw [hex,hvs,hn1] at hn2
          cases hn2
          have hn2' : (viewM (execK p k c t s) q)[r]? = some n1:=by rw [hex,hvs,hn1]
          simp -dsimp -implicitDefEqProofs only [go_sem,seval,h25,h22,hqt,hy,hyt,hn1,hn2']
          exact ⟨by omega,by simp -dsimp -implicitDefEqProofs only [go_sem,seval,hw3]⟩
         ·simp -dsimp -implicitDefEqProofs only [go_sem,seval,h25,h22,hqt,hy,hyt]
          exact ⟨by omega,by simp -dsimp -implicitDefEqProofs only [go_sem,seval,hw3]⟩
       ·simp -dsimp -implicitDefEqProofs only [go_sem,seval,h22]
        exact ⟨by omega,by simp -dsimp -implicitDefEqProofs only [go_sem,seval,hw2]⟩
     ·by_cases b1:s.kind=3
      ·have b2:k=0:=by
        rcases Int.decEq k 0 with h | h
        ·exact absurd ⟨b1,h⟩ hb
        ·exact h
       simp -dsimp -implicitDefEqProofs only [go_sem,seval,b1,b2]
       rw [b2] at v2
       simp -dsimp -implicitDefEqProofs only [go_sem,seval,v2,hh,f2,f3,rowsI_toT,Nat.le_refl,sm]
       refine loopYH 220855883097298041102131216288746760831038797912558045789029580088017152 0 (fun q g h z=>(g 22).v=vi q) rfl (by simp -dsimp -implicitDefEqProofs only [go_sem,seval]) ?_
       rintro q g u2 H2 z2 bs2 hq h22
       have hq0:q=0:=by omega
       subst hq0
       simp -dsimp -implicitDefEqProofs only [go_sem,seval,h22]
       refine csplit (fun h => ?_) (fun h => ?_) <;> (try rw [h]) <;> (try simp only [bools] at h) <;> (try simp -dsimp -implicitDefEqProofs only [go_sem,seval,h22])
      ·simp -dsimp -implicitDefEqProofs only [go_sem,seval,b1]
       simp -dsimp -implicitDefEqProofs only [go_sem,seval,v2,hh,f2,f3,rowsI_toT,Nat.le_refl,sm]
       refine loopYH 220855883097298041102131216288746760831038797912558045789029580088017152 0 (fun q g h z=>(g 22).v=vi q) rfl (by simp -dsimp -implicitDefEqProofs only [go_sem,seval]) ?_
       rintro q g u2 H2 z2 bs2 hq h22
       have hq0:q=0:=by omega
       subst hq0
       simp -dsimp -implicitDefEqProofs only [go_sem,seval,h22]
       refine csplit (fun h => ?_) (fun h => ?_) <;> (try rw [h]) <;> (try simp only [bools] at h) <;> (try simp -dsimp -implicitDefEqProofs only [go_sem,seval,h22])
   ·rw [hn] at hnx
    have v1:=viewB_den p hs hg c hc.b t ht
    have v2:=viewB_den p hs hg _ hd.b t ht
    rw [view_commit hc.b hi ho] at v2
    have t1 : ¬ (t:Int)<0:=by omega
    have t2 : ¬ (t:Int)>=(p.threads.length:Int):=by omega
    obtain ⟨x,hx,_⟩:=get_of ht
    have i1 : ¬ (-1:Int)>=(x.steps.length:Int):=by omega
    have lv:(viewM c t).length=p.cells.length:=by rw [view_len,l1]
    simp -dsimp -implicitDefEqProofs only [go_sem,seval,headB_den,h1,h2,hmd,h3,e1,z1,z2,hwn,hrem,hy,hnx,t1,t2,hx,i1]
    simp -dsimp -implicitDefEqProofs only [go_sem,seval,v1,lv]
    have hrw:List.map (fun x=>List.map V.t x) (List.map (fun n=>[ti n]) (viewM c t))=rowsI (viewM c t):=by simp [rowsI]
    rw [hrw]
    have hrl:(rowsI (viewM c t)).length=p.cells.length:=by rw [rowsI_len,lv]
    refine putA_appM (x:=104) (by simp -dsimp -implicitDefEqProofs only [go_sem,seval]) rfl (by decide) (by decide) (by rw [hrl]; simp; omega) (by decide) (by simp [rowsI]) rfl ?_
    intro kw hp hkw hkh hlo hhi
    rw [List.nil_append] at hkh
    rw [List.nil_append,hrl]
    have f3:List.take p.cells.length (rowsI (viewM c t))=rowsI (viewM c t):=take_all hrl.symm
    have sm:=sameInts_den (viewM c t) (viewM c t) (by omega)
    rw [decide_eq_true rfl] at sm
    simp -dsimp -implicitDefEqProofs only [go_sem,seval]
    simp -dsimp -implicitDefEqProofs only [go_sem,seval,v2,hkh,hrl,f3,rowsI_toT,Nat.le_refl,sm]
    refine loopYH 220855883097298041102131216288746760831038797912558045789029580088017152 0 (fun q g h z=>(g 22).v=vi q) rfl (by simp -dsimp -implicitDefEqProofs only [go_sem,seval]) ?_
    rintro q g u2 H2 z2 bs2 hq h22
    have hq0:q=0:=by omega
    subst hq0
    simp -dsimp -implicitDefEqProofs only [go_sem,seval,h22]
    refine csplit (fun h => ?_) (fun h => ?_) <;> (try rw [h]) <;> (try simp only [bools] at h) <;> (try simp -dsimp -implicitDefEqProofs only [go_sem,seval,h22])
end Rg
end
