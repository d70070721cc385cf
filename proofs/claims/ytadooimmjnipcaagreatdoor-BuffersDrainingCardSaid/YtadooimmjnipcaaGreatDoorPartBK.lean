/- Part of the proof of the laws of the package relyguardlaw12: an abstract machine for the program's functions, what they compute, and that the machine is the program's. No condition. (H22h) -/
import Derived.Test.YtadooimmjnipcaaGreatDoorPartBG
set_option linter.unusedSimpArgs false
set_option linter.unusedVariables false
section
set_option maxRecDepth 4000
namespace Rg
open Go
theorem mod_rem {m:Int} (h0:0<=m) (n:Nat):m.tmod n=((m.toNat % n:Nat):Int):=by
 rw [Int.tmod_eq_emod_of_nonneg h0,Int.natCast_emod,Int.toNat_of_nonneg h0]
theorem rowsC_get {l:List Choice} {i:Nat} {y:Choice} (h:l[i]? = some y):(rowsC l)[i]? = some [vi y.thread,vi y.step,vi y.cell]:=by
 simp [rowsC,h,Choice.enc]
theorem filter_succ {l:List Choice} {f:Choice->Bool} {j:Nat} {y:Choice} (h:l[j]? = some y):(l.take (j+1)).filter f=(l.take j).filter f++(if f y then [y] else []):=by
 rw [take_succ_of h,List.filter_append]
 congr 1
 cases hf:f y <;> simp [hf]
def drainF (t:Nat) (y:Choice):Bool:=decide (y.thread=(t:Int))&&decide (y.step = -1)
theorem lawD_den (p:Prog) (hl:p.lite) (m:Int) (hm:0<=m/\m<256) (picks:List Int) (hpk : ∀ k∈picks,0<=k/\k<256) (th:Int) (hth:0<=th/\th<256) (order:List Int) (hor : ∀ k∈order,0<=k/\k<256) :
 Den Γ G 172 [(.agg [.t (.sl ((p).cells.map (Cell.enc))), .t (.sl ((p).modules.map (Contract.enc))), .t (.sl ((p).locks.map (Lock.enc))), .t (.sl ((p).threads.map (Thread.enc)))]), .t (.int .u8 m), .t (bytesT picks), .t (.int .u8 th), .t (bytesT order)]=some (vb true):=by
 (refine den_ofY Γ172 rfl ?_; dsimp only [f172])
 have h1:=fewM_den p hl.steps
 rcases goodB_cases p hl with hf | ⟨hf,hg,hs⟩ | ⟨hf,⟨hs,hg⟩⟩
 ·rw [hf] at h1
  simp -dsimp -implicitDefEqProofs only [go_sem,seval,headB_den,h1]
 ·rw [hf] at h1
  have h2:=okR_den p hs
  rw [hg] at h2
  simp -dsimp -implicitDefEqProofs only [go_sem,seval,headB_den,h1,h2]
 ·rw [hf] at h1
  have h2:=okR_den p hs
  rw [hg] at h2
  by_cases hn0:p.threads.length=0
  ·simp -dsimp -implicitDefEqProofs only [go_sem,seval,headB_den,h1,h2,hn0]
  have n0 : ¬ (p.threads.length:Int)=0:=by omega
  have hmd:=model_den m hm
  have hk:=kM_in (m:=m)
  generalize kM m=k at *
  have h3:=atK_den p hs hg k hk picks hpk
  have hc:=atK_is hg k picks
  generalize atK p k picks=c at *
  have hwt:IntKind.i64.wrap th=th:=wrap64 (by omega)
  have hrt:=mod_rem hth.1 p.threads.length
  have htl:th.toNat % p.threads.length<p.threads.length:=Nat.mod_lt _ (by omega)
  generalize th.toNat % p.threads.length=t at *
  have v1:=viewB_den p hs hg c hc.b t htl
  obtain ⟨⟨m1,m2,m3,m4⟩,_⟩:=limits_points (formed_limits hg).1
  have hlb:(order.map fun n=>[T.int .u8 n]).length=order.length:=by simp
  obtain ⟨b1,_,_⟩:=hc.b.buf t _ (bufM_at (c:=c) (t:=t) (by rw [hc.b.lb]; exact htl))
  simp -dsimp -implicitDefEqProofs only [go_sem,seval,headB_den,h1,h2,n0,hmd,h3,hwt,hrt,v1]
  refine loopYH 10889035741470030830825681594807385728000 3 (fun i f h z=>(f 17).v=vi i /\ ∃ d:Config,IsK p k d/\viewM d t=viewM c t/\(bufM d t).length+i<=3/\(f 13).v = .lb/\(f 13).box=some [.t (ints d.mem), .t (ints d.at_), .t (.sl (d.buf.map (fun b=>[.sl (b.map Entry.enc)])))]) rfl
   ⟨by simp -dsimp -implicitDefEqProofs only [go_sem,seval],c,hc,rfl,b1,by simp -dsimp -implicitDefEqProofs only [go_sem,seval],by simp -dsimp -implicitDefEqProofs only [go_sem,seval]⟩ ?_
  rintro i f u H z bs hi ⟨h17,d,hd,hdv,hdl,g1,g2⟩
  have hw:=wrapS i (by omega)
  have hget:=bufM_at (c:=d) (t:=t) (by rw [hd.b.lb]; exact htl)
  have hend:bufM d t=[]->d.mem=viewM c t:=fun h=>by rw [<- hdv,viewM,h]; rfl
  have lm:=hd.b.lm
  simp -dsimp -implicitDefEqProofs only [go_sem,seval,h17]
  by_cases hi3:(i:Int)<3
  ·have e1:=enabledK_den p hs hg k hk d hd
   have hel:=choicesK_le hg hd
   simp -dsimp -implicitDefEqProofs only [go_sem,seval,hi3,g1,g2,e1]
   refine loopYH 158456324438232864828383559680 (choicesK p k d).length (fun j g h x=>(g 20).v=vi j/\OwnB h x (g 18).v 3 (rowsC (((choicesK p k d).take j).filter (drainF t)))) rfl ⟨by simp -dsimp -implicitDefEqProofs only [go_sem,seval], .inl ⟨by simp -dsimp -implicitDefEqProofs only [go_sem,seval],rfl⟩⟩ ?_
   rintro j g u2 H2 z2 bs2 hj ⟨h20,hown⟩
   have hw2:=wrapS j (by omega)
   simp -dsimp -implicitDefEqProofs only [go_sem,seval,h20]
   refine csplit (fun h => ?_) (fun h => ?_) <;> (try rw [h]) <;> (try simp only [bools] at h) <;> (try simp -dsimp -implicitDefEqProofs only [go_sem,seval,h20])
   ·obtain ⟨y,hy,hym⟩:=get_of ‹j<(choicesK p k d).length›
    have hsucc:=filter_succ (f:=drainF t) hy
    have hskip:drainF t y=false->OwnB H2 z2 (g 18).v 3 (rowsC (((choicesK p k d).take (j+1)).filter (drainF t))):=fun h0=>by
     rw [hsucc,h0]; simpa using hown
    by_cases y1:y.thread=(t:Int)
    ·by_cases y2:y.step = -1
     ·have w1:=hown.valOf
      have w2:=hown.r2
      have w3:=hown.r3
      have w4:=hown.r4
      have w5:=hown.r5
      have hfl:(((choicesK p k d).take j).filter (drainF t)).length<=268:=by
       have a1:=List.length_filter_le (drainF t) ((choicesK p k d).take j)
       rw [List.length_take] at a1; omega
      simp -dsimp -implicitDefEqProofs only [go_sem,seval,h20,hy,y1,y2,w1,w2,w3,w4,w5]
      refine putA_app1 (hown.upd (by omega) _) (by omega) (by rw [rowsC_len]; omega) (by decide) rfl (rowsC_all _) ?_
      intro v hp hO hoffs hkeep
      have w6:=hO.valOf
      simp -dsimp -implicitDefEqProofs only [go_sem,seval,w6,h20]
      refine ⟨by omega,by simp -dsimp -implicitDefEqProofs only [go_sem,seval,hw2], ?_⟩
      simp -dsimp -implicitDefEqProofs only [go_sem,seval]
      rw [hsucc,if_pos (by simp [drainF,y1,y2]),rowsC_app]
      rw [y1,y2]
      exact hO.le (by omega)
     ·simp -dsimp -implicitDefEqProofs only [go_sem,seval,h20,hy,y1,y2]
      refine ⟨by omega,by simp -dsimp -implicitDefEqProofs only [go_sem,seval,hw2], ?_⟩
      simp -dsimp -implicitDefEqProofs only [go_sem,seval]
      exact (hskip (by simp [drainF,y2])).le (by omega)
    ·simp -dsimp -implicitDefEqProofs only [go_sem,seval,h20,hy,y1]
     refine ⟨by omega,by simp -dsimp -implicitDefEqProofs only [go_sem,seval,hw2], ?_⟩
     simp -dsimp -implicitDefEqProofs only [go_sem,seval]
     exact (hskip (by simp [drainF,y1])).le (by omega)
   ·have hj2:j=(choicesK p k d).length:=by omega
    subst hj2
    rw [List.take_length] at hown
    have hown' : OwnB H2 z2 (g 18).v 3 (rowsC (drainL p k d t)):=hown
    have w1:=hown'.valOf
    have w2:=hown'.lenS
    rw [rowsC_len] at w2
    by_cases hz:(drainL p k d t).length=0
    ·have hb0:=drain_none hd htl (List.eq_nil_of_length_eq_zero hz)
     have sm:=sameInts_den d.mem (viewM c t) (by omega)
     rw [decide_eq_true (hend hb0)] at sm
     rw [hb0] at hget
     have hz' : ((drainL p k d t).length:Int)=0:=by omega
     simp -dsimp -implicitDefEqProofs only [go_sem,seval,w1,w2,hz',g1,g2,sm,hget]
    ·have hz' : ¬ ((drainL p k d t).length:Int)=0:=by omega
     have fin : ∀ (idx:Nat) (y:Choice),(drainL p k d t)[idx]? = some y -> ∃ d' : Config,Den Γ G 180 [(.agg [.t (.sl ((p).cells.map (Cell.enc))), .t (.sl ((p).modules.map (Contract.enc))), .t (.sl ((p).locks.map (Lock.enc))), .t (.sl ((p).threads.map (Thread.enc)))]),vi k,(.agg [.t (ints (d).mem), .t (ints (d).at_), .t (.sl ((d).buf.map (fun b=>[.sl (b.map Entry.enc)])))]), .agg [vi y.thread,vi y.step,vi y.cell]]=some (.tup [(.agg [.t (ints (d').mem), .t (ints (d').at_), .t (.sl ((d').buf.map (fun b=>[.sl (b.map Entry.enc)])))]),vi 0])/\Den Γ G 182 [(.agg [.t (.sl ((p).cells.map (Cell.enc))), .t (.sl ((p).modules.map (Contract.enc))), .t (.sl ((p).locks.map (Lock.enc))), .t (.sl ((p).threads.map (Thread.enc)))]),vi k,(.agg [.t (ints (d').mem), .t (ints (d').at_), .t (.sl ((d').buf.map (fun b=>[.sl (b.map Entry.enc)])))])]=some (vb true) /\
      IsK p k d' /\ viewM d' t=viewM c t/\(bufM d' t).length+(i+1)<=3:=fun idx y hy=>by
      obtain ⟨d',q1,q2,q3,q4⟩:=drain_some hg hd htl (List.mem_of_getElem? hy)
      have hnx:=nextK_den p hs hg k hk d hd y
      rw [q1] at hnx
      exact ⟨d',hnx,fitsK_den p hs hg k hk d' q2,q2,by rw [q3,hdv],by omega⟩
     rcases hown' with ⟨_,h0⟩ | ⟨kl,hv,hkl,hh⟩
     ·exfalso
      have:=congrArg List.length h0
      rw [rowsC_len] at this
      exact hz this
     rw [rowsC_len] at hv
     generalize drainL p k d t=L at *
     simp -dsimp -implicitDefEqProofs only [go_sem,seval,w1,w2,hz',h17]
     by_cases hio:i<order.length
     ·obtain ⟨o,ho,hom⟩:=get_of (show i<order.length by omega)
      obtain ⟨o0,o1⟩:=hor o hom
      have hwo:IntKind.i64.wrap o=o:=wrap64 (by omega)
      have hro:=mod_rem o0 L.length
      have hix:o.toNat % L.length<L.length:=Nat.mod_lt _ (by omega)
      generalize o.toNat % L.length=idx at *
      obtain ⟨y,hy,_⟩:=get_of hix
      obtain ⟨d',n1,n2,n3,n4,n5⟩:=fin idx y hy
      have hrow:=rowsC_get hy
      have hix' : (idx:Int)<(L.length:Int):=by omega
      simp -dsimp -implicitDefEqProofs only [go_sem,seval,hio,h17,ho,hwo,w1,w2,hro,g1,g2,hv,hh,hix',hix,hrow,n1,n2,hz',hz]
      exact ⟨by omega,by simp -dsimp -implicitDefEqProofs only [go_sem,seval,hw],d',n3,n4,n5,by simp -dsimp -implicitDefEqProofs only [go_sem,seval,g1],by simp -dsimp -implicitDefEqProofs only [go_sem,seval]⟩
     ·obtain ⟨y,hy,_⟩:=get_of (show 0<L.length by omega)
      obtain ⟨d',n1,n2,n3,n4,n5⟩:=fin 0 y hy
      have hrow:=rowsC_get hy
      have hix' : (0:Int)<(L.length:Int):=by omega
      have hix:0<L.length:=by omega
      simp -dsimp -implicitDefEqProofs only [go_sem,seval,hio,h17,w1,w2,g1,g2,hv,hh,hix',hix,hrow,n1,n2]
      exact ⟨by omega,by simp -dsimp -implicitDefEqProofs only [go_sem,seval,hw],d',n3,n4,n5,by simp -dsimp -implicitDefEqProofs only [go_sem,seval,g1],by simp -dsimp -implicitDefEqProofs only [go_sem,seval]⟩
  ·have hi2:i=3:=by omega
   subst hi2
   have hb0:bufM d t=[]:=List.eq_nil_of_length_eq_zero (by omega)
   have sm:=sameInts_den d.mem (viewM c t) (by omega)
   rw [decide_eq_true (hend hb0)] at sm
   rw [hb0] at hget
   simp -dsimp -implicitDefEqProofs only [go_sem,seval,hi3,g1,g2,sm,hget]
end Rg
end
