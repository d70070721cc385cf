/- Part of the proof of laws of relyguardlaw36. No condition. -/
import Derived.Test.YtaiokglcgiemnaaGreatDoorCartAN
import Derived.Test.YtaiokglcgiemnaaGreatDoorCartAK
import Derived.Test.YtaiokglcgiemnaaGreatDoorCartAL
set_option linter.unusedSimpArgs false
set_option linter.unusedVariables false
section
namespace Rg
open Go
theorem za0.cells {h:Nat->Option O} {x:Nat} {v:V} {sz:Nat} {rows:List (List V)} (o:za0 h x v sz rows):v.cells=some [v]:=by
 rcases o with⟨rfl,_⟩ | ⟨k,rfl,_,_⟩<;>rfl
def zxz (p:Prog):Config:=
 if zw6 p then⟨p.cells.map Cell.init,p.threads.map fun x=>if x.asleep then -1 else 0,p.threads.map fun _=>[]⟩else⟨[],[],[]⟩
theorem zdJ (h:Nat->Option O): ∀n:Nat,(List.replicate n [V.t .nils]).mapM (fun row=>row.mapM (toT h 999))=some (List.replicate n [T.sl []])
 | 0=>rfl
 | n+1=>by rw[List.replicate_succ,List.replicate_succ,List.mapM_cons,zdJ h n];rfl
theorem zbE {α β:Type} (l:List α) (b:β):List.replicate l.length b=l.map fun _=>b:=by
 induction l with
 | nil=>rfl
 | cons x r ih=>simp[List.replicate_succ,ih]
theorem zjA (p:Prog) (hs:p.sane):Den Γ G 13 [(zP p)]=some (.agg [.t (ints (zxz p).mem),.t (ints (zxz p).at_),.t (.sl ((zxz p).buf.map (fun b=>[.sl (b.map Entry.enc)])))]):=by
 (refine zw3 Γ13 rfl ?_;dsimp only[f13])
 have h1:=ze4 p hs;simp -dsimp only[go_sem,seval,h1];refine zw1 (fun h=> ?_) (fun h=> ?_)<;>(try rw[h])<;>(try simp only[zab]at h)<;>(try simp -dsimp only[go_sem,seval])
 ·simp[zxz,h]
 ·have hf:zw6 p=true:=by assumption
  obtain⟨⟨l1,l2,l3,l4⟩,l5⟩:=zw8 (zw9 hf).1;have A4:(p.threads.length:Int)<=4294967296:=by omega
  simp -dsimp only[go_sem,seval,A4,Int.le_refl];have hN:(p.cells.map Cell.init).length=p.cells.length:=by simp
  refine zap 17179803672 p.cells.length (fun i f h x=>(f 4).v=vi i/\ ∃v0,(f 3).v= .lb/\(f 3).box=some [v0,.t .nils,.ms 8 0 p.threads.length]/\za0 h x v0 1 (zw5 ((p.cells.map Cell.init).take i))/\zdc v0 8/\h 8=some (.rows 1 (List.replicate p.threads.length [.t .nils]) false)/\8<x)
   rfl ⟨by simp -dsimp only[go_sem,seval],.t .nils,by simp -dsimp only[go_sem,seval],by simp -dsimp only[go_sem,seval],.inl ⟨rfl,rfl⟩,(fun i n h=>by cases h),by simp -dsimp only[go_sem,seval],by simp -dsimp only[go_sem,seval]⟩ ?_
  rintro i f u H x bs hi ⟨h4,v0,Ci,BO,Ab,GO,h8,NB⟩;have hw:=zag i (by omega);simp -dsimp only[go_sem,seval,h4];refine zw1 (fun h=> ?_) (fun h=> ?_)<;>(try rw[h])<;>(try simp only[zab]at h)<;>(try simp -dsimp only[go_sem,seval,h4])
  ·obtain⟨c,hc,_⟩:=zad ‹i<p.cells.length›;have Bp:(p.cells.map Cell.init)[i]? =some c.init:=by simp[hc]
   have v1:=Ab.valOf;have v2:=Ab.r2;have v3:=Ab.r3;simp -dsimp only[go_sem,seval,h4,hc,Ci,BO,v1,v2,v3];refine zaM (Ab.upd (by omega) _) (by omega) (by rw[zw2];simp;omega) (by decide) rfl (zxw _) ?_;intro v hp hO Be As;rw[show zw5 ((p.cells.map Cell.init).take i)++[[V.t (ti c.init)]]=zw5 ((p.cells.map Cell.init).take (i+1))from by rw[zac Bp,zaV]]at hO
   have LE:Av (updC H (x+5+8) (some (O.rows 1 [[V.t (ti c.init)]] false))) hp 8=some (.rows 1 (List.replicate p.threads.length [.t .nils]) false):=by
    rw[As 8 (by omega) GO,zae,if_neg (by omega)];exact h8
   have u1:=hO.valOf;have u2:=hO.cells;simp only[V.cells]at u2;simp -dsimp only[go_sem,seval,h4,Ci,BO,u1,u2];refine⟨by omega,by simp -dsimp only[go_sem,seval,hw],v,by simp -dsimp only[go_sem,seval,Ci],by simp -dsimp only[go_sem,seval],?_,Be 8 (by omega),by simp -dsimp only[go_sem,seval,LE],?_⟩
   ·simp -dsimp only[go_sem,seval];exact hO.le (by omega)
   ·simp -dsimp only[go_sem,seval];omega
  ·have:i=p.cells.length:=by omega
   subst this;rw[show(p.cells.map Cell.init).take p.cells.length=p.cells.map Cell.init from List.take_of_length_le (by simp)]at Ab
   generalize Bq:(p.threads.map fun x=>if x.asleep then(-1:Int)else 0)=ats
   have Fo:ats.length=p.threads.length:=by rw[<- Bq];simp
   refine zap 9007182074871912 p.threads.length (fun i f h x=>(f 5).v=vi i/\ ∃v1,(f 3).v= .lb/\(f 3).box=some [v0,v1,.ms 8 0 p.threads.length]/\za0 h x v0 1 (zw5 (p.cells.map Cell.init))/\za0 h x v1 1 (zw5 (ats.take i))/\
    zdc v1 8/\(∀k,k<x-> ¬zdc v0 k->zdc v1 k)/\h 8=some (.rows 1 (List.replicate p.threads.length [.t .nils]) false)/\8<x)
    rfl ⟨by simp -dsimp only[go_sem,seval],.t .nils,by simp -dsimp only[go_sem,seval,Ci],by simp -dsimp only[go_sem,seval,BO],by simp -dsimp only[go_sem,seval];exact Ab.le (by omega),.inl ⟨rfl,rfl⟩,(fun i n h=>by cases h),(fun k _ _ i n h=>by cases h),by simp -dsimp only[go_sem,seval,h8],by simp -dsimp only[go_sem,seval];omega⟩ ?_
   clear h4 hw Ab Ci BO h8 NB;rintro i f u H x bs hi ⟨h5,v1,Ci,BO,FM,Ab,JY,Fp,h8,NB⟩;have hw:=zag i (by omega);simp -dsimp only[go_sem,seval,h5];refine zw1 (fun h=> ?_) (fun h=> ?_)<;>(try rw[h])<;>(try simp only[zab]at h)<;>(try simp -dsimp only[go_sem,seval,h5])
   ·obtain⟨c,hc,_⟩:=zad ‹i<p.threads.length›;have Bp:ats[i]? =some (if c.asleep then(-1:Int)else 0):=by rw[<- Bq];simp[hc]
    have w1:=Ab.valOf;have w2:=Ab.r2;have w3:=Ab.r3;have w4:=Ab.r4;have w5:=Ab.r5;simp -dsimp only[go_sem,seval,h5,hc];cases DU:c.asleep
    all_goals(
     rw[DU]at Bp;simp only[if_true,zG,if_false]at Bp;simp -dsimp only[go_sem,seval,h5,Ci,BO,w1,w2,w3,w4,w5];refine zaM (Ab.upd (by omega) _) (by omega) (by rw[zw2];simp;omega) (by decide) rfl (zxw _) ?_;intro v hp hO Be As;rw[<- zaV,<- zac Bp]at hO;have u1:=hO.valOf;have u2:=hO.cells;simp only[V.cells]at u2;have LE:=As 8 (by omega) JY;rw[zae,if_neg (by omega),h8]at LE;have Ih:=FM.keep (y:=x) (Nat.le_refl _) (fun k hk h0=>(As k (by omega) (Fp k hk h0)).trans (by rw[zae,if_neg (by omega)]));simp -dsimp only[go_sem,seval,h5,Ci,BO,u1,u2];refine⟨by omega,by simp -dsimp only[go_sem,seval,hw],v,by simp -dsimp only[go_sem,seval,Ci],by simp -dsimp only[go_sem,seval],by simp -dsimp only[go_sem,seval];exact Ih.le (by omega),?_,Be 8 (by omega),?_,by simp -dsimp only[go_sem,seval,LE],by simp -dsimp only[go_sem,seval];omega⟩
     ·simp -dsimp only[go_sem,seval];exact hO.le (by omega)
     ·intro k hk h0
      by_cases MB:k<x
      ·exact Be k (by omega)
      ·exact absurd (FM.off (by omega)) h0)
   ·have:i=p.threads.length:=by omega
    subst this;rw[show ats.take p.threads.length=ats from List.take_of_length_le (by omega)]at Ab;have t0:=zbS FM (zxU _);have t1:=zbS Ab (zxU _);have t2:List.take p.threads.length (List.replicate p.threads.length [V.t .nils])=List.replicate p.threads.length [V.t .nils]:=List.take_of_length_le (by simp);have t3:=zdJ H p.threads.length;simp -dsimp only[go_sem,seval,Ci,BO,t0,t1,t2,t3,h8,List.length_replicate,Nat.le_refl];simp[zxz,hf,Bq,zbE]
end Rg
end
section
namespace Rg
open Go
def zyA (l:List Int) (i:Nat):List Int:=l.take i++List.replicate (l.length-i) 0
theorem zjg (l:List Int):zyA l 0=List.replicate l.length 0:=by simp[zyA]
theorem zfZ (l:List Int):zyA l l.length=l:=by simp[zyA]
theorem zfY (l:List Int) {i:Nat} (h:i<=l.length):(zyA l i).length=l.length:=by simp[zyA];omega
theorem zfX {l:List Int} {i:Nat} {x:Int} (h:l[i]? =some x):(zyA l i).set i x=zyA l (i+1):=by
 have hi:i<l.length:=(zH.1 h).1;apply List.ext_getElem?;intro j;simp only[zyA];rw[List.getElem?_set];have Ai:(l.take i).length=i:=by simp;omega
 have A9:(l.take (i+1)).length=i+1:=by simp;omega
 by_cases hj:i=j
 ·subst hj;have Ac:i<(l.take i++List.replicate (l.length-i) 0).length:=by simp;omega
  rw[if_pos rfl,if_pos Ac,List.getElem?_append_left (by omega),zO,if_pos (by omega),h]
 ·rw[if_neg hj]
  by_cases Hy:j<i
  ·rw[List.getElem?_append_left (by omega),List.getElem?_append_left (by omega),zO,zO,if_pos Hy,if_pos (by omega)]
  ·rw[List.getElem?_append_right (by omega),List.getElem?_append_right (by omega),Ai,A9,List.getElem?_replicate,List.getElem?_replicate]
   by_cases NX:j<l.length
   ·rw[if_pos (by omega),if_pos (by omega)]
   ·rw[if_neg (by omega),if_neg (by omega)]
theorem zio {l:List Int} {i:Nat} (h:l[i]? =some 0):zyA l i=zyA l (i+1):=by
 have hi:i<l.length:=(zH.1 h).1;simp only[zyA,zac h];rw[zQ,show l.length-i=(l.length-(i+1))+1 by omega,List.replicate_succ];rfl
theorem zaD (l:List Int) (i:Nat) (x:Int):(zw5 l).set i [vi x]=zw5 (l.set i x):=by simp[zw5,List.map_set]
theorem zg2 (n:Nat):zw5 (List.replicate n 0)=List.replicate n [vi 0]:=by simp[zw5]
theorem zaE {l:List Int} {i:Nat} (h:i<l.length):(zw5 l)[i]? =some [vi l[i]]:=by simp[zw5,h]
theorem zaL (h:Nat->Option O) (d:Nat) (l:List Int):(zw5 l).mapM (fun row=>row.mapM (toT h d))=some (l.map fun n=>[ti n]):=zdD h d (l.map fun n=>[ti n]) (zxU _)
theorem zjB (p:Prog) (hs:p.sane):Den Γ G 12 [(zP p)]=some (.agg [.t (ints (zxz p).mem),.t (ints (zxz p).at_),.t (.sl ((zxz p).buf.map (fun b=>[.sl (b.map Entry.enc)])))]):=by
 (refine zw3 Γ12 rfl ?_;dsimp only[f12])
 have h1:=zcz p hs;simp -dsimp only[go_sem,seval,h1];refine zw1 (fun h=> ?_) (fun h=> ?_)<;>(try rw[h])<;>(try simp only[zab]at h)<;>(try simp -dsimp only[go_sem,seval])
 ·simp[zxz,h]
 ·have hf:zw6 p=true:=by assumption
  obtain⟨⟨l1,l2,l3,l4⟩,l5⟩:=zw8 (zw9 hf).1;have A4:(p.threads.length:Int)<=4294967296:=by omega
  have GS:(p.cells.length:Int)<=4294967296:=by omega
  generalize ED:p.cells.map Cell.init=mems
  have Iw:mems.length=p.cells.length:=by rw[<- ED];simp
  generalize Bq:(p.threads.map fun x=>if x.asleep then(-1:Int)else 0)=ats
  have Fo:ats.length=p.threads.length:=by rw[<- Bq];simp
  simp -dsimp only[go_sem,seval,A4,GS,Int.le_refl];have r1:=zg2 p.cells.length;have r2:=zg2 p.threads.length
  refine zap 1099444518928 p.cells.length (fun i f h x=>(f 26).v=vi i/\h 8=some (.rows 1 (zw5 (zyA mems i)) false)/\h 12=some (.rows 1 (zw5 (List.replicate p.threads.length 0)) false)/\h 16=some (.rows 1 (List.replicate p.threads.length [.t .nils]) false))
   rfl ⟨by simp -dsimp only[go_sem,seval],by simp -dsimp only[go_sem,seval];rw[zjg,Iw,r1],by simp -dsimp only[go_sem,seval];rw[r2],by simp -dsimp only[go_sem,seval]⟩ ?_
  rintro i f u H x bs hi ⟨Jf,g8,g12,g16⟩;have hw:=zag i (by omega);simp -dsimp only[go_sem,seval,Jf];refine zw1 (fun h=> ?_) (fun h=> ?_)<;>(try rw[h])<;>(try simp only[zab]at h)<;>(try simp -dsimp only[go_sem,seval,Jf])
  ·obtain⟨c,hc,_⟩:=zad ‹i<p.cells.length›;have Bp:mems[i]? =some c.init:=by rw[<- ED];simp[hc]
   have H5:=zfY mems (i:=i) (by omega);have Bu:=zaE (l:=zyA mems i) (i:=i) (by omega);have AB:=zaD (zyA mems i) i c.init;rw[zfX Bp]at AB;have Cb:i<p.cells.length:=by assumption
   simp -dsimp only[go_sem,seval,Jf,hc,g8,Bu,Cb];refine⟨by omega,by simp -dsimp only[go_sem,seval,hw],?_,?_,?_⟩
   ·simp -dsimp only[go_sem,seval,AB]
   ·simp -dsimp only[go_sem,seval,g12]
   ·simp -dsimp only[go_sem,seval,g16]
  ·have:i=p.cells.length:=by omega
   subst this;rw[<- Iw,zfZ]at g8
   refine zap 144106391982833696 p.threads.length (fun i f h x=>(f 43).v=vi i/\h 8=some (.rows 1 (zw5 mems) false)/\h 12=some (.rows 1 (zw5 (zyA ats i)) false)/\h 16=some (.rows 1 (List.replicate p.threads.length [.t .nils]) false))
    rfl ⟨by simp -dsimp only[go_sem,seval],by simp -dsimp only[go_sem,seval,g8],by simp -dsimp only[go_sem,seval,g12,zjg,Fo],by simp -dsimp only[go_sem,seval,g16]⟩ ?_
   clear Jf g8 g12 g16 hw;rintro i f u H x bs hi ⟨Ld,g8,g12,g16⟩;have hw:=zag i (by omega);simp -dsimp only[go_sem,seval,Ld];refine zw1 (fun h=> ?_) (fun h=> ?_)<;>(try rw[h])<;>(try simp only[zab]at h)<;>(try simp -dsimp only[go_sem,seval,Ld])
   ·obtain⟨c,hc,_⟩:=zad ‹i<p.threads.length›;have Bp:ats[i]? =some (if c.asleep then(-1:Int)else 0):=by rw[<- Bq];simp[hc]
    have H5:=zfY ats (i:=i) (by omega);have Bu:=zaE (l:=zyA ats i) (i:=i) (by omega);have Cb:i<p.threads.length:=by assumption
    simp -dsimp only[go_sem,seval,Ld,hc];cases DU:c.asleep
    ·rw[DU]at Bp;have hz:=zio (l:=ats) (i:=i) (by simpa using Bp);simp -dsimp only[go_sem,seval,Ld];refine⟨by omega,by simp -dsimp only[go_sem,seval,hw],by simp -dsimp only[go_sem,seval,g8],by simp -dsimp only[go_sem,seval,g12,hz],by simp -dsimp only[go_sem,seval,g16]⟩
    ·rw[DU]at Bp;have AB:=zaD (zyA ats i) i (-1);rw[zfX (by simpa using Bp)]at AB;simp -dsimp only[go_sem,seval,Ld,g12,Bu,Cb];refine⟨by omega,by simp -dsimp only[go_sem,seval,hw],by simp -dsimp only[go_sem,seval,g8],by simp -dsimp only[go_sem,seval,AB],by simp -dsimp only[go_sem,seval,g16]⟩
   ·have:i=p.threads.length:=by omega
    subst this;rw[<- Fo,zfZ]at g12;have t2:List.take p.threads.length (List.replicate p.threads.length [V.t .nils])=List.replicate p.threads.length [V.t .nils]:=List.take_of_length_le (by simp);have t3:=zdJ H p.threads.length;have t4:List.take p.cells.length (zw5 mems)=zw5 mems:=List.take_of_length_le (by rw[zw2];omega);have t5:List.take p.threads.length (zw5 ats)=zw5 ats:=List.take_of_length_le (by rw[zw2];omega);have t6:=zaL H 999 mems;have t7:=zaL H 999 ats;simp -dsimp only[go_sem,seval,t2,t3,t4,t5,t6,t7,g8,g12,g16,List.length_replicate,Nat.le_refl,zw2,Iw,Fo];simp[zxz,hf,Bq,ED,zbE]
end Rg
end
section
-- FULL
namespace Rg
open Go
def zbh (p:Prog) (t:Int):Int:=match p.threads[t.toNat]? with
 | some x=>x.points
 | none=>0
def zxX (p:Prog) (c:Config) (t:Int) (s:Step):Bool:=
 decide (atI c.at_ t=s.fr)&&decide (s.guard.eval c.mem c.mem=1)&&
  (if s.kind=6 then decide (atI c.at_ s.target= -1)else if s.kind=7 then decide (atI c.at_ s.target=zbh p s.target-1)else true)
structure StepOk (p:Prog) (t:Int) (x:Thread) (s:Step):Prop where
 kind:1<=s.kind/\s.kind<=7
 fr:0<=s.fr/\s.fr<x.points-1
 to:0<=s.to/\s.to<x.points
 rng:zfk p s
 row:zxJ p t s=true
 tgt:s.kind=6\/s.kind=7->inR s.target p.threads.length=true/\s.target≠t
 wid: ∀a∈s.set,∃y,p.cells[a.cell.toNat]? =some y/\a.to.w=y.w
 dif: ∀(i j:Nat) (a b:Assign),s.set[i]? =some a->s.set[j]? =some b->a.cell=b.cell->i=j
theorem zfC {p:Prog} {set:List Assign}: ∀{l:List Assign} {i:Nat},(zx7 (zxH p set) i l).1=0-> ∀a∈l,∃y,p.cells[a.cell.toNat]? =some y/\a.to.w=y.w
 | [],_,_,a,ha=>by simp at ha
 | x::r,i,h,a,ha=>by
   rw[zx7]at h;split at h
   ·rename_i h0;rcases List.mem_cons.1 ha with rfl | ha
    ·unfold zxH at h0;split at h0
     ·simp at h0
     ·split at h0
      ·simp at h0
      ·rename_i h2;simp only[Bool.or_eq_true,not_or,Bool.not_eq_true',Bool.not_eq_false]at h2;have:=h2.2;unfold zaO at this;rcases hy:p.cells[a.cell.toNat]? with _ | y
       ·rw[hy]at this;simp at this
       ·rw[hy]at this;exact⟨y,rfl,by simpa using this⟩
    ·exact zfC h a ha
   ·rename_i h0;exact absurd h h0
theorem zfD {p:Prog} {set:List Assign}: ∀{l:List Assign} {i:Nat},set.drop i=l->(zx7 (zxH p set) i l).1=0-> ∀(j:Nat) (a:Assign),i<=j->set[j]? =some a->(set.take j).any (fun b=>decide (b.cell=a.cell))=false
 | [],i,hd,_,j,a,At,ha=>by
   have:set.length<=i:=by simpa using hd
   have:=(zH.1 ha).1
   omega
 | x::r,i,hd,h,j,a,At,ha=>by
   rw[zx7]at h
   have NA:set[i]? =some x:=by
    have:=congrArg (·[0]?) hd;simpa using this
   have Gj:set.drop (i+1)=r:=by
    have:=zbC NA;rw[hd]at this;exact(List.cons.inj this).2.symm
   split at h
   ·rename_i h0
    by_cases hj:j=i
    ·subst hj;rw[NA]at ha;cases ha;unfold zxH at h0;split at h0
     ·simp at h0
     ·rename_i h1;simp only[Bool.or_eq_true,not_or,Bool.not_eq_true]at h1;exact h1.2
    ·exact zfD Gj h j a (by omega) ha
   ·rename_i h0;exact absurd h h0
theorem zkt {p:Prog} {t:Int} {x:Thread} {s:Step} (h:zxm p t x.points s=0):StepOk p t x s:=by
 unfold zxm at h;split at h
 ·simp at h
 ·rename_i hb;split at h
  ·simp at h
  ·rename_i hg;split at h
   ·rename_i h0;exact absurd h h0
   ·rename_i hs;split at h
    ·rename_i hk;have hs:(zx7 (zxH p s.set) 0 s.set).1=0:=by simpa using hs
     have Bi:zbN p x.points s=false:=by simpa using hb
     simp only[zbN,Bool.or_eq_false_iff,Bool.and_eq_false_iff,Bool.not_eq_false',decide_eq_false_iff_not]at Bi;obtain⟨⟨⟨⟨⟨⟨b1,b2⟩,b3⟩,b4⟩,b5⟩,b6⟩,b7⟩:=Bi;simp only[inR,decide_eq_true_eq]at b3 b4;simp only[Bool.or_eq_true,not_or,Bool.not_eq_true',Bool.not_eq_false,decide_eq_true_eq]at hg;refine⟨by omega,b3,b4,⟨hg.1,zbX (set:=s.set) hs⟩,hk,fun OZ=> ?_,zfC hs,fun i j a b ha hb DV=> ?_⟩
     ·rw[zxJ,if_neg (by omega),if_neg (by omega),if_neg (by omega),if_neg (by omega),if_neg (by omega)]at hk
      have hj:zyz p t s=true:=by
       split at hk
       ·simp only[zF]at hk;exact hk.1
       ·exact hk
      simp only[zyz,zF,decide_eq_true_eq]at hj;exact⟨hj.2,hj.1.2⟩
     ·have key: ∀(i j:Nat) (a b:Assign),s.set[i]? =some a->s.set[j]? =some b->a.cell=b.cell-> ¬i<j:=fun i j a b ha hb DV Ai=>by
       have:=zfD (i:=0) rfl hs j b (by omega) hb;rw[zyc ha Ai (by simpa using DV)]at this;simp at this
      have h1:=key i j a b ha hb DV;have h2:=key j i b a hb ha DV.symm;omega
    ·simp at h
theorem zgS {p:Prog}: ∀{l:List Thread} {i:Nat},zyW p i l=(0,-1,-1)-> ∀(j:Nat) (x:Thread),l[j]? =some x->(zxa p (i+j) x).1=0
 | [],_,_,j,x,hx=>by simp at hx
 | y::r,i,h,j,x,hx=>by
   rw[zyW]at h;split at h
   ·rename_i h0
    cases j with
    | zero=>simp at hx;subst hx;exact h0
    | succ j=>
      have:=zgS h j x (by simpa using hx);rw[show i+(j+1)=i+1+j by omega];exact this
   ·rename_i h0;exact absurd (congrArg Prod.fst h) h0
theorem zzG {p:Prog} (hf:zw6 p=true) {t:Nat} {x:Thread} (hx:p.threads[t]? =some x):(zxa p t x).1=0:=by
 have:=zgS (zw9 hf).2.2.2.2 t x hx;simpa using this
theorem zCj {α:Type} {f:Nat->α->Int}: ∀{l:List α} {i:Nat},(zx7 f i l).1=0-> ∀(j:Nat) (x:α),l[j]? =some x->f (i+j) x=0
 | [],_,_,j,x,hx=>by simp at hx
 | y::r,i,h,j,x,hx=>by
   rw[zx7]at h;split at h
   ·rename_i h0
    cases j with
    | zero=>simp at hx;subst hx;exact h0
    | succ j=>
      have:=zCj h j x (by simpa using hx);rw[show i+(j+1)=i+1+j by omega];exact this
   ·rename_i h0;exact absurd h h0
theorem zzT {p:Prog} {t:Nat} {x:Thread} (h:(zxa p t x).1=0):1<=x.points/\(x.asserts.length:Int)=x.points/\(x.modules.length:Int)=x.points/\(zx7 (fun _ s=>zxm p t x.points s) 0 x.steps).1=0:=by
 unfold zxa at h;split at h
 ·simp at h
 ·split at h
  ·simp at h
  ·split at h
   ·simp at h
   ·rename_i h1;split at h
    ·simp at h
    ·split at h
     ·simp at h
     ·split at h
      ·rename_i h0;exact absurd h h0
      ·rename_i h0;exact⟨by omega,by omega,by omega,by simpa using h0⟩
theorem za4 {p:Prog} (hf:zw6 p=true) {t i:Nat} {x:Thread} {s:Step} (hx:p.threads[t]? =some x) (hs:x.steps[i]? =some s):StepOk p t x s:=by
 have h1:=(zzT (zzG hf hx)).2.2.2;exact zkt (zCj h1 i s hs)
end Rg
end
section
-- FULL
namespace Rg
open Go
theorem znM {p:Prog} {c:Config} (h:isM p c=true):c.mem.length=p.cells.length/\c.at_.length=p.threads.length/\c.buf.length=p.threads.length:=by
 simp only[isM,zzP,zF,decide_eq_true_eq]at h;exact⟨h.1.1.1.1.1,h.1.1.1.1.2,h.1.2⟩
theorem zlA (p:Prog) (c:Config) (t:Int) (y:Thread) (a:Int) (h0:0<=t) (ha:c.at_[t.toNat]? =some a) (hy:p.threads[t.toNat]? =some y) (P9: -2^40<y.points/\y.points<2^40):Den Γ G 21 [(zP p),(.agg [.t (ints (c).mem),.t (ints (c).at_),.t (.sl ((c).buf.map (fun b=>[.sl (b.map Entry.enc)])))]),vi t]=some (vb (decide (a=y.points-1))):=by
 (refine zw3 Γ21 rfl ?_;dsimp only[f21])
 have hw:IntKind.i64.wrap (y.points-1)=y.points-1:=zaj (by omega);simp -dsimp [go_sem,h0,ha,hy,hw]
theorem zb9 {l:List Int} {n:Int} {a:Int} (h:l[n.toNat]? =some a):atI l n=a:=by simp[atI,List.getD,h]
theorem zbe {p:Prog} (hf:zw6 p=true) {t:Nat} {x:Thread} (hx:p.threads[t]? =some x):1<=x.points/\x.points<=48:=
 ⟨(zzT (zzG hf hx)).1,((zw8 (zw9 hf).1).2 x (zL hx)).1⟩
theorem zhC (p:Prog) (hf:zw6 p=true) (c:Config) (hc:isM p c=true) (t:Nat) (x:Thread) (hx:p.threads[t]? =some x) (i:Nat) (s:Step) (hs:x.steps[i]? =some s):
 Den Γ G 67 [(zP p),(.agg [.t (ints (c).mem),.t (ints (c).at_),.t (.sl ((c).buf.map (fun b=>[.sl (b.map Entry.enc)])))]),vi t,vi i]=some (vb (zxX p c t s)):=by
 obtain⟨l1,l2,l3⟩:=znM hc;have Bc:=za4 hf hx hs;have Dv:t<p.threads.length:=(zH.1 hx).1;obtain⟨a,ha,_⟩:=zad (show t<c.at_.length by omega);have F3:atI c.at_ t=a:=zb9 (by simpa using ha);have Aj:=zbT s.guard c.mem c.mem
 (refine zw3 Γ67 rfl ?_;dsimp only[f67])
 by_cases h1:a=s.fr
 ·by_cases h2:s.guard.eval c.mem c.mem=1
  ·have hE:zxX p c t s=(if s.kind=6 then decide (atI c.at_ s.target= -1)else if s.kind=7 then decide (atI c.at_ s.target=zbh p s.target-1)else true):=by
    simp[zxX,F3,h1,h2]
   rw[h2]at Aj;rw[hE]
   by_cases hk:s.kind=6\/s.kind=7
   ·obtain⟨hr,_⟩:=Bc.tgt hk;simp only[inR,decide_eq_true_eq]at hr;obtain⟨b,hb,_⟩:=zad (show s.target.toNat<c.at_.length by omega);obtain⟨y,hy,_⟩:=zad (show s.target.toNat<p.threads.length by omega);have Lh:=zbe hf hy;have hw:IntKind.i64.wrap (y.points-1)=y.points-1:=zaj (by omega);have Bi:=zb9 hb;have FL:zbh p s.target=y.points:=by simp[zbh,hy]
    rcases hk with hk | hk
    ·simp -dsimp [go_sem,hx,hs,ha,h1,Aj,hk,hr.1,hb,Bi]
    ·simp -dsimp [go_sem,hx,hs,ha,h1,Aj,hk,hr.1,hb,hy,hw,Bi,FL]
   ·have k6: ¬s.kind=6:=by omega
    have k7: ¬s.kind=7:=by omega
    simp -dsimp [go_sem,hx,hs,ha,h1,Aj,k6,k7]
  ·have hE:zxX p c t s=false:=by simp[zxX,h2]
   rw[hE];simp -dsimp [go_sem,hx,hs,ha,h1,Aj,h2]
 ·have hE:zxX p c t s=false:=by simp[zxX,F3,h1]
  rw[hE];simp -dsimp [go_sem,hx,hs,ha,h1]
def zyo (p:Prog) (c:Config) (t:Nat) (x:Thread) (i:Nat):List Choice:=
 (x.steps.take i).zipIdx.filterMap fun q=>if zxX p c t q.1 then some ⟨t,q.2,0⟩else none
def zya (p:Prog) (c:Config) (i:Nat):List Choice:=(p.threads.take i).zipIdx.flatMap fun q=>zyo p c q.2 q.1 q.1.steps.length
def zxP (p:Prog) (c:Config):List Choice:=zya p c p.threads.length
theorem zbL {α:Type} {l:List α} {i:Nat} {x:α} (h:l[i]? =some x):(l.take (i+1)).zipIdx=(l.take i).zipIdx++[(x,i)]:=by
 have hi:i<l.length:=(zH.1 h).1;rw[zac h,List.zipIdx_append];simp;omega
theorem zgD {p:Prog} {c:Config} {t:Nat} {x:Thread} {i:Nat} {s:Step} (h:x.steps[i]? =some s):
 zyo p c t x (i+1)=zyo p c t x i++(if zxX p c t s then [⟨t,i,0⟩]else []):=by
 unfold zyo;rw[zbL h,List.filterMap_append]
 congr 1
 cases hh:zxX p c t s<;>simp[hh]
theorem zdM {p:Prog} {c:Config} {i:Nat} {x:Thread} (h:p.threads[i]? =some x):zya p c (i+1)=zya p c i++zyo p c i x x.steps.length:=by
 unfold zya;rw[zbL h,List.flatMap_append];simp
theorem zem (p:Prog) (c:Config) (t:Nat) (x:Thread) (i:Nat):(zyo p c t x i).length<=i:=by
 unfold zyo;refine Nat.le_trans (List.length_filterMap_le _ _) ?_;simp;omega
theorem zcS {p:Prog} (hf:zw6 p=true) (c:Config): ∀i:Nat,(zya p c i).length<=64*i
 | 0=>by simp[zya]
 | i+1=>by
   have ih:=zcS hf c i;rcases hx:p.threads[i]? with _ | x
   ·have:p.threads.length<=i:=by simpa using hx
    have e:zya p c (i+1)=zya p c i:=by
     unfold zya;rw[List.take_of_length_le (by omega),List.take_of_length_le (by omega)]
    rw[e];omega
   ·have h1:=((zw8 (zw9 hf).1).2 x (zL hx)).2.1;have h2:=zem p c i x x.steps.length;rw[zdM hx,zM];omega
def zzB (l:List Choice):List (List V):=(l.map Choice.enc).map (·.map V.t)
theorem zdE (l:List Choice):(zzB l).length=l.length:=by simp[zzB]
theorem zdF (l:List Choice) (c:Choice):zzB (l++[c])=zzB l++[[vi c.thread,vi c.step,vi c.cell]]:=by simp[zzB,Choice.enc]
theorem zzA (l:List Choice):((zzB l).all fun r=>decide (r.length=3))=true:=by simp[zzB,Choice.enc]
theorem zzx (l:List Choice): ∀e∈l.map Choice.enc,∀t∈e,T.norm t=t:=by
 intro e he t ht;obtain⟨n,_,rfl⟩:=List.mem_map.1 he;simp[Choice.enc]at ht;rcases ht with rfl | rfl | rfl<;>rfl
theorem zhH (p:Prog) (hf:zw6 p=true) (c:Config) (hc:isM p c=true):Den Γ G 44 [(zP p),(.agg [.t (ints (c).mem),.t (ints (c).at_),.t (.sl ((c).buf.map (fun b=>[.sl (b.map Entry.enc)])))])]=some (.t (.sl ((zxP p c).map Choice.enc))):=by
 (refine zw3 Γ44 rfl ?_;dsimp only[f44])
 obtain⟨⟨l1,l2,l3,l4⟩,l5⟩:=zw8 (zw9 hf).1;simp -dsimp only[go_sem,seval];refine zap 137438951648 p.threads.length (fun i f h x=>(f 11).v=vi i/\za0 h x (f 5).v 3 (zzB (zya p c i))) rfl ⟨by simp -dsimp only[go_sem,seval],.inl ⟨by simp -dsimp only[go_sem,seval],rfl⟩⟩ ?_;rintro i f u H x bs hi ⟨Bf,Ab⟩;have hw:=zag i (by omega);simp -dsimp only[go_sem,seval,Bf];refine zw1 (fun h=> ?_) (fun h=> ?_)<;>(try rw[h])<;>(try simp only[zab]at h)<;>(try simp -dsimp only[go_sem,seval,Bf])
 ·obtain⟨t,ht,HS⟩:=zad ‹i<p.threads.length›;obtain⟨_,AB,_⟩:=l5 t HS;simp -dsimp only[go_sem,seval,Bf,ht];refine zap 68717379744 t.steps.length (fun j f' h x=>(f' 21).v=vi j/\za0 h x (f' 5).v 3 (zzB (zya p c i++zyo p c i t j))) rfl ⟨by simp -dsimp only[go_sem,seval],by simp -dsimp only[go_sem,seval,zyo,List.take_zero,List.zipIdx_nil,List.filterMap_nil,List.append_nil];exact Ab.le (by omega)⟩ ?_;clear Ab;rintro j f' u' H' x' bs' hj ⟨J3,Ab⟩;have Ay:=zag j (by omega);simp -dsimp only[go_sem,seval,J3];refine zw1 (fun h=> ?_) (fun h=> ?_)<;>(try rw[h])<;>(try simp only[zab]at h)<;>(try simp -dsimp only[go_sem,seval,J3,Bf])
  ·obtain⟨s,hs,HW⟩:=zad ‹j<t.steps.length›;have Dp:=zhC p hf c hc i t ht j s hs;have AR:=zgD (p:=p) (c:=c) (t:=i) hs;have AZ:=zcS hf c i;have Cz:=zem p c i t j;simp -dsimp only[go_sem,seval,J3,Bf,Dp];refine zw1 (fun h=> ?_) (fun h=> ?_)<;>(try rw[h])<;>(try simp only[zab]at h)<;>(try simp -dsimp only[go_sem,seval,J3,Bf])
   ·rw[h]at AR;have v1:=Ab.valOf;have v2:=Ab.r2;have v3:=Ab.r3;have v4:=Ab.r4;have v5:=Ab.r5;simp -dsimp only[go_sem,seval,J3,Bf,v1,v2,v3,v4,v5];refine zaM (Ab.upd (by omega) _) (by omega) (by rw[zdE,zM];omega) (by decide) rfl (zzA _) ?_;intro v hp hO Be As;have w1:=hO.valOf;simp -dsimp only[go_sem,seval,w1,J3];refine⟨by omega,by simp -dsimp only[go_sem,seval,Ay],?_⟩;simp -dsimp only[go_sem,seval,AR,if_true];rw[<- zQ,zdF];exact hO.le (by omega)
   ·rw[h]at AR;refine⟨by omega,by simp -dsimp only[go_sem,seval,Ay],?_⟩;simp -dsimp only[go_sem,seval,AR,List.append_nil,zG,if_false];exact Ab.le (by omega)
  ·have:j=t.steps.length:=by omega
   subst this;refine⟨by omega,by simp -dsimp only[go_sem,seval,hw],?_⟩;simp -dsimp only[go_sem,seval];rw[zdM ht];exact Ab.le (by omega)
 ·have:i=p.threads.length:=by omega
  subst this;have v1:=Ab.valOf;have Bk:=Ab.reify (zzx _);have v5:=Ab.resVal;simp only[Rg.resVal]at v5;simp -dsimp only[go_sem,seval,v1,v5];exact Bk
def zC5 (l:List Choice) (x:Choice):Bool:=l.any fun y=>decide (y=x)
theorem zhI (a b:Choice):(decide (a.thread=b.thread)&&(decide (a.step=b.step)&&decide (a.cell=b.cell)))=decide (a=b):=by
 cases a;cases b;simp only[Choice.mk.injEq];simp
theorem zoA (l:List Choice) (x:Choice) (hl:l.length<2^40):Den Γ G 20 [.t (.sl (l.map Choice.enc)),(.agg [.t (ti (x).thread),.t (ti (x).step),.t (ti (x).cell)])]=some (vb (zC5 l x)):=by
 (refine zw3 Γ20 rfl ?_;dsimp only[f20])
 simp -dsimp only[go_sem,seval];refine zaq 262128 l.length (fun i f=>(f 5).v=vi i/\zC5 l x=(l.drop i).any fun y=>decide (y=x)) rfl rfl ⟨by simp -dsimp only[go_sem,seval],rfl⟩ ?_;rintro i f u kk bb hi ⟨h5,A3⟩;have hw:=zag i (by omega);simp -dsimp only[go_sem,seval,h5];refine zw1 (fun h=> ?_) (fun h=> ?_)<;>(try rw[h])<;>(try simp only[zab]at h)<;>(try simp -dsimp only[go_sem,seval,h5])
 ·obtain⟨y,hy,_⟩:=zad ‹i<l.length›;have he:=zhI y x;simp -dsimp only[go_sem,seval,h5,hy,he,Bool.bne_false];refine zw1 (fun h=> ?_) (fun h=> ?_)<;>(try rw[h])<;>(try simp only[zab]at h)<;>(try simp -dsimp only[go_sem,seval,h5])
  ·rw[A3,zgG hy (by simpa using h)]
  ·refine⟨by omega,by simp -dsimp only[go_sem,seval,hw],?_⟩;rw[A3,zgH hy (by simpa using h)]
 ·have:i=l.length:=by omega
  subst this;rw[A3,ziE]
def zxh (mem view:List Int) (set:List Assign):List Int:=set.foldl (fun m a=>m.set a.cell.toNat (a.to.eval view view)) mem
theorem zaS (view:List Int): ∀(set:List Assign) (mem:List Int),(zxh mem view set).length=mem.length
 | [],mem=>rfl
 | a::r,mem=>by
   have:=zaS view r (mem.set a.cell.toNat (a.to.eval view view));simpa[zxh]using this
theorem zdS {mem view:List Int} {set:List Assign} {i:Nat} {a:Assign} (h:set[i]? =some a):zxh mem view (set.take (i+1))=(zxh mem view (set.take i)).set a.cell.toNat (a.to.eval view view):=by
 unfold zxh;rw[zac h,List.foldl_append];rfl
theorem zjt (mem view:List Int) (set:List Assign) (hm:mem.length<2^31) (hs:set.length<2^48) (Ar: ∀a∈set,0<=a.cell/\a.cell<mem.length):
 Den Γ G 66 [.t (ints mem),.t (ints view),.t (.sl (set.map Assign.enc))]=some (.t (ints (zxh mem view set))):=by
 (refine zw3 Γ66 rfl ?_;dsimp only[f66])
 simp -dsimp only[go_sem,seval];have Jy:=zeD mem hm (fun _=>none) 0;obtain⟨r,h',n',C1,Ab,_,_⟩:=Jy;refine zd0 (es:=mem.map fun n=>[ti n]) rfl rfl ⟨r,h',n',C1,Ab⟩ ?_;clear C1 Ab;intro v hp Ab _ _;have v1:=Ab.valOf;simp -dsimp only[go_sem,seval,v1];refine zap 4294965504 set.length (fun i f h x=>(f 8).v=vi i/\za0 h x v 1 (zw5 (zxh mem view (set.take i)))) rfl ⟨by simp -dsimp only[go_sem,seval],by simp -dsimp only[go_sem,seval];exact Ab.le (by omega)⟩ ?_;clear Ab;rintro i f u H x bs hi ⟨h8,Ab⟩;have hw:=zag i (by omega);simp -dsimp only[go_sem,seval,h8];refine zw1 (fun h=> ?_) (fun h=> ?_)<;>(try rw[h])<;>(try simp only[zab]at h)<;>(try simp -dsimp only[go_sem,seval,h8])
 ·obtain⟨a,ha,Cj⟩:=zad ‹i<set.length›;obtain⟨c0,c1⟩:=Ar a Cj;have Aj:=ze9 a.to view view;have Ac:(zxh mem view (set.take i)).length=mem.length:=zaS view _ mem;rcases Ab with⟨_,he⟩ | ⟨k,rfl,hk,hh⟩
  ·exfalso;have:(zw5 (zxh mem view (set.take i))).length=0:=by rw[he];rfl
   rw[zw2]at this;omega
  ·have Ai:a.cell<(((zw5 (zxh mem view (set.take i))).length:Nat):Int):=by rw[zw2];omega
   have Bu:=zaE (l:=zxh mem view (set.take i)) (i:=a.cell.toNat) (by omega);have AB:=zaD (zxh mem view (set.take i)) a.cell.toNat (a.to.eval view view);rw[<- zdS ha]at AB;simp -dsimp only[go_sem,seval,h8,ha,Aj,c0,Ai,hh,Bu];refine⟨by omega,by simp -dsimp only[go_sem,seval,hw],.inr ⟨k,?_,by simp -dsimp only[go_sem,seval];omega,?_⟩⟩
   ·rw[zw2,zw2,Ac,zaS]
   ·simp -dsimp only[go_sem,seval,AB]
 ·have:i=set.length:=by omega
  subst this;rw[List.take_length]at Ab;have Bk:=Ab.reify (zxU _);have v5:=Ab.resVal;simp only[Rg.resVal]at v5;simp -dsimp only[go_sem,seval,v1,v5];exact Bk
theorem zel {p:Prog} {c:Config} {t:Nat} {x:Thread} {n:Nat} {y:Choice}:y∈zyo p c t x n<-> ∃i s,i<n/\x.steps[i]? =some s/\zxX p c t s=true/\y=⟨t,i,0⟩:=by
 unfold zyo;rw[List.mem_filterMap];constructor
 ·rintro⟨⟨s,i⟩,hm,h⟩;rw[List.mem_zipIdx_iff_getElem?]at hm;simp only at hm;rw[zO]at hm;split at hm
  ·rename_i hi;split at h
   ·rename_i he;simp only[zA]at h;exact⟨i,s,hi,hm,he,h.symm⟩
   ·simp at h
  ·simp at hm
 ·rintro⟨i,s,hi,hs,he,rfl⟩;refine⟨(s,i),?_,by simp[he]⟩;rw[List.mem_zipIdx_iff_getElem?];simp only;rw[zO,if_pos hi];exact hs
theorem zdv {p:Prog} {c:Config} {y:Choice}:y∈zxP p c<-> ∃(t:Nat) (x:Thread) (i:Nat) (s:Step),p.threads[t]? =some x/\x.steps[i]? =some s/\zxX p c t s=true/\y=⟨t,i,0⟩:=by
 unfold zxP zya;rw[List.mem_flatMap];constructor
 ·rintro⟨⟨x,t⟩,hm,h⟩;rw[List.mem_zipIdx_iff_getElem?,List.take_length]at hm;obtain⟨i,s,_,hs,he,rfl⟩:=zel.1 h;exact⟨t,x,i,s,hm,hs,he,rfl⟩
 ·rintro⟨t,x,i,s,hx,hs,he,rfl⟩;refine⟨(x,t),?_,zel.2 ⟨i,s,(zH.1 hs).1,hs,he,rfl⟩⟩;rw[List.mem_zipIdx_iff_getElem?,List.take_length];exact hx
def zzq (p:Prog) (c:Config) (t:Nat) (s:Step):Config:=
 ⟨zxh c.mem c.mem s.set,if s.kind=6 then(c.at_.set t s.to).set s.target.toNat 0 else c.at_.set t s.to,p.threads.map fun _=>[]⟩
def zdb (p:Prog) (x:Choice):Option Step:=(p.threads[x.thread.toNat]?).bind fun t=>t.steps[x.step.toNat]?
def zyT:Config:=⟨[],[],[]⟩
def zCl (p:Prog) (c:Config) (x:Choice):Config:=match zdb p x with
 | some s=>zzq p c x.thread.toNat s
 | none=>zyT
def zz9 (p:Prog) (c:Config) (x:Choice):Config×Int:=
 if zw6 p&&isM p c then(if zC5 (zxP p c) x then(zCl p c x,0)else(zyT,110))else(zyT,1)
theorem zBB (l:List Choice) (x:Choice):zC5 l x=true<->x∈l:=by
 unfold zC5;rw[List.any_eq_true];constructor
 ·rintro⟨y,hy,h⟩;simp at h;exact h▸hy
 ·intro h;exact⟨x,h,by simp⟩
theorem zaC {α:Type} {l:List α} {n:Nat} (h:n=l.length):l.take n=l:=List.take_of_length_le (by omega)
theorem zlM {α:Type} {l:List α} {n:Nat} (h:n=l.length):l.drop n=[]:=List.drop_of_length_le (by omega)
theorem zhx (p:Prog) (hf:zw6 p=true) (c:Config) (hc:isM p c=true) (t:Nat) (x:Thread) (hx:p.threads[t]? =some x) (i:Nat) (s:Step) (hs:x.steps[i]? =some s) (y:Choice) (hy:y=⟨t,i,0⟩) (En:s.set.length<2^48):
 Den Γ G 45 [(zP p),(.agg [.t (ints (c).mem),.t (ints (c).at_),.t (.sl ((c).buf.map (fun b=>[.sl (b.map Entry.enc)])))]),(.agg [.t (ti (y).thread),.t (ti (y).step),.t (ti (y).cell)])]=some (.agg [.t (ints (zzq p c t s).mem),.t (ints (zzq p c t s).at_),.t (.sl ((zzq p c t s).buf.map (fun b=>[.sl (b.map Entry.enc)])))]):=by
 subst hy;obtain⟨l1,l2,l3⟩:=znM hc;obtain⟨⟨m1,m2,m3,m4⟩,_⟩:=zw8 (zw9 hf).1;have Bc:=za4 hf hx hs;have Dv:t<p.threads.length:=(zH.1 hx).1;have e1:(c.mem.length:Int)<=4294967296:=by omega
 have e2:(c.at_.length:Int)<=4294967296:=by omega
 have e3:(c.buf.length:Int)<=4294967296:=by omega
 (refine zw3 Γ45 rfl ?_;dsimp only[f45])
 have r1:=zxw c.mem;have r2:=zxw c.at_;have r3:List.take c.mem.length (zw5 c.mem)=zw5 c.mem:=zaC (zw2 _).symm;have r4:List.take c.at_.length (zw5 c.at_)=zw5 c.at_:=zaC (zw2 _).symm;have r5: ∀(n:Nat) (v:List V),List.drop n (List.replicate n v)=[]:=fun n v=>zlM (by simp)
 have B9: ∀a∈s.set,0<=a.cell/\a.cell<c.mem.length:=fun a ha=>by
  have:=(Bc.rng.2 a ha).1;simp only[inR,decide_eq_true_eq]at this;omega
 simp -dsimp only[go_sem,seval,e1,e2,e3,Int.le_refl,zge,r1,r2,r3,r4,r5,zw2,List.length_replicate,Nat.le_refl,List.append_nil,Nat.min_self,hx,hs]
 refine zap 36893206672442393600 s.set.length (fun j f h z=>(f 48).v=vi j/\h 7=some (.rows 1 (zw5 (zxh c.mem c.mem (s.set.take j))) false)/\h 11=some (.rows 1 (zw5 c.at_) false)/\h 15=some (.rows 1 (List.replicate c.buf.length [.t .nils]) false)) rfl
  ⟨by simp -dsimp only[go_sem,seval],by simp -dsimp only[go_sem,seval];rfl,by simp -dsimp only[go_sem,seval],by simp -dsimp only[go_sem,seval]⟩ ?_
 rintro j f u H z bs hj ⟨N3,g7,g11,g15⟩;have hw:=zag j (by omega);simp -dsimp only[go_sem,seval,N3];refine zw1 (fun h=> ?_) (fun h=> ?_)<;>(try rw[h])<;>(try simp only[zab]at h)<;>(try simp -dsimp only[go_sem,seval,N3])
 ·obtain⟨a,ha,Cj⟩:=zad ‹j<s.set.length›;obtain⟨c0,c1⟩:=B9 a Cj;have Aj:=zbT a.to c.mem c.mem;have Ac:(zxh c.mem c.mem (s.set.take j)).length=c.mem.length:=zaS c.mem _ c.mem;have Bu:=zaE (l:=zxh c.mem c.mem (s.set.take j)) (i:=a.cell.toNat) (by omega);have AB:=zaD (zxh c.mem c.mem (s.set.take j)) a.cell.toNat (a.to.eval c.mem c.mem);rw[<- zdS ha]at AB;simp -dsimp only[go_sem,seval,N3,ha,Aj,c0,c1,g7,Bu];refine⟨by omega,by simp -dsimp only[go_sem,seval,hw],by simp -dsimp only[go_sem,seval,AB],by simp -dsimp only[go_sem,seval,g11],by simp -dsimp only[go_sem,seval,g15]⟩
 ·have:j=s.set.length:=by omega
  subst this;rw[List.take_length]at g7;have Bu:=zaE (l:=c.at_) (i:=t) (by omega);have AB:=zaD c.at_ t s.to;have Ai:(t:Int)<(c.at_.length:Int):=by omega
  have t0:(0:Int)<=(t:Int):=by omega
  have M7:t<c.at_.length:=by omega
  have Ci:List.take p.threads.length (List.replicate p.threads.length [V.t T.nils])=List.replicate p.threads.length [V.t T.nils]:=zaC (by simp);have BO:c.buf.length=p.threads.length:=l3;have G6:=fun h=>zdJ h p.threads.length
  have GP:List.take c.mem.length (zw5 (zxh c.mem c.mem s.set))=zw5 (zxh c.mem c.mem s.set):=zaC (by rw[zw2,zaS]);have Ks:(zw5 (zxh c.mem c.mem s.set)).length=c.mem.length:=by rw[zw2,zaS]
  simp -dsimp only[go_sem,seval,g11,Bu,Ai,M7,AB,zw2,List.length_set]
  by_cases hk:s.kind=6
  ·obtain⟨hr,_⟩:=Bc.tgt (.inl hk);simp only[inR,decide_eq_true_eq]at hr;have q1:s.target<(c.at_.length:Int):=by omega
   have q2:=hr.1;have Gd:=zaE (l:=c.at_.set t s.to) (i:=s.target.toNat) (by simp;omega);have Ek:=zaD (c.at_.set t s.to) s.target.toNat 0;have G7:List.take c.at_.length (zw5 ((c.at_.set t s.to).set s.target.toNat 0))=zw5 ((c.at_.set t s.to).set s.target.toNat 0):=zaC (by rw[zw2];simp);simp -dsimp only[go_sem,seval,hk,q1,q2,Gd,Ek,g7,g15,Ci,G6,GP,Ks,G7,zw2,List.length_set,List.length_replicate,Nat.le_refl,zaL,BO];simp[zzq,hk,zbE]
  ·have G7:List.take c.at_.length (zw5 (c.at_.set t s.to))=zw5 (c.at_.set t s.to):=zaC (by rw[zw2];simp);simp -dsimp only[go_sem,seval,hk,g7,g15,Ci,G6,GP,Ks,G7,zw2,List.length_set,List.length_replicate,Nat.le_refl,zaL,BO];simp[zzq,hk,zbE]
theorem zk2 (p:Prog) (hs:p.sane) (c:Config) (AU:c.sane) (x:Choice):Den Γ G 18 [(zP p),(.agg [.t (ints (c).mem),.t (ints (c).at_),.t (.sl ((c).buf.map (fun b=>[.sl (b.map Entry.enc)])))]),(.agg [.t (ti (x).thread),.t (ti (x).step),.t (ti (x).cell)])]=some (.tup [(.agg [.t (ints ((zz9 p c x).1).mem),.t (ints ((zz9 p c x).1).at_),.t (.sl (((zz9 p c x).1).buf.map (fun b=>[.sl (b.map Entry.enc)])))]),vi (zz9 p c x).2]):=by
 (refine zw3 Γ18 rfl ?_;dsimp only[f18])
 have h1:=zcz p hs;simp -dsimp only[go_sem,seval,h1];cases hf:zw6 p
 ·simp -dsimp only[go_sem,seval];simp[zz9,hf,zyT]
 ·have h2:=zlw p hf c AU;simp -dsimp only[go_sem,seval,h2];cases hc:isM p c
  ·simp -dsimp only[go_sem,seval];simp[zz9,hf,hc,zyT]
  ·have h3:=zhH p hf c hc
   have Ac:(zxP p c).length<2^40:=by
    have:=zcS hf c p.threads.length;have:=(zw8 (zw9 hf).1).1;unfold zxP;omega
   have hN:zz9 p c x=if zC5 (zxP p c) x then(zCl p c x,0)else(zyT,110):=by simp[zz9,hf,hc]
   simp -dsimp only[go_sem,seval,h3];refine zaq 68702700224 (zxP p c).length (fun i f=>(f 24).v=vi i/\(f 6).v= .lb/\(f 6).box=some [.t .nils,.t .nils,.t .nils]/\zC5 (zxP p c) x=((zxP p c).drop i).any fun y=>decide (y=x)) rfl rfl ⟨by simp -dsimp only[go_sem,seval],by simp -dsimp only[go_sem,seval],by simp -dsimp only[go_sem,seval],rfl⟩ ?_;rintro i f u kk bb hi ⟨LI,b1,b2,A3⟩;have hw:=zag i (by omega);simp -dsimp only[go_sem,seval,LI];refine zw1 (fun h=> ?_) (fun h=> ?_)<;>(try rw[h])<;>(try simp only[zab]at h)<;>(try simp -dsimp only[go_sem,seval,LI])
   ·obtain⟨y,hy,GD⟩:=zad ‹i<(zxP p c).length›;have he:=zhI x y;simp -dsimp only[go_sem,seval,LI,hy,he,Bool.bne_false];refine zw1 (fun h=> ?_) (fun h=> ?_)<;>(try rw[h])<;>(try simp only[zab]at h)<;>(try simp -dsimp only[go_sem,seval,LI])
    ·have Li:x=y:=by simpa using h
     rw[zgG hy (by simpa using Li.symm)]at A3;obtain⟨t,tx,j,s,ht,Mk,_,N8⟩:=zdv.1 GD;have HS:=zL ht;have AT:=zhx p hf c hc t tx ht j s Mk x (Li.trans N8) (hs.sets tx HS s (zL Mk))
     have hE:zCl p c x=zzq p c t s:=by
      rw[Li,N8];simp[zCl,zdb,ht,Mk]
     rw[A3,if_pos rfl,hE]at hN;rw[hN];simp -dsimp only[go_sem,seval,AT,b1,b2]
    ·refine⟨by omega,by simp -dsimp only[go_sem,seval,hw],by simp -dsimp only[go_sem,seval,b1],by simp -dsimp only[go_sem,seval,b2],?_⟩;rw[A3,zgH hy (by simpa[eq_comm]using h)]
   ·have:i=(zxP p c).length:=by omega
    subst this;rw[ziE]at A3;rw[A3]at hN;rw[hN];simp -dsimp only[go_sem,seval,b1,b2];simp[zyT]
end Rg
end
section
namespace Rg
open Go
end Rg
end
section
-- FULL
namespace Rg
open Go
abbrev zCo (l:List Int):T:=.sl (l.map fun n=>[.int .u8 n])
structure Prog.lite (p:Prog):Prop where
 steps: ∀x∈p.threads,x.steps.length<2^50
 cname: ∀c∈p.cells,c.name.size<2^50
 mname: ∀m∈p.modules,m.name.size<2^50/\m.owner.size<2^50
 tname: ∀t∈p.threads,t.name.size<2^50
theorem zly {l:List Thread}: ∀{n:Int},zAS n l=true->0<=n-> ∀x∈l,x.steps.length<=24/\x.asserts.length<=48/\x.modules.length<=48/\x.loops.length<=8/\zCi x=true:=by
 induction l with
 | nil=>intro n _ _ x hx;simp at hx
 | cons y r ih=>
   intro n h hn x hx;rw[zAS]at h;split at h
   ·simp at h
   ·rename_i h0;simp only[not_or,Bool.not_eq_false]at h0;rcases List.mem_cons.1 hx with rfl | hx
    ·refine⟨by omega,by omega,by omega,by omega,h0.2.2.2.2⟩
    ·exact ih h (by omega) x hx
theorem zBC {p:Prog} (hl:p.lite) (h:zBT p=true):p.sane:=by
 simp only[zBT,zF,decide_eq_true_eq,zN]at h;obtain⟨⟨⟨⟨⟨⟨h1,h2⟩,h3⟩,h4⟩,h5⟩,h6⟩,h7⟩:=h;have ht:=zly h5 (by omega);refine⟨by omega,by omega,by omega,by omega,hl.cname,?_,?_,?_,?_⟩
 ·intro m hm;have:=h6 m hm;simp only[zl9,zF,decide_eq_true_eq]at this;exact⟨(hl.mname m hm).1,(hl.mname m hm).2,by omega⟩
 ·intro t hm;obtain⟨a,b,c,d,_⟩:=ht t hm;exact⟨hl.tname t hm,by omega,by omega,by omega,by omega⟩
 ·intro t hm s hs;obtain⟨_,_,_,_,e⟩:=ht t hm;simp only[zCi,zF,zN,zm9,decide_eq_true_eq]at e;have:=e.1.1 s hs;omega
 ·intro t hm l NS;obtain⟨_,_,_,_,e⟩:=ht t hm;simp only[zCi,zF,zN,znP,decide_eq_true_eq]at e;have:=e.2 l NS;omega
def zz8 (l:List Choice) (k:Int):Choice:=l.getD (k.toNat % l.length) ⟨0,0,0⟩
end Rg
end
section
-- FULL
namespace Rg
open Go
end Rg
end
section
-- FULL
namespace Rg
open Go
end Rg
end
section
namespace Rg
open Go
structure IsC (p:Prog) (c:Config):Prop where
 lm:c.mem.length=p.cells.length
 la:c.at_.length=p.threads.length
 lb:c.buf.length=p.threads.length
 mem: ∀(i:Nat) (v:Int) (y:Cell),c.mem[i]? =some v->p.cells[i]? =some y->0<=v/\v<2^y.w.toNat
 at_: ∀(i:Nat) (a:Int) (x:Thread),c.at_[i]? =some a->p.threads[i]? =some x-> -1<=a/\a<x.points/\(a= -1->x.asleep=true)
 buf: ∀b∈c.buf,b=[]
theorem znZ {α β:Type} {l:List α} {m:List β} {f:α×β->Bool}:(l.zip m).all f=true<-> ∀(i:Nat) (a:α) (b:β),l[i]? =some a->m[i]? =some b->f (a,b)=true:=by
 rw[zN];constructor
 ·intro h i a b ha hb;exact h _ (zL (zz4 ha hb))
 ·intro h q hq;obtain⟨i,hi⟩:=List.getElem?_of_mem hq;rw[List.getElem?_zip_eq_some]at hi;exact h i _ _ hi.1 hi.2
theorem zzU {p:Prog} {c:Config}:isM p c=true<->IsC p c:=by
 simp only[isM,zzP,zF,decide_eq_true_eq,znZ];simp only[zbk,zdw,zN,zF,decide_eq_true_eq,Bool.not_eq_true',Bool.and_eq_false_iff,decide_eq_false_iff_not,Bool.not_eq_false',List.isEmpty_iff];constructor
 ·rintro⟨⟨⟨⟨⟨h1,h2⟩,h3⟩,h4⟩,h5⟩,h6⟩
  exact⟨h1,h2,h5,h3,fun i a x ha hx=>⟨(h4 i a x ha hx).1.1,(h4 i a x ha hx).1.2,fun h0=>by
   rcases(h4 i a x ha hx).2 with h | h
   ·exact absurd h0 h
   ·exact h⟩,h6⟩
 ·rintro⟨h1,h2,h5,h3,h4,h6⟩;refine⟨⟨⟨⟨⟨h1,h2⟩,h3⟩,fun i a x ha hx=>⟨⟨(h4 i a x ha hx).1,(h4 i a x ha hx).2.1⟩,?_⟩⟩,h5⟩,h6⟩
  by_cases h0:a= -1
  ·exact .inr ((h4 i a x ha hx).2.2 h0)
  ·exact .inl h0
theorem zBu {p:Prog} (hf:zw6 p=true):isM p (zxz p)=true:=by
 rw[zzU,zxz,if_pos hf];refine⟨by simp,by simp,by simp,?_,?_,?_⟩
 ·intro i v y hv hy;simp only[zJ,hy,Option.map_some,zA]at hv;subst hv;exact(zyB hf (zL hy)).2.2
 ·intro i a x ha hx;simp only[zJ,hx,Option.map_some,zA]at ha;have:=zbe hf hx;subst ha;split
  ·rename_i h;exact⟨by omega,by omega,fun _=>h⟩
  ·exact⟨by omega,by omega,by omega⟩
 ·intro b hb;simp only[List.mem_map]at hb;obtain⟨_,_,rfl⟩:=hb;rfl
theorem zf0 (e:Expr) (old now:List Int):0<=e.eval old now/\e.eval old now<2^e.w.toNat:=by
 unfold Expr.eval;split
 ·rename_i h;exact zeC old now 40 e (zxk h)
 ·exact⟨by omega,zxD _⟩
theorem zf8 {p:Prog} {view:List Int}: ∀{set:List Assign} {mem:List Int},
 (∀a∈set,∃y,p.cells[a.cell.toNat]? =some y/\a.to.w=y.w)->
 (∀(i:Nat) (v:Int) (y:Cell),mem[i]? =some v->p.cells[i]? =some y->0<=v/\v<2^y.w.toNat)->
 ∀(i:Nat) (v:Int) (y:Cell),(zxh mem view set)[i]? =some v->p.cells[i]? =some y->0<=v/\v<2^y.w.toNat
 | [],mem,_,hm=>hm
 | a::r,mem,hw,hm=>by
   have:zxh mem view (a::r)=zxh (mem.set a.cell.toNat (a.to.eval view view)) view r:=rfl;rw[this];refine zf8 (fun b hb=>hw b (List.mem_cons_of_mem _ hb)) ?_;intro i v y hv hy;rw[List.getElem?_set]at hv;split at hv
   ·rename_i hi;split at hv
    ·cases hv;obtain⟨z,hz,Oi⟩:=hw a List.mem_cons_self;rw[hi,hy]at hz;cases hz;rw[<- Oi];exact zf0 _ _ _
    ·simp at hv
   ·exact hm i v y hv hy
theorem zoE {p:Prog} (hf:zw6 p=true) {c:Config} (hc:isM p c=true) {t i:Nat} {x:Thread} {s:Step} (hx:p.threads[t]? =some x) (hs:x.steps[i]? =some s):isM p (zzq p c t s)=true:=by
 rw[zzU]at hc⊢;have Bc:=za4 hf hx hs;refine⟨by simp only[zzq,zaS];exact hc.lm,?_,by simp[zzq],?_,?_,?_⟩
 ·simp only[zzq];split<;>simp <;>exact hc.la
 ·exact zf8 Bc.wid hc.mem
 ·have key: ∀(j:Nat) (a:Int) (z:Thread),(c.at_.set t s.to)[j]? =some a->p.threads[j]? =some z-> -1<=a/\a<z.points/\(a= -1->z.asleep=true):=by
   intro j a z ha hz;rw[List.getElem?_set]at ha;split at ha
   ·rename_i hj;split at ha
    ·cases ha;subst hj;rw[hx]at hz;cases hz;have:=Bc.to;exact⟨by omega,by omega,by omega⟩
    ·simp at ha
   ·exact hc.at_ j a z ha hz
  intro j a z ha hz;simp only[zzq]at ha;split at ha
  ·rw[List.getElem?_set]at ha;split at ha
   ·split at ha
    ·cases ha;have:=zbe hf hz;exact⟨by omega,by omega,by omega⟩
    ·simp at ha
   ·exact key j a z ha hz
  ·exact key j a z ha hz
 ·intro b hb;simp only[zzq,List.mem_map]at hb;obtain⟨_,_,rfl⟩:=hb;rfl
theorem zk1 {p:Prog} (hf:zw6 p=true) {c:Config} (hc:isM p c=true) {y:Choice} (hy:y∈zxP p c):
 ∃(t:Nat) (x:Thread) (i:Nat) (s:Step),p.threads[t]? =some x/\x.steps[i]? =some s/\zxX p c t s=true/\y=⟨t,i,0⟩/\zz9 p c y=(zzq p c t s,0)/\isM p (zzq p c t s)=true:=by
 obtain⟨t,x,i,s,hx,hs,he,rfl⟩:=zdv.1 hy;refine⟨t,x,i,s,hx,hs,he,rfl,?_,zoE hf hc hx hs⟩;rw[zz9,hf,hc];simp only[Bool.and_self,if_true,(zBB _ _).2 hy];simp[zCl,zdb,hx,hs]
theorem zmH {l:List Choice} (h:l≠[]) (k:Int):zz8 l k∈l:=by
 have hl:0<l.length:=List.length_pos_iff.2 h;have:k.toNat % l.length<l.length:=Nat.mod_lt _ hl;rw[zz8,zK,zI this];exact List.getElem_mem _
namespace Expr
mutual
def zDQ (f:Expr->Expr):Expr->Expr
 | .mk o w n []=>f (.mk o w n [])
 | .mk o w n (k::ks)=> .mk o w n (zDQ f k::zpC f ks)
def zpC (f:Expr->Expr):List Expr->List Expr
 | []=>[]
 | e::r=>zDQ f e::zpC f r
end
end Expr
end Rg
end
section
namespace Rg
open Go
def asg (set:List Assign) (c:Int):Option Expr:=(set.find? fun a=>decide (a.cell=c)).map Assign.to
end Rg
end
section
namespace Rg
open Go
structure SetOk (p:Prog) (set:List Assign):Prop where
 rng: ∀a∈set,inR a.cell p.cells.length=true/\a.to.valid p.cells false=true
 wid: ∀a∈set,∃y,p.cells[a.cell.toNat]? =some y/\a.to.w=y.w
 dif: ∀(i j:Nat) (a b:Assign),set[i]? =some a->set[j]? =some b->a.cell=b.cell->i=j
end Rg
end
section
namespace Rg
open Go
end Rg
end
section
namespace Rg
open Go
theorem StepOk.set {p:Prog} {t:Int} {x:Thread} {s:Step} (h:StepOk p t x s):SetOk p s.set:=⟨h.rng.2,h.wid,h.dif⟩
end Rg
end
section
namespace Rg
open Go
end Rg
end
section
set_option maxRecDepth 10000
namespace Rg
open Go
end Rg
end
section
namespace Rg
open Go
end Rg
end
section
set_option maxRecDepth 10000
namespace Rg
open Go
end Rg
end
section
namespace Rg
open Go
structure Proper (p:Prog) (e:Entry):Prop where
 ne:e.cells≠[]
 len:e.values.length=e.cells.length
 nd:e.cells.Nodup
 cell: ∀(i:Nat) (n v:Int),e.cells[i]? =some n->e.values[i]? =some v->0<=n/\ ∃y,p.cells[n.toNat]? =some y/\y.thread= -1/\y.ghost=decide (0<i)/\0<=v/\v<2^y.w.toNat
structure IsB (p:Prog) (c:Config):Prop where
 lm:c.mem.length=p.cells.length
 la:c.at_.length=p.threads.length
 lb:c.buf.length=p.threads.length
 mem: ∀(i:Nat) (v:Int) (y:Cell),c.mem[i]? =some v->p.cells[i]? =some y->0<=v/\v<2^y.w.toNat
 at_: ∀(i:Nat) (a:Int) (x:Thread),c.at_[i]? =some a->p.threads[i]? =some x-> -1<=a/\a<x.points/\(a= -1->x.asleep=true)
 buf: ∀(t:Nat) (b:List Entry),c.buf[t]? =some b->b.length<=3/\(∀e∈b,Proper p e)/\(c.at_[t]? =some (-1)->b=[])
def zz2 (m:List Int) (e:Entry):List Int:=(e.cells.zip e.values).foldl (fun m q=>m.set q.1.toNat q.2) m
def zxq (c:Config) (t:Nat):List Entry:=c.buf.getD t []
def zxd (c:Config) (t:Nat):List Int:=(zxq c t).foldl zz2 c.mem
def zAr (a b:Entry):Bool:=b.cells.any fun n=>a.cells.contains n
def zyb (older:List Entry) (e:Entry):Bool:=older.any fun o=>zAr o e
def zyy (k:Int) (b:List Entry) (i:Nat) (e:Entry):Bool:=decide (i=0)||(decide (k=2)&& !zyb (b.take i) e)
def zxi (p:Prog) (c:Config) (t:Nat) (s:Step):Bool:=
 decide (atI c.at_ t=s.fr)&&decide (s.guard.eval (zxd c t) (zxd c t)=1)&&
  (if s.kind=3 then(if s.release then decide ((zxq c t).length=0)else decide ((zxq c t).length<3))
   else if s.kind=4\/s.kind=5 then decide ((zxq c t).length=0)
   else if s.kind=6 then decide ((zxq c t).length=0)&&decide (atI c.at_ s.target= -1)
   else if s.kind=7 then decide ((zxq c t).length=0)&&(decide (atI c.at_ s.target=zbh p s.target-1)&&decide ((zxq c s.target.toNat).length=0))
   else true)
def zy1 (p:Prog) (c:Config) (t:Nat) (x:Thread) (i:Nat):List Choice:=
 (x.steps.take i).zipIdx.filterMap fun q=>if zxi p c t q.1 then some ⟨t,q.2,0⟩else none
def zyk (e:Entry):Int:=e.cells.headD 0
def zz0 (k:Int) (t:Nat) (b:List Entry) (i:Nat):List Choice:=
 (b.take i).zipIdx.filterMap fun q=>if zyy k b q.2 q.1 then some ⟨t,-1,zyk q.1⟩else none
def zxQ (p:Prog) (k:Int) (c:Config) (i:Nat):List Choice:=
 (p.threads.take i).zipIdx.flatMap fun q=>zy1 p c q.2 q.1 q.1.steps.length++zz0 k q.2 (zxq c q.2) (zxq c q.2).length
def zyP (p:Prog) (k:Int) (c:Config):List Choice:=zxQ p k c p.threads.length
def zw7 (p:Prog) (a:Assign):Bool:=zaO p a.cell fun y=>decide (y.thread= -1)
def zzb (p:Prog) (view:List Int) (set:List Assign):Entry:=⟨(set.filter (zw7 p)).map Assign.cell,(set.filter (zw7 p)).map fun a=>a.to.eval view view⟩
def zyO (p:Prog) (c:Config) (t:Nat) (s:Step):Config:=
 ⟨zxh c.mem (zxd c t) (if s.kind=3 then s.set.filter (fun a=> !zw7 p a)else s.set),
  if s.kind=6 then(c.at_.set t s.to).set s.target.toNat 0 else c.at_.set t s.to,
  if s.kind=3 then c.buf.set t (zxq c t++[zzb p (zxd c t) s.set])else c.buf⟩
def zxr (c:Config) (t i:Nat):Config:=match(zxq c t)[i]? with
 | some e=>⟨zz2 c.mem e,c.at_,c.buf.set t ((zxq c t).eraseIdx i)⟩
 | none=>zyT
def zAR (k:Int) (b:List Entry) (n:Int):Option Nat:=(List.range b.length).find? fun i=>match b[i]? with
 | some e=>zyy k b i e&&decide (zyk e=n)
 | none=>false
def zyN (p:Prog) (k:Int) (c:Config) (x:Choice):Config×Int:=
 if x.thread<0\/(p.threads.length:Int)<=x.thread\/x.step< -1 then(zyT,110)
 else if x.step= -1 then(match zAR k (zxq c x.thread.toNat) x.cell with
  | some i=>(zxr c x.thread.toNat i,0)
  | none=>(zyT,110))
 else match zdb p x with
  | some s=>if decide (x.cell=0)&&zxi p c x.thread.toNat s then(zyO p c x.thread.toNat s,0)else(zyT,110)
  | none=>(zyT,110)
theorem zjm {c:Config} {t:Nat} {b:List Entry} (h:c.buf[t]? =some b):zxq c t=b:=by simp[zxq,List.getD,h]
theorem zx4 {c:Config} {t:Nat} (h:t<c.buf.length):c.buf[t]? =some (zxq c t):=by simp[zxq,List.getD,zI h]
theorem zbG: ∀(l:List (Int×Int)) (m:List Int),(l.foldl (fun m q=>m.set q.1.toNat q.2) m).length=m.length
 | [],m=>rfl
 | q::l,m=>by rw[List.foldl_cons,zbG l];simp
theorem zgh (m:List Int) (e:Entry):(zz2 m e).length=m.length:=zbG _ m
theorem zbs: ∀(l:List Entry) (m:List Int),(l.foldl zz2 m).length=m.length
 | [],m=>rfl
 | e::l,m=>by rw[List.foldl_cons,zbs l,zgh]
theorem zmk (c:Config) (t:Nat):(zxd c t).length=c.mem.length:=zbs _ _
theorem zeh {p:Prog}: ∀(l:List (Int×Int)) (m:List Int),(∀q∈l,∀y,p.cells[q.1.toNat]? =some y->0<=q.2/\q.2<2^y.w.toNat)->
 (∀(i:Nat) (v:Int) (y:Cell),m[i]? =some v->p.cells[i]? =some y->0<=v/\v<2^y.w.toNat)->
 ∀(i:Nat) (v:Int) (y:Cell),(l.foldl (fun m q=>m.set q.1.toNat q.2) m)[i]? =some v->p.cells[i]? =some y->0<=v/\v<2^y.w.toNat
 | [],m,_,hm=>hm
 | q::l,m,hl,hm=>by
   rw[List.foldl_cons];refine zeh l _ (fun r hr=>hl r (List.mem_cons_of_mem _ hr)) ?_;intro i v y hv hy;rw[List.getElem?_set]at hv;split at hv
   ·rename_i hi;split at hv
    ·cases hv;subst hi;exact hl q List.mem_cons_self y hy
    ·simp at hv
   ·exact hm i v y hv hy
theorem zib {p:Prog} {e:Entry} (h:Proper p e) {q:Int×Int} (hq:q∈e.cells.zip e.values):0<=q.1/\ ∃y,p.cells[q.1.toNat]? =some y/\y.thread= -1/\0<=q.2/\q.2<2^y.w.toNat:=by
 obtain⟨i,hi⟩:=List.getElem?_of_mem hq;rw[List.getElem?_zip_eq_some]at hi;obtain⟨h0,y,h1,h2,_,h3⟩:=h.cell i q.1 q.2 hi.1 hi.2;exact⟨h0,y,h1,h2,h3⟩
theorem zom {p:Prog} {e:Entry} (he:Proper p e) {m:List Int} (hm: ∀(i:Nat) (v:Int) (y:Cell),m[i]? =some v->p.cells[i]? =some y->0<=v/\v<2^y.w.toNat):
 ∀(i:Nat) (v:Int) (y:Cell),(zz2 m e)[i]? =some v->p.cells[i]? =some y->0<=v/\v<2^y.w.toNat:=by
 refine zeh _ m (fun q hq y hy=> ?_) hm;obtain⟨_,z,hz,_,h⟩:=zib he hq;rw[hy]at hz;cases hz;exact h
theorem zyw {p:Prog} {e:Entry} (h:Proper p e) {n:Int} (hn:n∈e.cells):0<=n/\n.toNat<p.cells.length/\ ∃y,p.cells[n.toNat]? =some y/\y.thread= -1:=by
 obtain⟨i,hi⟩:=List.getElem?_of_mem hn;have Ai:i<e.values.length:=by rw[h.len];exact(zH.1 hi).1
 obtain⟨h0,y,h1,h2,_⟩:=h.cell i n _ hi (zI Ai);exact⟨h0,(zH.1 h1).1,y,h1,h2⟩
theorem zdI: ∀(n:Nat) (l:List Int),l.Nodup->(∀x∈l,0<=x/\x<n)->l.length<=n
 | 0,[],_,_=>Nat.le_refl _
 | 0,x::l,_,hl=>by have:=hl x List.mem_cons_self;omega
 | n+1,l,Cs,hl=>by
   have h:=zdI n (l.erase (n:Int)) (Cs.erase _) fun x hx=>by
    have h1:=Cs.mem_erase_iff.1 hx;have h2:=hl x h1.2;have h3:=h1.1;omega
   rw[List.length_erase]at h;split at h<;>omega
theorem zaW {p:Prog} {e:Entry} (h:Proper p e):e.cells.length<=p.cells.length:=
 zdI _ _ h.nd fun x hx=>by have:=zyw h hx;omega
theorem zkx {p:Prog} {a:Assign} (h:zw7 p a=true): ∃y,p.cells[a.cell.toNat]? =some y/\y.thread= -1:=by
 unfold zw7 zaO at h;split at h
 ·rename_i y hy;exact⟨y,hy,by simpa using h⟩
 ·simp at h
theorem zhZ {p:Prog} {t:Int} {s:Step} (hk:s.kind=3) (h:zxJ p t s=true): ∃a r,s.set=a::r/\zxF p s false t=true/\zw7 p a=true/\zaO p a.cell Cell.ghost=false/\
 ∀b∈r,zaO p b.cell Cell.ghost=true/\zAq p t b.cell=true:=by
 rw[zxJ,if_neg (by omega),if_neg (by omega),if_pos hk,zy6]at h;split at h
 ·simp at h
 ·rename_i a r hs;simp only[zF,Bool.not_eq_true',zN]at h;obtain⟨⟨⟨h1,h2⟩,h3⟩,h4⟩:=h;obtain⟨h0,y,hy,ht⟩:=zeS h2;exact⟨a,r,hs,h1,by rw[zw7,zau hy];simpa using ht,h3,h4⟩
theorem zCm {l:List Assign} (h: ∀(i j:Nat) (a b:Assign),l[i]? =some a->l[j]? =some b->a.cell=b.cell->i=j):(l.map Assign.cell).Nodup:=by
 rw[List.nodup_iff_pairwise_ne,List.pairwise_iff_getElem];intro i j hi hj At he;simp only[List.length_map]at hi hj;simp only[List.getElem_map]at he;have:=h i j _ _ (zI hi) (zI hj) he;omega
theorem zcP {p:Prog} {t:Int} {x:Thread} {s:Step} (Bc:StepOk p t x s) (hk:s.kind=3) (view:List Int):Proper p (zzb p view s.set):=by
 obtain⟨a,r,hs,hv,ha,hg,hr⟩:=zhZ hk Bc.row;have hf:s.set.filter (zw7 p)=a::r.filter (zw7 p):=by rw[hs,List.filter_cons,if_pos ha]
 refine⟨by simp[zzb,hf],by simp[zzb],?_,?_⟩
 ·exact List.Nodup.sublist ((List.filter_sublist).map _) (zCm Bc.dif)
 ·intro i n v hn B3;simp only[zzb,zJ,zE]at hn B3;obtain⟨b,hb,rfl⟩:=hn;obtain⟨b',Bi,rfl⟩:=B3;rw[hb]at Bi;cases Bi;have KN:=zL hb;obtain⟨Ax,Bj⟩:=List.mem_filter.1 KN;obtain⟨y,hy,F5⟩:=zkx Bj;have Ar:=(Bc.rng.2 b Ax).1;simp only[inR,decide_eq_true_eq]at Ar;obtain⟨z,hz,hw⟩:=Bc.wid b Ax;rw[hy]at hz;cases hz;refine⟨Ar.1,y,hy,F5,?_,by rw[<- hw];exact zf0 _ _ _⟩;rw[hf]at hb
  cases i with
  | zero=>
    simp only[List.getElem?_cons_zero,zA]at hb;subst hb;rw[zau hy]at hg
    simpa using hg
  | succ i=>
    simp only[List.getElem?_cons_succ]at hb;have:=(hr b (List.mem_filter.1 (zL hb)).1).1;rw[zau hy]at this;simpa using this
theorem zoF {p:Prog} {c:Config} {t i:Nat} {x:Thread} {s:Step} (hf:zw6 p=true) (hx:p.threads[t]? =some x) (Bc:StepOk p t x s)
 (Bq: ∀(i:Nat) (a:Int) (x:Thread),c.at_[i]? =some a->p.threads[i]? =some x-> -1<=a/\a<x.points/\(a= -1->x.asleep=true)):
 ∀(i:Nat) (a:Int) (z:Thread),(if s.kind=6 then(c.at_.set t s.to).set s.target.toNat 0 else c.at_.set t s.to)[i]? =some a->p.threads[i]? =some z-> -1<=a/\a<z.points/\(a= -1->z.asleep=true):=by
 have key: ∀(j:Nat) (a:Int) (z:Thread),(c.at_.set t s.to)[j]? =some a->p.threads[j]? =some z-> -1<=a/\a<z.points/\(a= -1->z.asleep=true):=by
  intro j a z ha hz;rw[List.getElem?_set]at ha;split at ha
  ·rename_i hj;split at ha
   ·cases ha;subst hj;rw[hx]at hz;cases hz;have:=Bc.to;exact⟨by omega,by omega,by omega⟩
   ·simp at ha
  ·exact Bq j a z ha hz
 intro j a z ha hz;split at ha
 ·rw[List.getElem?_set]at ha;split at ha
  ·split at ha
   ·cases ha;have:=zbe hf hz;exact⟨by omega,by omega,by omega⟩
   ·simp at ha
  ·exact key j a z ha hz
 ·exact key j a z ha hz
theorem zzv {c:Config} {t j:Nat} {s:Step} (h0:0<=s.to) (h:(if s.kind=6 then(c.at_.set t s.to).set s.target.toNat 0 else c.at_.set t s.to)[j]? =some (-1)):c.at_[j]? =some (-1):=by
 have key:(c.at_.set t s.to)[j]? =some (-1)->c.at_[j]? =some (-1):=by
  intro h;rw[List.getElem?_set]at h;split at h
  ·split at h
   ·simp only[zA]at h;omega
   ·simp at h
  ·exact h
 split at h
 ·rw[List.getElem?_set]at h;split at h
  ·split at h
   ·simp at h
   ·simp at h
  ·exact key h
 ·exact key h
theorem zji {p:Prog} (hf:zw6 p=true) {c:Config} (hc:IsB p c) {t i:Nat} {x:Thread} {s:Step} (hx:p.threads[t]? =some x) (hs:x.steps[i]? =some s) (he:zxi p c t s=true):IsB p (zyO p c t s):=by
 have Bc:=za4 hf hx hs;have Dv:t<c.buf.length:=by rw[hc.lb];exact(zH.1 hx).1
 refine⟨by simp only[zyO,zaS];exact hc.lm,?_,?_,?_,zoF (i:=i) hf hx Bc hc.at_,?_⟩
 ·show(if s.kind=6 then _ else _:List Int).length=_;split
  ·rw[List.length_set,List.length_set];exact hc.la
  ·rw[List.length_set];exact hc.la
 ·show(if s.kind=3 then _ else _:List (List Entry)).length=_;split
  ·rw[List.length_set];exact hc.lb
  ·exact hc.lb
 ·refine zf8 (fun a ha=> ?_) hc.mem;refine Bc.wid a ?_
  try simp only at ha
  split at ha
  ·exact(List.mem_filter.1 ha).1
  ·exact ha
 ·intro t' b hb;simp only[zyO]at hb⊢
  by_cases hk:s.kind=3
  ·rw[if_pos hk,List.getElem?_set]at hb;split at hb
   ·rename_i LX;subst LX
    try rw[if_pos Dv]at hb
    simp only[zA]at hb;subst hb;have CS:=hc.buf t _ (zx4 Dv);refine⟨?_,?_,?_⟩
    ·simp only[zxi,zF,hk,if_true]at he;have h3:=he.2;split at h3
     ·have:(zxq c t).length=0:=by simpa using h3
      simp[this]
     ·have:(zxq c t).length<3:=by simpa using h3
      simp;omega
    ·intro e CX;rcases List.mem_append.1 CX with h | h
     ·exact CS.2.1 e h
     ·rw[List.mem_singleton]at h;subst h;exact zcP Bc hk _
    ·intro ha;have:=zzv Bc.to.1 ha;simp only[zxi,zF,decide_eq_true_eq]at he;have h1:atI c.at_ t= -1:=zb9 (by simpa using this);have:=Bc.fr.1;omega
   ·obtain⟨q1,q2,q3⟩:=hc.buf t' b hb;exact⟨q1,q2,fun ha=>q3 (zzv Bc.to.1 ha)⟩
  ·rw[if_neg hk]at hb;obtain⟨q1,q2,q3⟩:=hc.buf t' b hb;exact⟨q1,q2,fun ha=>q3 (zzv Bc.to.1 ha)⟩
theorem zf4 {p:Prog} {c:Config} (hc:IsB p c) {t i:Nat} {e:Entry} (hi:(zxq c t)[i]? =some e):IsB p (zxr c t i):=by
 have Dv:t<c.buf.length:=by
  rcases Nat.lt_or_ge t c.buf.length with h | h
  ·exact h
  ·simp[zxq,List.getD,List.getElem?_eq_none h]at hi
 have CS:=hc.buf t _ (zx4 Dv);have hC:zxr c t i=⟨zz2 c.mem e,c.at_,c.buf.set t ((zxq c t).eraseIdx i)⟩:=by simp only[zxr,hi]
 rw[hC];refine⟨by simp only[zgh];exact hc.lm,hc.la,by simp;exact hc.lb,zom (CS.2.1 e (zL hi)) hc.mem,hc.at_,?_⟩;intro t' b hb;rw[List.getElem?_set]at hb;split at hb
 ·rename_i LX;subst LX
  try rw[if_pos Dv]at hb
  simp only[zA]at hb;subst hb;refine⟨Nat.le_trans (List.length_eraseIdx_le _ _) CS.1,fun e he=>CS.2.1 e (List.mem_of_mem_eraseIdx he),fun ha=> ?_⟩;have:=CS.2.2 ha;rw[this]at hi;simp at hi
 ·exact hc.buf t' b hb
theorem zku {p:Prog} (hf:zw6 p=true):IsB p (zxz p):=by
 have h:=zzU.1 (zBu hf);refine⟨h.lm,h.la,h.lb,h.mem,h.at_,fun t b hb=> ?_⟩;have:=h.buf b (zL hb);subst this;exact⟨by simp,by simp,fun _=>rfl⟩
theorem znN {p:Prog} {c:Config} (h:IsC p c):IsB p c:=
 ⟨h.lm,h.la,h.lb,h.mem,h.at_,fun t b hb=>by
   have:=h.buf b (zL hb);subst this
   exact⟨by simp,by simp,fun _=>rfl⟩⟩
theorem zDs {p:Prog} {c:Config} (h:IsB p c) (hq: ∀b∈c.buf,b=[]):IsC p c:=⟨h.lm,h.la,h.lb,h.mem,h.at_,hq⟩
theorem zAv {p:Prog} {c:Config} {t:Nat} {x:Thread} {n:Nat} {y:Choice}:y∈zy1 p c t x n<-> ∃i s,i<n/\x.steps[i]? =some s/\zxi p c t s=true/\y=⟨t,i,0⟩:=by
 unfold zy1;rw[List.mem_filterMap];constructor
 ·rintro⟨⟨s,i⟩,hm,h⟩;rw[List.mem_zipIdx_iff_getElem?]at hm;simp only at hm;rw[zO]at hm;split at hm
  ·rename_i hi;split at h
   ·rename_i he;simp only[zA]at h;exact⟨i,s,hi,hm,he,h.symm⟩
   ·simp at h
  ·simp at hm
 ·rintro⟨i,s,hi,hs,he,rfl⟩;refine⟨(s,i),?_,by simp[he]⟩;rw[List.mem_zipIdx_iff_getElem?];simp only;rw[zO,if_pos hi];exact hs
theorem zBd {k:Int} {t:Nat} {b:List Entry} {n:Nat} {y:Choice}:y∈zz0 k t b n<-> ∃i e,i<n/\b[i]? =some e/\zyy k b i e=true/\y=⟨t,-1,zyk e⟩:=by
 unfold zz0;rw[List.mem_filterMap];constructor
 ·rintro⟨⟨e,i⟩,hm,h⟩;rw[List.mem_zipIdx_iff_getElem?]at hm;simp only at hm;rw[zO]at hm;split at hm
  ·rename_i hi;split at h
   ·rename_i he;simp only[zA]at h;exact⟨i,e,hi,hm,he,h.symm⟩
   ·simp at h
  ·simp at hm
 ·rintro⟨i,e,hi,hs,he,rfl⟩;refine⟨(e,i),?_,by simp[he]⟩;rw[List.mem_zipIdx_iff_getElem?];simp only;rw[zO,if_pos hi];exact hs
theorem zen {p:Prog} {k:Int} {c:Config} {y:Choice}:y∈zyP p k c<->
 (∃(t:Nat) (x:Thread) (i:Nat) (s:Step),p.threads[t]? =some x/\x.steps[i]? =some s/\zxi p c t s=true/\y=⟨t,i,0⟩)\/
 (∃(t i:Nat) (e:Entry),t<p.threads.length/\(zxq c t)[i]? =some e/\zyy k (zxq c t) i e=true/\y=⟨t,-1,zyk e⟩):=by
 unfold zyP zxQ;rw[List.mem_flatMap];constructor
 ·rintro⟨⟨x,t⟩,hm,h⟩;rw[List.mem_zipIdx_iff_getElem?,List.take_length]at hm;rcases List.mem_append.1 h with h | h
  ·obtain⟨i,s,_,hs,he,rfl⟩:=zAv.1 h;exact .inl ⟨t,x,i,s,hm,hs,he,rfl⟩
  ·obtain⟨i,e,_,hs,he,rfl⟩:=zBd.1 h;exact .inr ⟨t,i,e,(zH.1 hm).1,hs,he,rfl⟩
 ·rintro(⟨t,x,i,s,hx,hs,he,rfl⟩ | ⟨t,i,e,ht,hi,ho,rfl⟩)
  ·refine⟨(x,t),?_,List.mem_append_left _ (zAv.2 ⟨i,s,(zH.1 hs).1,hs,he,rfl⟩)⟩;rw[List.mem_zipIdx_iff_getElem?,List.take_length];exact hx
  ·refine⟨(p.threads[t],t),?_,List.mem_append_right _ (zBd.2 ⟨i,e,(zH.1 hi).1,hi,ho,rfl⟩)⟩;rw[List.mem_zipIdx_iff_getElem?,List.take_length];exact zI ht
theorem zz3 {p:Prog} {e:Entry} (h:Proper p e):zyk e∈e.cells:=by
 have:=h.ne;unfold zyk
 cases hc:e.cells with
 | nil=>exact absurd hc this
 | cons a r=>simp
theorem zAN {p:Prog} {k:Int} {b:List Entry} (hb: ∀e∈b,Proper p e) {i j:Nat} {e f:Entry} (hi:b[i]? =some e) (hj:b[j]? =some f) (ho:zyy k b j f=true) (At:i<j):zyk e≠zyk f:=by
 intro he;unfold zyy at ho;simp only[Bool.or_eq_true,decide_eq_true_eq,zF,Bool.not_eq_true']at ho;rcases ho with h | ⟨_,h⟩
 ·omega
 ·have CB:e∈b.take j:=by
   have:(b.take j)[i]? =some e:=by rw[zO,if_pos At];exact hi
   exact zL this
  have:zyb (b.take j) f=true:=by
   rw[zyb,List.any_eq_true];refine⟨e,CB,?_⟩;rw[zAr,List.any_eq_true];refine⟨zyk f,zz3 (hb f (zL hj)),?_⟩;rw[<- he];simpa using zz3 (hb e (zL hi))
  rw[this]at h;simp at h
theorem zjV {k:Int} {b:List Entry} {n:Int} {i:Nat} (h:zAR k b n=some i): ∃e,b[i]? =some e/\zyy k b i e=true/\zyk e=n:=by
 have:=List.find?_some h
 try simp only at this
 split at this
 ·rename_i e he;simp only[zF,decide_eq_true_eq]at this;exact⟨e,he,this.1,this.2⟩
 ·simp at this
theorem zjf {p:Prog} {k:Int} {b:List Entry} (hb: ∀e∈b,Proper p e) {i:Nat} {e:Entry} (hi:b[i]? =some e) (ho:zyy k b i e=true):zAR k b (zyk e)=some i:=by
 have Cb:=(zH.1 hi).1
 cases hf:zAR k b (zyk e)with
 | none=>
   unfold zAR at hf;rw[List.find?_eq_none]at hf;have:=hf i (List.mem_range.2 Cb);rw[hi]at this
   simp[ho]at this
 | some j=>
   obtain⟨f,hj,NM,hh⟩:=zjV hf;rcases Nat.lt_trichotomy i j with h | h | h
   ·exact absurd hh.symm (zAN hb hi hj NM h)
   ·rw[h]
   ·exact absurd hh (zAN hb hj hi ho h)
theorem zfP {p:Prog} {k:Int} {c:Config} {t i:Nat} {x:Thread} {s:Step} (hx:p.threads[t]? =some x) (hs:x.steps[i]? =some s) (he:zxi p c t s=true):zyN p k c ⟨t,i,0⟩=(zyO p c t s,0):=by
 have ht:=(zH.1 hx).1;have e1:zdb p ⟨t,i,0⟩=some s:=by simp[zdb,hx,hs]
 rw[zyN,if_neg (by simp only;omega),if_neg (by simp only;omega),e1];simp[he]
theorem zef {p:Prog} {k:Int} {c:Config} (hc:IsB p c) {t i:Nat} {e:Entry} (ht:t<p.threads.length) (hi:(zxq c t)[i]? =some e) (ho:zyy k (zxq c t) i e=true):zyN p k c ⟨t,-1,zyk e⟩=(zxr c t i,0):=by
 have hb:=(hc.buf t _ (zx4 (by rw[hc.lb];exact ht))).2.1;rw[zyN,if_neg (by simp only;omega),if_pos rfl];simp only[Int.toNat_natCast,zjf hb hi ho]
theorem zmR {p:Prog} (hf:zw6 p=true) {k:Int} {c:Config} (hc:IsB p c) {y:Choice} (hy:y∈zyP p k c): ∃d,zyN p k c y=(d,0)/\IsB p d:=by
 rcases zen.1 hy with⟨t,x,i,s,hx,hs,he,rfl⟩ | ⟨t,i,e,ht,hi,ho,rfl⟩
 ·exact⟨_,zfP hx hs he,zji hf hc hx hs he⟩
 ·exact⟨_,zef hc ht hi ho,zf4 hc hi⟩
def zxv (p:Prog) (k:Int) (c:Config):List Choice:=if k=0 then zxP p c else zyP p k c
def zzh (p:Prog) (k:Int) (c:Config) (x:Choice):Config×Int:=if k=0 then zz9 p c x else zyN p k c x
structure IsK (p:Prog) (k:Int) (c:Config):Prop where
 b:IsB p c
 q:k=0-> ∀b∈c.buf,b=[]
theorem IsK.c {p:Prog} {c:Config} {k:Int} (h:IsK p k c) (hk:k=0):isM p c=true:=zzU.2 (zDs h.b (h.q hk))
theorem zgn {p:Prog} (hf:zw6 p=true) {k:Int} {c:Config} (hc:IsK p k c) {y:Choice} (hy:y∈zxv p k c): ∃d,zzh p k c y=(d,0)/\IsK p k d:=by
 unfold zxv at hy;unfold zzh;split at hy
 ·rename_i hk;obtain⟨t,x,i,s,hx,hs,he,rfl,hn,hd⟩:=zk1 hf (hc.c hk) hy;rw[if_pos hk];have:=zzU.1 hd;exact⟨_,hn,znN this,fun _=>this.buf⟩
 ·rename_i hk;rw[if_neg hk];obtain⟨d,hn,hd⟩:=zmR hf hc.b hy;exact⟨d,hn,hd,fun h=>absurd h hk⟩
theorem zeG {p:Prog} (hf:zw6 p=true) (k:Int):IsK p k (zxz p):=⟨zku hf,fun _=>(zzU.1 (zBu hf)).buf⟩
end Rg
end
section
namespace Rg
open Go
theorem zcf {c:Config} (hq: ∀b∈c.buf,b=[]) (t:Nat):zxq c t=[]:=by
 unfold zxq;rw[zK]
 cases h:c.buf[t]? with
 | none=>rfl
 | some b=>exact hq b (zL h)
theorem zfJ {c:Config} (hq: ∀b∈c.buf,b=[]) (t:Nat):zxd c t=c.mem:=by rw[zxd,zcf hq];rfl
theorem zdG {p:Prog} {c:Config} (hq: ∀b∈c.buf,b=[]) (t:Nat) (s:Step):zxi p c t s=zxX p c t s:=by
 unfold zxi zxX;rw[zfJ hq,zcf hq,zcf hq]
 congr 1
 by_cases h3:s.kind=3
 ·rw[if_pos h3,if_neg (show ¬s.kind=6 by omega),if_neg (show ¬s.kind=7 by omega)];split<;>simp
 ·rw[if_neg h3]
  by_cases GB:s.kind=4\/s.kind=5
  ·rw[if_pos GB,if_neg (show ¬s.kind=6 by omega),if_neg (show ¬s.kind=7 by omega)];simp
  ·rw[if_neg GB]
   by_cases h6:s.kind=6
   ·rw[if_pos h6,if_pos h6];simp
   ·rw[if_neg h6,if_neg h6];split<;>simp
theorem zAL {p:Prog} {c:Config} (hq: ∀b∈c.buf,b=[]) (k:Int):zyP p k c=zxP p c:=by
 unfold zyP zxQ zxP zya
 congr 1
 funext q
 rw[zcf hq];have e1:zz0 k q.2 [] ([]:List Entry).length=[]:=rfl;rw[e1,List.append_nil];unfold zy1 zyo
 congr 1
 funext r
 rw[zdG hq]
theorem zkP {p:Prog} {c:Config} (hl:c.buf.length=p.threads.length) (hq: ∀b∈c.buf,b=[]):c.buf=p.threads.map fun _=>[]:=by
 refine List.ext_getElem (by simp[hl]) fun i h1 h2=> ?_
 rw[List.getElem_map];exact hq _ (List.getElem_mem h1)
theorem zdU (p:Prog) (c:Config) (t:Nat) (x:Thread) (i:Nat):(zy1 p c t x i).length<=i:=by
 unfold zy1;refine Nat.le_trans (List.length_filterMap_le _ _) ?_;simp;omega
theorem zhB (k:Int) (t:Nat) (b:List Entry) (i:Nat):(zz0 k t b i).length<=i:=by
 unfold zz0;refine Nat.le_trans (List.length_filterMap_le _ _) ?_;simp;omega
theorem zh0 {p:Prog} {c:Config} {t:Nat} {x:Thread} {i:Nat} {s:Step} (h:x.steps[i]? =some s):
 zy1 p c t x (i+1)=zy1 p c t x i++(if zxi p c t s then [⟨t,i,0⟩]else []):=by
 unfold zy1;rw[zbL h,List.filterMap_append]
 congr 1
 cases hh:zxi p c t s<;>simp[hh]
theorem zj0 {k:Int} {t:Nat} {b:List Entry} {i:Nat} {e:Entry} (h:b[i]? =some e):
 zz0 k t b (i+1)=zz0 k t b i++(if zyy k b i e then [⟨t,-1,zyk e⟩]else []):=by
 unfold zz0;rw[zbL h,List.filterMap_append]
 congr 1
 cases hh:zyy k b i e<;>simp[hh]
theorem zdh {p:Prog} {k:Int} {c:Config} {i:Nat} {x:Thread} (h:p.threads[i]? =some x):
 zxQ p k c (i+1)=zxQ p k c i++(zy1 p c i x x.steps.length++zz0 k i (zxq c i) (zxq c i).length):=by
 unfold zxQ;rw[zbL h,List.flatMap_append];simp
theorem zp0 {p:Prog} {c:Config} (hc:IsB p c) (t:Nat):(zxq c t).length<=3:=by
 rcases Nat.lt_or_ge t c.buf.length with h | h
 ·exact(hc.buf t _ (zx4 h)).1
 ·simp[zxq,List.getD,List.getElem?_eq_none h]
theorem zcv {p:Prog} (hf:zw6 p=true) {k:Int} {c:Config} (hc:IsB p c): ∀i:Nat,(zxQ p k c i).length<=67*i
 | 0=>by simp[zxQ]
 | i+1=>by
   have ih:=zcv hf (k:=k) hc i;rcases hx:p.threads[i]? with _ | x
   ·have:p.threads.length<=i:=by simpa using hx
    have e:zxQ p k c (i+1)=zxQ p k c i:=by
     unfold zxQ;rw[List.take_of_length_le (by omega),List.take_of_length_le (by omega)]
    rw[e];omega
   ·have h1:=((zw8 (zw9 hf).1).2 x (zL hx)).2.1;have h2:=zdU p c i x x.steps.length;have h3:=zhB k i (zxq c i) (zxq c i).length;have h4:=zp0 hc i;rw[zdh hx,zM,zM];omega
theorem zeo {p:Prog} (hf:zw6 p=true) {k:Int} {c:Config} (hc:IsB p c):(zyP p k c).length<=268:=by
 have h1:=zcv hf (k:=k) hc p.threads.length;have h2:=(zw8 (zw9 hf).1).1.2.2.2;unfold zyP;omega
section
end
theorem zcu {p:Prog} {k:Int} {c:Config} (h:IsK p k c):zxv p k c=zyP p k c:=by
 unfold zxv;split
 ·rename_i hk;exact(zAL (h.q hk) k).symm
 ·rfl
def zBb (p:Prog) (k:Int) (c:Config) (t:Nat) (s:Step):Config:=if k=0 then zzq p c t s else zyO p c t s
theorem zhi {p:Prog} (hf:zw6 p=true) {k:Int} {c:Config} (hc:IsK p k c) {y:Choice} (hy:y∈zxv p k c):
 (∃(t:Nat) (x:Thread) (i:Nat) (s:Step),p.threads[t]? =some x/\x.steps[i]? =some s/\zxi p c t s=true/\y=⟨t,i,0⟩/\zzh p k c y=(zBb p k c t s,0)/\IsK p k (zBb p k c t s))\/
 (k≠0/\ ∃(t i:Nat) (e:Entry),t<p.threads.length/\(zxq c t)[i]? =some e/\zyy k (zxq c t) i e=true/\y=⟨t,-1,zyk e⟩/\zzh p k c y=(zxr c t i,0)/\IsK p k (zxr c t i)):=by
 have N9:=hy;rw[zcu hc]at N9;rcases zen.1 N9 with⟨t,x,i,s,hx,hs,he,rfl⟩ | ⟨t,i,e,ht,hi,ho,rfl⟩
 ·refine .inl ⟨t,x,i,s,hx,hs,he,rfl,?_⟩
  by_cases hk:k=0
  ·have hq:=hc.q hk;rw[zdG hq]at he;have hm:(⟨t,i,0⟩:Choice)∈zxP p c:=zdv.2 ⟨t,x,i,s,hx,hs,he,rfl⟩;obtain⟨t',x',i',s',DX,Lo,_,EK,hn,hd⟩:=zk1 hf (hc.c hk) hm;simp only[Choice.mk.injEq,Int.natCast_inj,and_true]at EK;obtain⟨rfl,rfl⟩:=EK;rw[hx]at DX;cases DX;rw[hs]at Lo;cases Lo;have h1:=zzU.1 hd;simp only[zzh,zBb,if_pos hk];exact⟨hn,znN h1,fun _=>h1.buf⟩
  ·simp only[zzh,zBb,if_neg hk];exact⟨zfP hx hs he,zji hf hc.b hx hs he,fun h=>absurd h hk⟩
 ·have hk:k≠0:=by
   intro hk;rw[zcf (hc.q hk)]at hi;simp at hi
  refine .inr ⟨hk,t,i,e,ht,hi,ho,rfl,?_⟩;simp only[zzh,if_neg hk];exact⟨zef hc.b ht hi ho,zf4 hc.b hi,fun h=>absurd h hk⟩
end Rg
end
