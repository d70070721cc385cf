/- Part of the proof of laws of relyguardtop. No condition. -/
import Derived.Test.YtdmkjfdlieokcaaGreatDoorHartAM
import Derived.Test.YtdmkjfdlieokcaaGreatDoorHartAK
set_option linter.unusedSimpArgs false
set_option linter.unusedVariables false
section
namespace Rg
open Go
structure Config.sane (c:Config):Prop where
 mem:c.mem.length<2^48
 at_:c.at_.length<2^48
 buf:c.buf.length<2^48
theorem zm0 (p:Prog) (hf:zak p=true) (c:Config) (hc:c.sane):Den Γ G 43 [(.agg [.t (.sl ((p).cells.map (Cell.enc))),.t (.sl ((p).modules.map (Contract.enc))),.t (.sl ((p).locks.map (Lock.enc))),.t (.sl ((p).threads.map (Thread.enc)))]),(.agg [.t (ints (c).mem),.t (ints (c).at_),.t (.sl ((c).buf.map (fun b=>[.sl (b.map Entry.enc)])))])]=some (vb (isM p c)):=by
 (refine zag Γ43 rfl ?_;dsimp only[f43])
 obtain⟨Dr,CG,Oi⟩:=hc;simp -dsimp only[go_sem,seval]
 by_cases hl:(c.mem.length:Int)=p.cells.length/\(c.at_.length:Int)=p.threads.length/\(c.buf.length:Int)=p.threads.length
 ·obtain⟨l1,l2,l3⟩:=hl;have l1':decide (¬(c.mem.length:Int)=p.cells.length)=false:=by simp[l1]
  have l2':decide (¬(c.at_.length:Int)=p.threads.length)=false:=by simp[l2]
  have l3':decide (¬(c.buf.length:Int)=p.threads.length)=false:=by simp[l3]
  have hF:isM p c=((c.mem.zip p.cells).all zc9&&((c.at_.zip p.threads).all zgI&&c.buf.all List.isEmpty)):=by
   have e1:c.mem.length=p.cells.length:=by omega
   have e2:c.at_.length=p.threads.length:=by omega
   have e3:c.buf.length=p.threads.length:=by omega
   simp[isM,zhA,e1,e2,e3,Bool.and_assoc]
  have z1:(c.mem.zip p.cells).length=c.mem.length:=by rw[List.length_zip];omega
  have z2:(c.at_.zip p.threads).length=c.at_.length:=by rw[List.length_zip];omega
  simp -dsimp only[go_sem,seval,l1',l2',l3'];refine zaT 144114913197949040 c.mem.length (fun i f=>(f 38).v=vi i/\(c.mem.zip p.cells).all zc9=((c.mem.zip p.cells).drop i).all zc9) rfl rfl ⟨by simp -dsimp only[go_sem,seval],rfl⟩ ?_;rintro i f u kk bb hi ⟨Mg,Aa⟩;have hw:=zan i (by omega);simp -dsimp only[go_sem,seval,Mg];refine zac (fun h=> ?_) (fun h=> ?_)<;>(try rw[h])<;>(try simp only[zah]at h)<;>(try simp -dsimp only[go_sem,seval,Mg])
  ·obtain⟨v,hv,_⟩:=zai ‹i<c.mem.length›;obtain⟨x,hx,C1⟩:=zai (show i<p.cells.length by omega);obtain⟨w1,w2,_⟩:=zdm hf C1;have Bo:=ziH (w:=x.w) (by omega);have FT: ¬x.w<0:=by omega
   have hz:=zhh hv hx;simp -dsimp only[go_sem,seval,Mg,hv,hx]
   repeat'(refine zac (fun h=> ?_) (fun h=> ?_)<;>(try rw[h])<;>(try simp only[zah]at h)<;>(try simp -dsimp only[go_sem,seval,Mg,hv,hx,Bo,FT]))
   all_goals first
    | (rw[hF,Aa,za6 hz (by simp only[zc9,Bool.and_eq_false_iff,decide_eq_false_iff_not];omega)];simp;done)
    | (refine⟨by omega,by simp -dsimp only[go_sem,seval,hw],?_⟩
       rw[Aa,za7 hz (by simp only[zc9,zF,decide_eq_true_eq];omega)])
  ·have:i=c.mem.length:=by omega
   subst this;have hz:=zbB zc9 (c.mem.zip p.cells);rw[z1]at hz;rw[hz]at Aa;rw[Aa,Bool.true_and]at hF;clear Aa Mg hw;refine zaT 158456325027375753682481054608 c.at_.length (fun i f=>(f 60).v=vi i/\((c.at_.zip p.threads).all zgI&&c.buf.all List.isEmpty)=(((c.at_.zip p.threads).drop i).all zgI&&(c.buf.drop i).all List.isEmpty)) rfl rfl ⟨by simp -dsimp only[go_sem,seval],rfl⟩ ?_;rintro i f u kk bb hi ⟨IK,Aa⟩;have hw:=zan i (by omega);simp -dsimp only[go_sem,seval,IK];refine zac (fun h=> ?_) (fun h=> ?_)<;>(try rw[h])<;>(try simp only[zah]at h)<;>(try simp -dsimp only[go_sem,seval,IK])
   ·obtain⟨v,hv,_⟩:=zai ‹i<c.at_.length›;obtain⟨x,hx,C1⟩:=zai (show i<p.threads.length by omega);obtain⟨b,Ds,_⟩:=zai (show i<c.buf.length by omega);have hz:=zhh hv hx;cases Bj:zgI (v,x)
    ·rw[hF,Aa,za6 hz Bj,Bool.false_and];simp -dsimp only[go_sem,seval,IK,hv,hx]
     repeat'(refine zac (fun h=> ?_) (fun h=> ?_)<;>(try rw[h])<;>(try simp only[zah]at h)<;>(try simp -dsimp only[go_sem,seval,IK,hv,hx,Ds]))
     all_goals(exfalso;simp only[zgI,Bool.and_eq_false_iff,decide_eq_false_iff_not,Bool.not_eq_false',zF,decide_eq_true_eq,Bool.not_eq_true']at Bj;simp_all;try omega)
    ·have If:=Bj;simp only[zgI,zF,decide_eq_true_eq,Bool.not_eq_true',Bool.and_eq_false_iff,decide_eq_false_iff_not,Bool.not_eq_false']at If;obtain⟨⟨a1,a2⟩,a3⟩:=If;have b1: ¬v< -1:=by omega
     have b2: ¬v>=x.points:=by omega
     cases b with
     | nil=>
       simp -dsimp only[go_sem,seval,IK,hv,hx,b1,b2,Ds]
       repeat'(refine zac (fun h=> ?_) (fun h=> ?_)<;>(try rw[h])<;>(try simp only[zah]at h)<;>(try simp -dsimp only[go_sem,seval,IK,hv,hx,Ds]))
       all_goals first
        | (exfalso;simp_all;done)
        | (refine⟨by omega,by simp -dsimp only[go_sem,seval,hw],?_⟩
           rw[Aa,za7 hz Bj,za7 Ds rfl])
     | cons e r=>
       have D4:(((e::r).length:Nat):Int)>0:=by show((r.length+1:Nat):Int)>0;omega
       rw[hF,Aa,za6 Ds rfl,Bool.and_false];simp -dsimp only[go_sem,seval,IK,hv,hx,b1,b2,Ds,D4]
       repeat'(refine zac (fun h=> ?_) (fun h=> ?_)<;>(try rw[h])<;>(try simp only[zah]at h)<;>(try simp -dsimp only[go_sem,seval,IK,hv,hx,Ds,D4]))
       all_goals(exfalso;simp_all;try omega)
   ·have:i=c.at_.length:=by omega
    subst this;have hz:=zbB zgI (c.at_.zip p.threads);rw[z2]at hz;have Fb:=zbB List.isEmpty c.buf;rw[show c.buf.length=c.at_.length by omega]at Fb;rw[hF,Aa,hz,Fb];rfl
 ·have hF:isM p c=false:=by
   by_cases e1:c.mem.length=p.cells.length
   ·by_cases e2:c.at_.length=p.threads.length
    ·have e3: ¬c.buf.length=p.threads.length:=by omega
     simp[isM,e3]
    ·simp[isM,zhA,e2]
   ·simp[isM,zhA,e1]
  rw[hF]
  repeat'(refine zac (fun h=> ?_) (fun h=> ?_)<;>(try rw[h])<;>(try simp only[zah]at h)<;>(try simp -dsimp only[go_sem,seval]))
  all_goals(exfalso;omega)
end Rg
end
section
namespace Rg
open Go
end Rg
end
section
namespace Rg
open Go
theorem zaF.cells {h:Nat->Option O} {x:Nat} {v:V} {sz:Nat} {rows:List (List V)} (o:zaF h x v sz rows):v.cells=some [v]:=by
 rcases o with⟨rfl,_⟩ | ⟨k,rfl,_,_⟩<;>rfl
def zcm (p:Prog):Config:=
 if zak p then⟨p.cells.map Cell.init,p.threads.map fun x=>if x.asleep then -1 else 0,p.threads.map fun _=>[]⟩else⟨[],[],[]⟩
theorem zg0 (h:Nat->Option O): ∀n:Nat,(List.replicate n [V.t .nils]).mapM (fun row=>row.mapM (toT h 999))=some (List.replicate n [T.sl []])
 | 0=>rfl
 | n+1=>by rw[List.replicate_succ,List.replicate_succ,List.mapM_cons,zg0 h n];rfl
theorem zdK {α β:Type} (l:List α) (b:β):List.replicate l.length b=l.map fun _=>b:=by
 induction l with
 | nil=>rfl
 | cons x r ih=>simp[List.replicate_succ,ih]
def zde (l:List Int) (i:Nat):List Int:=l.take i++List.replicate (l.length-i) 0
theorem zpB (l:List Int):zde l 0=List.replicate l.length 0:=by simp[zde]
theorem zkS (l:List Int):zde l l.length=l:=by simp[zde]
theorem zkR (l:List Int) {i:Nat} (h:i<=l.length):(zde l i).length=l.length:=by simp[zde];omega
theorem zkQ {l:List Int} {i:Nat} {x:Int} (h:l[i]? =some x):(zde l i).set i x=zde l (i+1):=by
 have hi:i<l.length:=(zH.1 h).1;apply List.ext_getElem?;intro j;simp only[zde];rw[List.getElem?_set];have Ad:(l.take i).length=i:=by simp;omega
 have Af:(l.take (i+1)).length=i+1:=by simp;omega
 by_cases hj:i=j
 ·subst hj;have Ac:i<(l.take i++List.replicate (l.length-i) 0).length:=by simp;omega
  rw[if_pos rfl,if_pos Ac,List.getElem?_append_left (by omega),zO,if_pos (by omega),h]
 ·rw[if_neg hj]
  by_cases H1:j<i
  ·rw[List.getElem?_append_left (by omega),List.getElem?_append_left (by omega),zO,zO,if_pos H1,if_pos (by omega)]
  ·rw[List.getElem?_append_right (by omega),List.getElem?_append_right (by omega),Ad,Af,List.getElem?_replicate,List.getElem?_replicate]
   by_cases Pi:j<l.length
   ·rw[if_pos (by omega),if_pos (by omega)]
   ·rw[if_neg (by omega),if_neg (by omega)]
theorem zoj {l:List Int} {i:Nat} (h:l[i]? =some 0):zde l i=zde l (i+1):=by
 have hi:i<l.length:=(zH.1 h).1;simp only[zde,zaf h];rw[zQ,show l.length-i=(l.length-(i+1))+1 by omega,List.replicate_succ];rfl
theorem zaI (l:List Int) (i:Nat) (x:Int):(zae l).set i [vi x]=zae (l.set i x):=by simp[zae,List.map_set]
theorem zgR (n:Nat):zae (List.replicate n 0)=List.replicate n [vi 0]:=by simp[zae]
theorem zbn {l:List Int} {i:Nat} (h:i<l.length):(zae l)[i]? =some [vi l[i]]:=by simp[zae,h]
theorem zbw (h:Nat->Option O) (d:Nat) (l:List Int):(zae l).mapM (fun row=>row.mapM (toT h d))=some (l.map fun n=>[ti n]):=zdJ h d (l.map fun n=>[ti n]) (zbP _)
theorem zki (p:Prog) (hs:p.sane):Den Γ G 12 [(zP p)]=some (.agg [.t (ints (zcm p).mem),.t (ints (zcm p).at_),.t (.sl ((zcm p).buf.map (fun b=>[.sl (b.map Entry.enc)])))]):=by
 (refine zag Γ12 rfl ?_;dsimp only[f12])
 have h1:=zdC p hs;simp -dsimp only[go_sem,seval,h1];refine zac (fun h=> ?_) (fun h=> ?_)<;>(try rw[h])<;>(try simp only[zah]at h)<;>(try simp -dsimp only[go_sem,seval])
 ·simp[zcm,h]
 ·have hf:zak p=true:=by assumption
  obtain⟨⟨l1,l2,l3,l4⟩,l5⟩:=zal (zam hf).1;have A5:(p.threads.length:Int)<=4294967296:=by omega
  have HV:(p.cells.length:Int)<=4294967296:=by omega
  generalize Fk:p.cells.map Cell.init=mems
  have Jw:mems.length=p.cells.length:=by rw[<- Fk];simp
  generalize Bj:(p.threads.map fun x=>if x.asleep then(-1:Int)else 0)=ats
  have FH:ats.length=p.threads.length:=by rw[<- Bj];simp
  simp -dsimp only[go_sem,seval,A5,HV,Int.le_refl];have r1:=zgR p.cells.length;have r2:=zgR p.threads.length
  refine zaq 1099444518928 p.cells.length (fun i f h x=>(f 26).v=vi i/\h 8=some (.rows 1 (zae (zde mems i)) false)/\h 12=some (.rows 1 (zae (List.replicate p.threads.length 0)) false)/\h 16=some (.rows 1 (List.replicate p.threads.length [.t .nils]) false))
   rfl ⟨by simp -dsimp only[go_sem,seval],by simp -dsimp only[go_sem,seval];rw[zpB,Jw,r1],by simp -dsimp only[go_sem,seval];rw[r2],by simp -dsimp only[go_sem,seval]⟩ ?_
  rintro i f u H x bs hi ⟨Fx,g8,g12,g16⟩;have hw:=zan i (by omega);simp -dsimp only[go_sem,seval,Fx];refine zac (fun h=> ?_) (fun h=> ?_)<;>(try rw[h])<;>(try simp only[zah]at h)<;>(try simp -dsimp only[go_sem,seval,Fx])
  ·obtain⟨c,hc,_⟩:=zai ‹i<p.cells.length›;have Bz:mems[i]? =some c.init:=by rw[<- Fk];simp[hc]
   have H5:=zkR mems (i:=i) (by omega);have B5:=zbn (l:=zde mems i) (i:=i) (by omega);have AE:=zaI (zde mems i) i c.init;rw[zkQ Bz]at AE;have AV:i<p.cells.length:=by assumption
   simp -dsimp only[go_sem,seval,Fx,hc,g8,B5,AV];refine⟨by omega,by simp -dsimp only[go_sem,seval,hw],?_,?_,?_⟩
   ·simp -dsimp only[go_sem,seval,AE]
   ·simp -dsimp only[go_sem,seval,g12]
   ·simp -dsimp only[go_sem,seval,g16]
  ·have:i=p.cells.length:=by omega
   subst this;rw[<- Jw,zkS]at g8
   refine zaq 144106391982833696 p.threads.length (fun i f h x=>(f 43).v=vi i/\h 8=some (.rows 1 (zae mems) false)/\h 12=some (.rows 1 (zae (zde ats i)) false)/\h 16=some (.rows 1 (List.replicate p.threads.length [.t .nils]) false))
    rfl ⟨by simp -dsimp only[go_sem,seval],by simp -dsimp only[go_sem,seval,g8],by simp -dsimp only[go_sem,seval,g12,zpB,FH],by simp -dsimp only[go_sem,seval,g16]⟩ ?_
   clear Fx g8 g12 g16 hw;rintro i f u H x bs hi ⟨Mf,g8,g12,g16⟩;have hw:=zan i (by omega);simp -dsimp only[go_sem,seval,Mf];refine zac (fun h=> ?_) (fun h=> ?_)<;>(try rw[h])<;>(try simp only[zah]at h)<;>(try simp -dsimp only[go_sem,seval,Mf])
   ·obtain⟨c,hc,_⟩:=zai ‹i<p.threads.length›;have Bz:ats[i]? =some (if c.asleep then(-1:Int)else 0):=by rw[<- Bj];simp[hc]
    have H5:=zkR ats (i:=i) (by omega);have B5:=zbn (l:=zde ats i) (i:=i) (by omega);have AV:i<p.threads.length:=by assumption
    simp -dsimp only[go_sem,seval,Mf,hc];cases Eo:c.asleep
    ·rw[Eo]at Bz;have hz:=zoj (l:=ats) (i:=i) (by simpa using Bz);simp -dsimp only[go_sem,seval,Mf];refine⟨by omega,by simp -dsimp only[go_sem,seval,hw],by simp -dsimp only[go_sem,seval,g8],by simp -dsimp only[go_sem,seval,g12,hz],by simp -dsimp only[go_sem,seval,g16]⟩
    ·rw[Eo]at Bz;have AE:=zaI (zde ats i) i (-1);rw[zkQ (by simpa using Bz)]at AE;simp -dsimp only[go_sem,seval,Mf,g12,B5,AV];refine⟨by omega,by simp -dsimp only[go_sem,seval,hw],by simp -dsimp only[go_sem,seval,g8],by simp -dsimp only[go_sem,seval,AE],by simp -dsimp only[go_sem,seval,g16]⟩
   ·have:i=p.threads.length:=by omega
    subst this;rw[<- FH,zkS]at g12;have t2:List.take p.threads.length (List.replicate p.threads.length [V.t .nils])=List.replicate p.threads.length [V.t .nils]:=List.take_of_length_le (by simp);have t3:=zg0 H p.threads.length;have t4:List.take p.cells.length (zae mems)=zae mems:=List.take_of_length_le (by rw[zab];omega);have t5:List.take p.threads.length (zae ats)=zae ats:=List.take_of_length_le (by rw[zab];omega);have t6:=zbw H 999 mems;have t7:=zbw H 999 ats;simp -dsimp only[go_sem,seval,t2,t3,t4,t5,t6,t7,g8,g12,g16,List.length_replicate,Nat.le_refl,zab,Jw,FH];simp[zcm,hf,Bj,Fk,zdK]
end Rg
end
section
-- FULL
namespace Rg
open Go
def zc1 (p:Prog) (t:Int):Int:=match p.threads[t.toNat]? with
 | some x=>x.points
 | none=>0
def zb8 (p:Prog) (c:Config) (t:Int) (s:Step):Bool:=
 decide (atI c.at_ t=s.fr)&&decide (s.guard.eval c.mem c.mem=1)&&
  (if s.kind=6 then decide (atI c.at_ s.target= -1)else if s.kind=7 then decide (atI c.at_ s.target=zc1 p s.target-1)else true)
structure StepOk (p:Prog) (t:Int) (x:Thread) (s:Step):Prop where
 kind:1<=s.kind/\s.kind<=7
 fr:0<=s.fr/\s.fr<x.points-1
 to:0<=s.to/\s.to<x.points
 rng:zjN p s
 row:zbG p t s=true
 tgt:s.kind=6\/s.kind=7->inR s.target p.threads.length=true/\s.target≠t
 wid: ∀a∈s.set,∃y,p.cells[a.cell.toNat]? =some y/\a.to.w=y.w
 dif: ∀(i j:Nat) (a b:Assign),s.set[i]? =some a->s.set[j]? =some b->a.cell=b.cell->i=j
theorem zkl {p:Prog} {set:List Assign}: ∀{l:List Assign} {i:Nat},(zco (zbC p set) i l).1=0-> ∀a∈l,∃y,p.cells[a.cell.toNat]? =some y/\a.to.w=y.w
 | [],_,_,a,ha=>by simp at ha
 | x::r,i,h,a,ha=>by
   rw[zco]at h;split at h
   ·rename_i h0;rcases List.mem_cons.1 ha with rfl | ha
    ·unfold zbC at h0;split at h0
     ·simp at h0
     ·split at h0
      ·simp at h0
      ·rename_i h2;simp only[Bool.or_eq_true,not_or,Bool.not_eq_true',Bool.not_eq_false]at h2;have:=h2.2;unfold zby at this;rcases hy:p.cells[a.cell.toNat]? with _ | y
       ·rw[hy]at this;simp at this
       ·rw[hy]at this;exact⟨y,rfl,by simpa using this⟩
    ·exact zkl h a ha
   ·rename_i h0;exact absurd h h0
theorem zkm {p:Prog} {set:List Assign}: ∀{l:List Assign} {i:Nat},set.drop i=l->(zco (zbC p set) i l).1=0-> ∀(j:Nat) (a:Assign),i<=j->set[j]? =some a->(set.take j).any (fun b=>decide (b.cell=a.cell))=false
 | [],i,hd,_,j,a,Av,ha=>by
   have:set.length<=i:=by simpa using hd
   have:=(zH.1 ha).1
   omega
 | x::r,i,hd,h,j,a,Av,ha=>by
   rw[zco]at h
   have OQ:set[i]? =some x:=by
    have:=congrArg (·[0]?) hd;simpa using this
   have GW:set.drop (i+1)=r:=by
    have:=zdo OQ;rw[hd]at this;exact(List.cons.inj this).2.symm
   split at h
   ·rename_i h0
    by_cases hj:j=i
    ·subst hj;rw[OQ]at ha;cases ha;unfold zbC at h0;split at h0
     ·simp at h0
     ·rename_i h1;simp only[Bool.or_eq_true,not_or,Bool.not_eq_true]at h1;exact h1.2
    ·exact zkm GW h j a (by omega) ha
   ·rename_i h0;exact absurd h h0
theorem zrt {p:Prog} {t:Int} {x:Thread} {s:Step} (h:zaS p t x.points s=0):StepOk p t x s:=by
 unfold zaS at h;split at h
 ·simp at h
 ·rename_i hb;split at h
  ·simp at h
  ·rename_i hg;split at h
   ·rename_i h0;exact absurd h h0
   ·rename_i hs;split at h
    ·rename_i hk;have hs:(zco (zbC p s.set) 0 s.set).1=0:=by simpa using hs
     have Bf:zdW p x.points s=false:=by simpa using hb
     simp only[zdW,Bool.or_eq_false_iff,Bool.and_eq_false_iff,Bool.not_eq_false',decide_eq_false_iff_not]at Bf;obtain⟨⟨⟨⟨⟨⟨b1,b2⟩,b3⟩,b4⟩,b5⟩,b6⟩,b7⟩:=Bf;simp only[inR,decide_eq_true_eq]at b3 b4;simp only[Bool.or_eq_true,not_or,Bool.not_eq_true',Bool.not_eq_false,decide_eq_true_eq]at hg;refine⟨by omega,b3,b4,⟨hg.1,zed (set:=s.set) hs⟩,hk,fun Q3=> ?_,zkl hs,fun i j a b ha hb Ca=> ?_⟩
     ·rw[zbG,if_neg (by omega),if_neg (by omega),if_neg (by omega),if_neg (by omega),if_neg (by omega)]at hk
      have hj:zdd p t s=true:=by
       split at hk
       ·simp only[zF]at hk;exact hk.1
       ·exact hk
      simp only[zdd,zF,decide_eq_true_eq]at hj;exact⟨hj.2,hj.1.2⟩
     ·have key: ∀(i j:Nat) (a b:Assign),s.set[i]? =some a->s.set[j]? =some b->a.cell=b.cell-> ¬i<j:=fun i j a b ha hb Ca Ad=>by
       have:=zkm (i:=0) rfl hs j b (by omega) hb;rw[zcx ha Ad (by simpa using Ca)]at this;simp at this
      have h1:=key i j a b ha hb Ca;have h2:=key j i b a hb ha Ca.symm;omega
    ·simp at h
theorem zmf {p:Prog}: ∀{l:List Thread} {i:Nat},zep p i l=(0,-1,-1)-> ∀(j:Nat) (x:Thread),l[j]? =some x->(zap p (i+j) x).1=0
 | [],_,_,j,x,hx=>by simp at hx
 | y::r,i,h,j,x,hx=>by
   rw[zep]at h;split at h
   ·rename_i h0
    cases j with
    | zero=>simp at hx;subst hx;exact h0
    | succ j=>
      have:=zmf h j x (by simpa using hx);rw[show i+(j+1)=i+1+j by omega];exact this
   ·rename_i h0;exact absurd (congrArg Prod.fst h) h0
theorem zg4 {p:Prog} (hf:zak p=true) {t:Nat} {x:Thread} (hx:p.threads[t]? =some x):(zap p t x).1=0:=by
 have:=zmf (zam hf).2.2.2.2 t x hx;simpa using this
theorem zsL {α:Type} {f:Nat->α->Int}: ∀{l:List α} {i:Nat},(zco f i l).1=0-> ∀(j:Nat) (x:α),l[j]? =some x->f (i+j) x=0
 | [],_,_,j,x,hx=>by simp at hx
 | y::r,i,h,j,x,hx=>by
   rw[zco]at h;split at h
   ·rename_i h0
    cases j with
    | zero=>simp at hx;subst hx;exact h0
    | succ j=>
      have:=zsL h j x (by simpa using hx);rw[show i+(j+1)=i+1+j by omega];exact this
   ·rename_i h0;exact absurd h h0
theorem zhJ {p:Prog} {t:Nat} {x:Thread} (h:(zap p t x).1=0):1<=x.points/\(x.asserts.length:Int)=x.points/\(x.modules.length:Int)=x.points/\(zco (fun _ s=>zaS p t x.points s) 0 x.steps).1=0:=by
 unfold zap at h;split at h
 ·simp at h
 ·split at h
  ·simp at h
  ·split at h
   ·simp at h
   ·rename_i h1;split at h
    ·simp at h
    ·split at h
     ·simp at h
     ·split at h
      ·rename_i h0;exact absurd h h0
      ·rename_i h0;exact⟨by omega,by omega,by omega,by simpa using h0⟩
theorem zb7 {p:Prog} (hf:zak p=true) {t i:Nat} {x:Thread} {s:Step} (hx:p.threads[t]? =some x) (hs:x.steps[i]? =some s):StepOk p t x s:=by
 have h1:=(zhJ (zg4 hf hx)).2.2.2;exact zrt (zsL h1 i s hs)
end Rg
end
section
-- FULL
namespace Rg
open Go
theorem zvS {p:Prog} {c:Config} (h:isM p c=true):c.mem.length=p.cells.length/\c.at_.length=p.threads.length/\c.buf.length=p.threads.length:=by
 simp only[isM,zhA,zF,decide_eq_true_eq]at h;exact⟨h.1.1.1.1.1,h.1.1.1.1.2,h.1.2⟩
theorem zdF {l:List Int} {n:Int} {a:Int} (h:l[n.toNat]? =some a):atI l n=a:=by simp[atI,List.getD,h]
theorem zcQ {p:Prog} (hf:zak p=true) {t:Nat} {x:Thread} (hx:p.threads[t]? =some x):1<=x.points/\x.points<=48:=
 ⟨(zhJ (zg4 hf hx)).1,((zal (zam hf).1).2 x (zL hx)).1⟩
theorem znb (p:Prog) (hf:zak p=true) (c:Config) (hc:isM p c=true) (t:Nat) (x:Thread) (hx:p.threads[t]? =some x) (i:Nat) (s:Step) (hs:x.steps[i]? =some s):
 Den Γ G 67 [(zP p),(.agg [.t (ints (c).mem),.t (ints (c).at_),.t (.sl ((c).buf.map (fun b=>[.sl (b.map Entry.enc)])))]),vi t,vi i]=some (vb (zb8 p c t s)):=by
 obtain⟨l1,l2,l3⟩:=zvS hc;have Bm:=zb7 hf hx hs;have Dd:t<p.threads.length:=(zH.1 hx).1;obtain⟨a,ha,_⟩:=zai (show t<c.at_.length by omega);have Gd:atI c.at_ t=a:=zdF (by simpa using ha);have Ak:=zd4 s.guard c.mem c.mem
 (refine zag Γ67 rfl ?_;dsimp only[f67])
 by_cases h1:a=s.fr
 ·by_cases h2:s.guard.eval c.mem c.mem=1
  ·have hE:zb8 p c t s=(if s.kind=6 then decide (atI c.at_ s.target= -1)else if s.kind=7 then decide (atI c.at_ s.target=zc1 p s.target-1)else true):=by
    simp[zb8,Gd,h1,h2]
   rw[h2]at Ak;rw[hE]
   by_cases hk:s.kind=6\/s.kind=7
   ·obtain⟨hr,_⟩:=Bm.tgt hk;simp only[inR,decide_eq_true_eq]at hr;obtain⟨b,hb,_⟩:=zai (show s.target.toNat<c.at_.length by omega);obtain⟨y,hy,_⟩:=zai (show s.target.toNat<p.threads.length by omega);have Ml:=zcQ hf hy;have hw:IntKind.i64.wrap (y.points-1)=y.points-1:=zaH (by omega);have Bf:=zdF hb;have G6:zc1 p s.target=y.points:=by simp[zc1,hy]
    rcases hk with hk | hk
    ·simp -dsimp [go_sem,hx,hs,ha,h1,Ak,hk,hr.1,hb,Bf]
    ·simp -dsimp [go_sem,hx,hs,ha,h1,Ak,hk,hr.1,hb,hy,hw,Bf,G6]
   ·have k6: ¬s.kind=6:=by omega
    have k7: ¬s.kind=7:=by omega
    simp -dsimp [go_sem,hx,hs,ha,h1,Ak,k6,k7]
  ·have hE:zb8 p c t s=false:=by simp[zb8,h2]
   rw[hE];simp -dsimp [go_sem,hx,hs,ha,h1,Ak,h2]
 ·have hE:zb8 p c t s=false:=by simp[zb8,Gd,h1]
  rw[hE];simp -dsimp [go_sem,hx,hs,ha,h1]
def zcK (p:Prog) (c:Config) (t:Nat) (x:Thread) (i:Nat):List Choice:=
 (x.steps.take i).zipIdx.filterMap fun q=>if zb8 p c t q.1 then some ⟨t,q.2,0⟩else none
def zcu (p:Prog) (c:Config) (i:Nat):List Choice:=(p.threads.take i).zipIdx.flatMap fun q=>zcK p c q.2 q.1 q.1.steps.length
def zbt (p:Prog) (c:Config):List Choice:=zcu p c p.threads.length
theorem zdV {α:Type} {l:List α} {i:Nat} {x:α} (h:l[i]? =some x):(l.take (i+1)).zipIdx=(l.take i).zipIdx++[(x,i)]:=by
 have hi:i<l.length:=(zH.1 h).1;rw[zaf h,List.zipIdx_append];simp;omega
theorem zlR {p:Prog} {c:Config} {t:Nat} {x:Thread} {i:Nat} {s:Step} (h:x.steps[i]? =some s):
 zcK p c t x (i+1)=zcK p c t x i++(if zb8 p c t s then [⟨t,i,0⟩]else []):=by
 unfold zcK;rw[zdV h,List.filterMap_append]
 congr 1
 cases hh:zb8 p c t s<;>simp[hh]
theorem zg8 {p:Prog} {c:Config} {i:Nat} {x:Thread} (h:p.threads[i]? =some x):zcu p c (i+1)=zcu p c i++zcK p c i x x.steps.length:=by
 unfold zcu;rw[zdV h,List.flatMap_append];simp
theorem zh4 (p:Prog) (c:Config) (t:Nat) (x:Thread) (i:Nat):(zcK p c t x i).length<=i:=by
 unfold zcK;refine Nat.le_trans (List.length_filterMap_le _ _) ?_;simp;omega
theorem zem {p:Prog} (hf:zak p=true) (c:Config): ∀i:Nat,(zcu p c i).length<=64*i
 | 0=>by simp[zcu]
 | i+1=>by
   have ih:=zem hf c i;rcases hx:p.threads[i]? with _ | x
   ·have:p.threads.length<=i:=by simpa using hx
    have e:zcu p c (i+1)=zcu p c i:=by
     unfold zcu;rw[List.take_of_length_le (by omega),List.take_of_length_le (by omega)]
    rw[e];omega
   ·have h1:=((zal (zam hf).1).2 x (zL hx)).2.1;have h2:=zh4 p c i x x.steps.length;rw[zg8 hx,zM];omega
def zbe (l:List Choice):List (List V):=(l.map Choice.enc).map (·.map V.t)
theorem zbX (l:List Choice):(zbe l).length=l.length:=by simp[zbe]
theorem zcY (l:List Choice) (c:Choice):zbe (l++[c])=zbe l++[[vi c.thread,vi c.step,vi c.cell]]:=by simp[zbe,Choice.enc]
theorem zd0 (l:List Choice):((zbe l).all fun r=>decide (r.length=3))=true:=by simp[zbe,Choice.enc]
theorem zcN (l:List Choice): ∀e∈l.map Choice.enc,∀t∈e,T.norm t=t:=by
 intro e he t ht;obtain⟨n,_,rfl⟩:=List.mem_map.1 he;simp[Choice.enc]at ht;rcases ht with rfl | rfl | rfl<;>rfl
theorem zh5 (p:Prog) (hf:zak p=true) (c:Config) (hc:isM p c=true):Den Γ G 44 [(zP p),(.agg [.t (ints (c).mem),.t (ints (c).at_),.t (.sl ((c).buf.map (fun b=>[.sl (b.map Entry.enc)])))])]=some (.t (.sl ((zbt p c).map Choice.enc))):=by
 (refine zag Γ44 rfl ?_;dsimp only[f44])
 obtain⟨⟨l1,l2,l3,l4⟩,l5⟩:=zal (zam hf).1;simp -dsimp only[go_sem,seval];refine zaq 137438951648 p.threads.length (fun i f h x=>(f 11).v=vi i/\zaF h x (f 5).v 3 (zbe (zcu p c i))) rfl ⟨by simp -dsimp only[go_sem,seval],.inl ⟨by simp -dsimp only[go_sem,seval],rfl⟩⟩ ?_;rintro i f u H x bs hi ⟨Bg,Ab⟩;have hw:=zan i (by omega);simp -dsimp only[go_sem,seval,Bg];refine zac (fun h=> ?_) (fun h=> ?_)<;>(try rw[h])<;>(try simp only[zah]at h)<;>(try simp -dsimp only[go_sem,seval,Bg])
 ·obtain⟨t,ht,IW⟩:=zai ‹i<p.threads.length›;obtain⟨_,AE,_⟩:=l5 t IW;simp -dsimp only[go_sem,seval,Bg,ht];refine zaq 68717379744 t.steps.length (fun j f' h x=>(f' 21).v=vi j/\zaF h x (f' 5).v 3 (zbe (zcu p c i++zcK p c i t j))) rfl ⟨by simp -dsimp only[go_sem,seval],by simp -dsimp only[go_sem,seval,zcK,List.take_zero,List.zipIdx_nil,List.filterMap_nil,List.append_nil];exact Ab.le (by omega)⟩ ?_;clear Ab;rintro j f' u' H' x' bs' hj ⟨Hp,Ab⟩;have Aw:=zan j (by omega);simp -dsimp only[go_sem,seval,Hp];refine zac (fun h=> ?_) (fun h=> ?_)<;>(try rw[h])<;>(try simp only[zah]at h)<;>(try simp -dsimp only[go_sem,seval,Hp,Bg])
  ·obtain⟨s,hs,F3⟩:=zai ‹j<t.steps.length›;have Ch:=znb p hf c hc i t ht j s hs;have A7:=zlR (p:=p) (c:=c) (t:=i) hs;have AO:=zem hf c i;have C7:=zh4 p c i t j;simp -dsimp only[go_sem,seval,Hp,Bg,Ch];refine zac (fun h=> ?_) (fun h=> ?_)<;>(try rw[h])<;>(try simp only[zah]at h)<;>(try simp -dsimp only[go_sem,seval,Hp,Bg])
   ·rw[h]at A7;have v1:=Ab.valOf;have v2:=Ab.r2;have v3:=Ab.r3;have v4:=Ab.r4;have v5:=Ab.r5;simp -dsimp only[go_sem,seval,Hp,Bg,v1,v2,v3,v4,v5];refine zav (Ab.upd (by omega) _) (by omega) (by rw[zbX,zM];omega) (by decide) rfl (zd0 _) ?_;intro v hp hO Bp Aq;have w1:=hO.valOf;simp -dsimp only[go_sem,seval,w1,Hp];refine⟨by omega,by simp -dsimp only[go_sem,seval,Aw],?_⟩;simp -dsimp only[go_sem,seval,A7,if_true];rw[<- zQ,zcY];exact hO.le (by omega)
   ·rw[h]at A7;refine⟨by omega,by simp -dsimp only[go_sem,seval,Aw],?_⟩;simp -dsimp only[go_sem,seval,A7,List.append_nil,zG,if_false];exact Ab.le (by omega)
  ·have:j=t.steps.length:=by omega
   subst this;refine⟨by omega,by simp -dsimp only[go_sem,seval,hw],?_⟩;simp -dsimp only[go_sem,seval];rw[zg8 ht];exact Ab.le (by omega)
 ·have:i=p.threads.length:=by omega
  subst this;have v1:=Ab.valOf;have Bh:=Ab.reify (zcN _);have v5:=Ab.resVal;simp only[Rg.resVal]at v5;simp -dsimp only[go_sem,seval,v1,v5];exact Bh
def zf5 (p:Prog) (c:Config):List Choice:=if zak p&&isM p c then zbt p c else []
theorem zlJ (p:Prog) (hs:p.sane) (c:Config) (AL:c.sane):Den Γ G 17 [(zP p),(.agg [.t (ints (c).mem),.t (ints (c).at_),.t (.sl ((c).buf.map (fun b=>[.sl (b.map Entry.enc)])))])]=some (.t (.sl ((zf5 p c).map Choice.enc))):=by
 (refine zag Γ17 rfl ?_;dsimp only[f17])
 have h1:=zdC p hs;simp -dsimp only[go_sem,seval,h1];cases hf:zak p
 ·simp -dsimp only[go_sem,seval];simp[zf5,hf]
 ·have h2:=zm0 p hf c AL;simp -dsimp only[go_sem,seval,h2];cases hc:isM p c
  ·simp -dsimp only[go_sem,seval];simp[zf5,hf,hc]
  ·have h3:=zh5 p hf c hc;simp -dsimp only[go_sem,seval,h3];simp[zf5,hf,hc]
def zwZ (l:List Choice) (x:Choice):Bool:=l.any fun y=>decide (y=x)
theorem zjC (a b:Choice):(decide (a.thread=b.thread)&&(decide (a.step=b.step)&&decide (a.cell=b.cell)))=decide (a=b):=by
 cases a;cases b;simp only[Choice.mk.injEq];simp
def zaG (mem view:List Int) (set:List Assign):List Int:=set.foldl (fun m a=>m.set a.cell.toNat (a.to.eval view view)) mem
theorem zbL (view:List Int): ∀(set:List Assign) (mem:List Int),(zaG mem view set).length=mem.length
 | [],mem=>rfl
 | a::r,mem=>by
   have:=zbL view r (mem.set a.cell.toNat (a.to.eval view view));simpa[zaG]using this
theorem zhi {mem view:List Int} {set:List Assign} {i:Nat} {a:Assign} (h:set[i]? =some a):zaG mem view (set.take (i+1))=(zaG mem view (set.take i)).set a.cell.toNat (a.to.eval view view):=by
 unfold zaG;rw[zaf h,List.foldl_append];rfl
theorem zh3 {p:Prog} {c:Config} {t:Nat} {x:Thread} {n:Nat} {y:Choice}:y∈zcK p c t x n<-> ∃i s,i<n/\x.steps[i]? =some s/\zb8 p c t s=true/\y=⟨t,i,0⟩:=by
 unfold zcK;rw[List.mem_filterMap];constructor
 ·rintro⟨⟨s,i⟩,hm,h⟩;rw[List.mem_zipIdx_iff_getElem?]at hm;simp only at hm;rw[zO]at hm;split at hm
  ·rename_i hi;split at h
   ·rename_i he;simp only[zA]at h;exact⟨i,s,hi,hm,he,h.symm⟩
   ·simp at h
  ·simp at hm
 ·rintro⟨i,s,hi,hs,he,rfl⟩;refine⟨(s,i),?_,by simp[he]⟩;rw[List.mem_zipIdx_iff_getElem?];simp only;rw[zO,if_pos hi];exact hs
theorem zgH {p:Prog} {c:Config} {y:Choice}:y∈zbt p c<-> ∃(t:Nat) (x:Thread) (i:Nat) (s:Step),p.threads[t]? =some x/\x.steps[i]? =some s/\zb8 p c t s=true/\y=⟨t,i,0⟩:=by
 unfold zbt zcu;rw[List.mem_flatMap];constructor
 ·rintro⟨⟨x,t⟩,hm,h⟩;rw[List.mem_zipIdx_iff_getElem?,List.take_length]at hm;obtain⟨i,s,_,hs,he,rfl⟩:=zh3.1 h;exact⟨t,x,i,s,hm,hs,he,rfl⟩
 ·rintro⟨t,x,i,s,hx,hs,he,rfl⟩;refine⟨(x,t),?_,zh3.2 ⟨i,s,(zH.1 hs).1,hs,he,rfl⟩⟩;rw[List.mem_zipIdx_iff_getElem?,List.take_length];exact hx
def zgb (p:Prog) (c:Config) (t:Nat) (s:Step):Config:=
 ⟨zaG c.mem c.mem s.set,if s.kind=6 then(c.at_.set t s.to).set s.target.toNat 0 else c.at_.set t s.to,p.threads.map fun _=>[]⟩
def zgf (p:Prog) (x:Choice):Option Step:=(p.threads[x.thread.toNat]?).bind fun t=>t.steps[x.step.toNat]?
def zd9:Config:=⟨[],[],[]⟩
def zsS (p:Prog) (c:Config) (x:Choice):Config:=match zgf p x with
 | some s=>zgb p c x.thread.toNat s
 | none=>zd9
def zi0 (p:Prog) (c:Config) (x:Choice):Config×Int:=
 if zak p&&isM p c then(if zwZ (zbt p c) x then(zsS p c x,0)else(zd9,110))else(zd9,1)
theorem zpr (l:List Choice) (x:Choice):zwZ l x=true<->x∈l:=by
 unfold zwZ;rw[List.any_eq_true];constructor
 ·rintro⟨y,hy,h⟩;simp at h;exact h▸hy
 ·intro h;exact⟨x,h,by simp⟩
theorem za5 {α:Type} {l:List α} {n:Nat} (h:n=l.length):l.take n=l:=List.take_of_length_le (by omega)
theorem zs0 {α:Type} {l:List α} {n:Nat} (h:n=l.length):l.drop n=[]:=List.drop_of_length_le (by omega)
theorem zm7 (p:Prog) (hf:zak p=true) (c:Config) (hc:isM p c=true) (t:Nat) (x:Thread) (hx:p.threads[t]? =some x) (i:Nat) (s:Step) (hs:x.steps[i]? =some s) (y:Choice) (hy:y=⟨t,i,0⟩) (E8:s.set.length<2^48):
 Den Γ G 45 [(zP p),(.agg [.t (ints (c).mem),.t (ints (c).at_),.t (.sl ((c).buf.map (fun b=>[.sl (b.map Entry.enc)])))]),(.agg [.t (ti (y).thread),.t (ti (y).step),.t (ti (y).cell)])]=some (.agg [.t (ints (zgb p c t s).mem),.t (ints (zgb p c t s).at_),.t (.sl ((zgb p c t s).buf.map (fun b=>[.sl (b.map Entry.enc)])))]):=by
 subst hy;obtain⟨l1,l2,l3⟩:=zvS hc;obtain⟨⟨m1,m2,m3,m4⟩,_⟩:=zal (zam hf).1;have Bm:=zb7 hf hx hs;have Dd:t<p.threads.length:=(zH.1 hx).1;have e1:(c.mem.length:Int)<=4294967296:=by omega
 have e2:(c.at_.length:Int)<=4294967296:=by omega
 have e3:(c.buf.length:Int)<=4294967296:=by omega
 (refine zag Γ45 rfl ?_;dsimp only[f45])
 have r1:=zaQ c.mem;have r2:=zaQ c.at_;have r3:List.take c.mem.length (zae c.mem)=zae c.mem:=za5 (zab _).symm;have r4:List.take c.at_.length (zae c.at_)=zae c.at_:=za5 (zab _).symm;have r5: ∀(n:Nat) (v:List V),List.drop n (List.replicate n v)=[]:=fun n v=>zs0 (by simp)
 have BI: ∀a∈s.set,0<=a.cell/\a.cell<c.mem.length:=fun a ha=>by
  have:=(Bm.rng.2 a ha).1;simp only[inR,decide_eq_true_eq]at this;omega
 simp -dsimp only[go_sem,seval,e1,e2,e3,Int.le_refl,zlh,r1,r2,r3,r4,r5,zab,List.length_replicate,Nat.le_refl,List.append_nil,Nat.min_self,hx,hs]
 refine zaq 36893206672442393600 s.set.length (fun j f h z=>(f 48).v=vi j/\h 7=some (.rows 1 (zae (zaG c.mem c.mem (s.set.take j))) false)/\h 11=some (.rows 1 (zae c.at_) false)/\h 15=some (.rows 1 (List.replicate c.buf.length [.t .nils]) false)) rfl
  ⟨by simp -dsimp only[go_sem,seval],by simp -dsimp only[go_sem,seval];rfl,by simp -dsimp only[go_sem,seval],by simp -dsimp only[go_sem,seval]⟩ ?_
 rintro j f u H z bs hj ⟨OJ,g7,g11,g15⟩;have hw:=zan j (by omega);simp -dsimp only[go_sem,seval,OJ];refine zac (fun h=> ?_) (fun h=> ?_)<;>(try rw[h])<;>(try simp only[zah]at h)<;>(try simp -dsimp only[go_sem,seval,OJ])
 ·obtain⟨a,ha,Cp⟩:=zai ‹j<s.set.length›;obtain⟨c0,c1⟩:=BI a Cp;have Ak:=zd4 a.to c.mem c.mem;have Ac:(zaG c.mem c.mem (s.set.take j)).length=c.mem.length:=zbL c.mem _ c.mem;have B5:=zbn (l:=zaG c.mem c.mem (s.set.take j)) (i:=a.cell.toNat) (by omega);have AE:=zaI (zaG c.mem c.mem (s.set.take j)) a.cell.toNat (a.to.eval c.mem c.mem);rw[<- zhi ha]at AE;simp -dsimp only[go_sem,seval,OJ,ha,Ak,c0,c1,g7,B5];refine⟨by omega,by simp -dsimp only[go_sem,seval,hw],by simp -dsimp only[go_sem,seval,AE],by simp -dsimp only[go_sem,seval,g11],by simp -dsimp only[go_sem,seval,g15]⟩
 ·have:j=s.set.length:=by omega
  subst this;rw[List.take_length]at g7;have B5:=zbn (l:=c.at_) (i:=t) (by omega);have AE:=zaI c.at_ t s.to;have Ad:(t:Int)<(c.at_.length:Int):=by omega
  have t0:(0:Int)<=(t:Int):=by omega
  have N7:t<c.at_.length:=by omega
  have Cx:List.take p.threads.length (List.replicate p.threads.length [V.t T.nils])=List.replicate p.threads.length [V.t T.nils]:=za5 (by simp);have BM:c.buf.length=p.threads.length:=l3;have H9:=fun h=>zg0 h p.threads.length
  have EG:List.take c.mem.length (zae (zaG c.mem c.mem s.set))=zae (zaG c.mem c.mem s.set):=za5 (by rw[zab,zbL]);have Mu:(zae (zaG c.mem c.mem s.set)).length=c.mem.length:=by rw[zab,zbL]
  simp -dsimp only[go_sem,seval,g11,B5,Ad,N7,AE,zab,List.length_set]
  by_cases hk:s.kind=6
  ·obtain⟨hr,_⟩:=Bm.tgt (.inl hk);simp only[inR,decide_eq_true_eq]at hr;have q1:s.target<(c.at_.length:Int):=by omega
   have q2:=hr.1;have GQ:=zbn (l:=c.at_.set t s.to) (i:=s.target.toNat) (by simp;omega);have Gs:=zaI (c.at_.set t s.to) s.target.toNat 0;have HA:List.take c.at_.length (zae ((c.at_.set t s.to).set s.target.toNat 0))=zae ((c.at_.set t s.to).set s.target.toNat 0):=za5 (by rw[zab];simp);simp -dsimp only[go_sem,seval,hk,q1,q2,GQ,Gs,g7,g15,Cx,H9,EG,Mu,HA,zab,List.length_set,List.length_replicate,Nat.le_refl,zbw,BM];simp[zgb,hk,zdK]
  ·have HA:List.take c.at_.length (zae (c.at_.set t s.to))=zae (c.at_.set t s.to):=za5 (by rw[zab];simp);simp -dsimp only[go_sem,seval,hk,g7,g15,Cx,H9,EG,Mu,HA,zab,List.length_set,List.length_replicate,Nat.le_refl,zbw,BM];simp[zgb,hk,zdK]
theorem zsa (p:Prog) (hs:p.sane) (c:Config) (AL:c.sane) (x:Choice):Den Γ G 18 [(zP p),(.agg [.t (ints (c).mem),.t (ints (c).at_),.t (.sl ((c).buf.map (fun b=>[.sl (b.map Entry.enc)])))]),(.agg [.t (ti (x).thread),.t (ti (x).step),.t (ti (x).cell)])]=some (.tup [(.agg [.t (ints ((zi0 p c x).1).mem),.t (ints ((zi0 p c x).1).at_),.t (.sl (((zi0 p c x).1).buf.map (fun b=>[.sl (b.map Entry.enc)])))]),vi (zi0 p c x).2]):=by
 (refine zag Γ18 rfl ?_;dsimp only[f18])
 have h1:=zdC p hs;simp -dsimp only[go_sem,seval,h1];cases hf:zak p
 ·simp -dsimp only[go_sem,seval];simp[zi0,hf,zd9]
 ·have h2:=zm0 p hf c AL;simp -dsimp only[go_sem,seval,h2];cases hc:isM p c
  ·simp -dsimp only[go_sem,seval];simp[zi0,hf,hc,zd9]
  ·have h3:=zh5 p hf c hc
   have Ac:(zbt p c).length<2^40:=by
    have:=zem hf c p.threads.length;have:=(zal (zam hf).1).1;unfold zbt;omega
   have hN:zi0 p c x=if zwZ (zbt p c) x then(zsS p c x,0)else(zd9,110):=by simp[zi0,hf,hc]
   simp -dsimp only[go_sem,seval,h3];refine zaT 68702700224 (zbt p c).length (fun i f=>(f 24).v=vi i/\(f 6).v= .lb/\(f 6).box=some [.t .nils,.t .nils,.t .nils]/\zwZ (zbt p c) x=((zbt p c).drop i).any fun y=>decide (y=x)) rfl rfl ⟨by simp -dsimp only[go_sem,seval],by simp -dsimp only[go_sem,seval],by simp -dsimp only[go_sem,seval],rfl⟩ ?_;rintro i f u kk bb hi ⟨IL,b1,b2,A9⟩;have hw:=zan i (by omega);simp -dsimp only[go_sem,seval,IL];refine zac (fun h=> ?_) (fun h=> ?_)<;>(try rw[h])<;>(try simp only[zah]at h)<;>(try simp -dsimp only[go_sem,seval,IL])
   ·obtain⟨y,hy,Eq⟩:=zai ‹i<(zbt p c).length›;have he:=zjC x y;simp -dsimp only[go_sem,seval,IL,hy,he,Bool.bne_false];refine zac (fun h=> ?_) (fun h=> ?_)<;>(try rw[h])<;>(try simp only[zah]at h)<;>(try simp -dsimp only[go_sem,seval,IL])
    ·have BW:x=y:=by simpa using h
     rw[zlY hy (by simpa using BW.symm)]at A9;obtain⟨t,tx,j,s,ht,Ng,_,OO⟩:=zgH.1 Eq;have IW:=zL ht;have AP:=zm7 p hf c hc t tx ht j s Ng x (BW.trans OO) (hs.sets tx IW s (zL Ng))
     have hE:zsS p c x=zgb p c t s:=by
      rw[BW,OO];simp[zsS,zgf,ht,Ng]
     rw[A9,if_pos rfl,hE]at hN;rw[hN];simp -dsimp only[go_sem,seval,AP,b1,b2]
    ·refine⟨by omega,by simp -dsimp only[go_sem,seval,hw],by simp -dsimp only[go_sem,seval,b1],by simp -dsimp only[go_sem,seval,b2],?_⟩;rw[A9,zlZ hy (by simpa[eq_comm]using h)]
   ·have:i=(zbt p c).length:=by omega
    subst this;rw[zoz]at A9;rw[A9]at hN;rw[hN];simp -dsimp only[go_sem,seval,b1,b2];simp[zd9]
end Rg
end
section
namespace Rg
open Go
end Rg
end
section
-- FULL
namespace Rg
open Go
end Rg
end
section
namespace Rg
open Go
end Rg
end
section
-- FULL
namespace Rg
open Go
end Rg
end
section
-- FULL
namespace Rg
open Go
end Rg
end
section
namespace Rg
open Go
structure IsC (p:Prog) (c:Config):Prop where
 lm:c.mem.length=p.cells.length
 la:c.at_.length=p.threads.length
 lb:c.buf.length=p.threads.length
 mem: ∀(i:Nat) (v:Int) (y:Cell),c.mem[i]? =some v->p.cells[i]? =some y->0<=v/\v<2^y.w.toNat
 at_: ∀(i:Nat) (a:Int) (x:Thread),c.at_[i]? =some a->p.threads[i]? =some x-> -1<=a/\a<x.points/\(a= -1->x.asleep=true)
 buf: ∀b∈c.buf,b=[]
theorem zwa {α β:Type} {l:List α} {m:List β} {f:α×β->Bool}:(l.zip m).all f=true<-> ∀(i:Nat) (a:α) (b:β),l[i]? =some a->m[i]? =some b->f (a,b)=true:=by
 rw[zN];constructor
 ·intro h i a b ha hb;exact h _ (zL (zhh ha hb))
 ·intro h q hq;obtain⟨i,hi⟩:=List.getElem?_of_mem hq;rw[List.getElem?_zip_eq_some]at hi;exact h i _ _ hi.1 hi.2
theorem zhT {p:Prog} {c:Config}:isM p c=true<->IsC p c:=by
 simp only[isM,zhA,zF,decide_eq_true_eq,zwa];simp only[zc9,zgI,zN,zF,decide_eq_true_eq,Bool.not_eq_true',Bool.and_eq_false_iff,decide_eq_false_iff_not,Bool.not_eq_false',List.isEmpty_iff];constructor
 ·rintro⟨⟨⟨⟨⟨h1,h2⟩,h3⟩,h4⟩,h5⟩,h6⟩
  exact⟨h1,h2,h5,h3,fun i a x ha hx=>⟨(h4 i a x ha hx).1.1,(h4 i a x ha hx).1.2,fun h0=>by
   rcases(h4 i a x ha hx).2 with h | h
   ·exact absurd h0 h
   ·exact h⟩,h6⟩
 ·rintro⟨h1,h2,h5,h3,h4,h6⟩;refine⟨⟨⟨⟨⟨h1,h2⟩,h3⟩,fun i a x ha hx=>⟨⟨(h4 i a x ha hx).1,(h4 i a x ha hx).2.1⟩,?_⟩⟩,h5⟩,h6⟩
  by_cases h0:a= -1
  ·exact .inr ((h4 i a x ha hx).2.2 h0)
  ·exact .inl h0
theorem zoO {p:Prog} (hf:zak p=true):isM p (zcm p)=true:=by
 rw[zhT,zcm,if_pos hf];refine⟨by simp,by simp,by simp,?_,?_,?_⟩
 ·intro i v y hv hy;simp only[zJ,hy,Option.map_some,zA]at hv;subst hv;exact(zdm hf (zL hy)).2.2
 ·intro i a x ha hx;simp only[zJ,hx,Option.map_some,zA]at ha;have:=zcQ hf hx;subst ha;split
  ·rename_i h;exact⟨by omega,by omega,fun _=>h⟩
  ·exact⟨by omega,by omega,by omega⟩
 ·intro b hb;simp only[List.mem_map]at hb;obtain⟨_,_,rfl⟩:=hb;rfl
theorem zkT (e:Expr) (old now:List Int):0<=e.eval old now/\e.eval old now<2^e.w.toNat:=by
 unfold Expr.eval;split
 ·rename_i h;exact zix old now 40 e (zcp h)
 ·exact⟨by omega,zcn _⟩
theorem zk6 {p:Prog} {view:List Int}: ∀{set:List Assign} {mem:List Int},
 (∀a∈set,∃y,p.cells[a.cell.toNat]? =some y/\a.to.w=y.w)->
 (∀(i:Nat) (v:Int) (y:Cell),mem[i]? =some v->p.cells[i]? =some y->0<=v/\v<2^y.w.toNat)->
 ∀(i:Nat) (v:Int) (y:Cell),(zaG mem view set)[i]? =some v->p.cells[i]? =some y->0<=v/\v<2^y.w.toNat
 | [],mem,_,hm=>hm
 | a::r,mem,hw,hm=>by
   have:zaG mem view (a::r)=zaG (mem.set a.cell.toNat (a.to.eval view view)) view r:=rfl;rw[this];refine zk6 (fun b hb=>hw b (List.mem_cons_of_mem _ hb)) ?_;intro i v y hv hy;rw[List.getElem?_set]at hv;split at hv
   ·rename_i hi;split at hv
    ·cases hv;obtain⟨z,hz,Pz⟩:=hw a List.mem_cons_self;rw[hi,hy]at hz;cases hz;rw[<- Pz];exact zkT _ _ _
    ·simp at hv
   ·exact hm i v y hv hy
theorem zw4 {p:Prog} (hf:zak p=true) {c:Config} (hc:isM p c=true) {t i:Nat} {x:Thread} {s:Step} (hx:p.threads[t]? =some x) (hs:x.steps[i]? =some s):isM p (zgb p c t s)=true:=by
 rw[zhT]at hc⊢;have Bm:=zb7 hf hx hs;refine⟨by simp only[zgb,zbL];exact hc.lm,?_,by simp[zgb],?_,?_,?_⟩
 ·simp only[zgb];split<;>simp <;>exact hc.la
 ·exact zk6 Bm.wid hc.mem
 ·have key: ∀(j:Nat) (a:Int) (z:Thread),(c.at_.set t s.to)[j]? =some a->p.threads[j]? =some z-> -1<=a/\a<z.points/\(a= -1->z.asleep=true):=by
   intro j a z ha hz;rw[List.getElem?_set]at ha;split at ha
   ·rename_i hj;split at ha
    ·cases ha;subst hj;rw[hx]at hz;cases hz;have:=Bm.to;exact⟨by omega,by omega,by omega⟩
    ·simp at ha
   ·exact hc.at_ j a z ha hz
  intro j a z ha hz;simp only[zgb]at ha;split at ha
  ·rw[List.getElem?_set]at ha;split at ha
   ·split at ha
    ·cases ha;have:=zcQ hf hz;exact⟨by omega,by omega,by omega⟩
    ·simp at ha
   ·exact key j a z ha hz
  ·exact key j a z ha hz
 ·intro b hb;simp only[zgb,List.mem_map]at hb;obtain⟨_,_,rfl⟩:=hb;rfl
theorem zr9 {p:Prog} (hf:zak p=true) {c:Config} (hc:isM p c=true) {y:Choice} (hy:y∈zbt p c):
 ∃(t:Nat) (x:Thread) (i:Nat) (s:Step),p.threads[t]? =some x/\x.steps[i]? =some s/\zb8 p c t s=true/\y=⟨t,i,0⟩/\zi0 p c y=(zgb p c t s,0)/\isM p (zgb p c t s)=true:=by
 obtain⟨t,x,i,s,hx,hs,he,rfl⟩:=zgH.1 hy;refine⟨t,x,i,s,hx,hs,he,rfl,?_,zw4 hf hc hx hs⟩;rw[zi0,hf,hc];simp only[Bool.and_self,if_true,(zpr _ _).2 hy];simp[zsS,zgf,hx,hs]
theorem zIf {p:Prog} (hf:zak p=true) {c:Config} (hc:isM p c=true) {y:Choice} (hy: ¬y∈zbt p c):zi0 p c y=(zd9,110):=by
 rw[zi0,hf,hc];have:zwZ (zbt p c) y=false:=by rw[<- Bool.not_eq_true,zpr];exact hy
 simp[this]
theorem zop {p:Prog} (hf:zak p=true) {c:Config} (hc:isM p c=true):zf5 p c=zbt p c:=by
 rw[zf5,hf,hc];rfl
namespace Expr
mutual
def mapL (f:Expr->Expr):Expr->Expr
 | .mk o w n []=>f (.mk o w n [])
 | .mk o w n (k::ks)=> .mk o w n (mapL f k::zyA f ks)
def zyA (f:Expr->Expr):List Expr->List Expr
 | []=>[]
 | e::r=>mapL f e::zyA f r
end
end Expr
def Cut (h:Nat->Option O) (lo hi:Nat) (cs:List V) (e:Expr):Prop:=
 ∃x,cs=[.t (ti e.op),.t (ti e.w),.t (ti e.n),x]/\V.cells x=some [x]/\
  ∀h2 d,e.size<=d->(∀k,lo<=k->k<hi->h2 k=h k)->toT h2 d x=some (.sl (e.kids.map Expr.enc))
theorem Cut.mono {h h':Nat->Option O} {lo hi lo' AK:Nat} {cs:List V} {e:Expr} (c:Cut h lo hi cs e) (h1:lo'<=lo) (h2:hi<=AK) (hh: ∀k,lo<=k->k<hi->h' k=h k):Cut h' lo' AK cs e:=by
 obtain⟨x,hc,hx,ht⟩:=c;exact⟨x,hc,hx,fun g d hd hg=>ht g d hd fun k k1 k2=>(hg k (by omega) (by omega)).trans (hh k k1 k2)⟩
theorem Cut.tree (h:Nat->Option O) (lo hi:Nat) (e:Expr):Cut h lo hi [.t (ti e.op),.t (ti e.w),.t (ti e.n),.t (.sl (e.kids.map Expr.enc))] e:=
 ⟨_,rfl,rfl,fun _ d _ _=>by cases d<;>rfl⟩
theorem zHe {h h2:Nat->Option O} {lo hi d:Nat}: ∀(rows:List (List V)) (ks:List Expr),rows.length=ks.length->(∀(j:Nat) r e,rows[j]? =some r->ks[j]? =some e->Cut h lo hi r e/\e.size<=d)->
 (∀k,lo<=k->k<hi->h2 k=h k)->rows.mapM (fun row=>row.mapM (toT h2 d))=some (ks.map Expr.enc)
 | [],[],_,_,_=>rfl
 | [],_::_,hl,_,_=>by simp at hl
 | _::_,[],hl,_,_=>by simp at hl
 | r::rows,e::ks,hl,hj,hh=>by
   have ih:=zHe rows ks (by simpa using hl) (fun j r e h1 h2=>hj (j+1) r e h1 h2) hh;obtain⟨⟨x,rfl,_,ht⟩,hd⟩:=hj 0 r e rfl rfl;have h0:=ht h2 d hd hh;have hn: ∀n:Int,toT h2 d (.t (ti n))=some (ti n):=fun n=>by cases d<;>rfl
   rw[List.mapM_cons,ih];simp only[List.mapM_cons,List.mapM_nil,hn,h0,Option.pure_def,zC,zD,List.map_cons,Expr.enc_eq]
theorem Cut.node {h:Nat->Option O} {lo hi k:Nat} {rows:List (List V)} {o w n:Int} {ks:List Expr} {fz:Bool} {len:Nat} (hl:rows.length=ks.length) (hn:len=ks.length)
 (hr: ∀(j:Nat) r e,rows[j]? =some r->ks[j]? =some e->Cut h lo hi r e) (hk:h k=some (.rows 4 rows fz)) (h1:lo<=k) (h2:k<hi):
 Cut h lo hi [.t (ti o),.t (ti w),.t (ti n),.ms k 0 len] (.mk o w n ks):=by
 subst hn;refine⟨_,rfl,rfl,fun g d hd hg=> ?_⟩;obtain⟨d,rfl⟩: ∃d',d=d'+1:=⟨d-1,by have:=Expr.size_pos (.mk o w n ks);omega⟩
 have AS:=Expr.size_eq (.mk o w n ks)
 have PW:=zHe (d:=d) rows ks hl (fun j r e a b=>⟨hr j r e a b,by
  have hm:e∈ks:=zL b;have:=Expr.size_kid (e:=.mk o w n ks) (k:=e) hm
  omega⟩) hg
 rw[toT,hg k h1 h2,hk];simp only[rd,Nat.zero_add,<- hl,Nat.le_refl,if_true,List.drop_zero,zC,zD,List.take_length];rw[PW];rfl
end Rg
end
section
namespace Rg
open Go
def asg (set:List Assign) (c:Int):Option Expr:=(set.find? fun a=>decide (a.cell=c)).map Assign.to
end Rg
end
section
namespace Rg
open Go
structure SetOk (p:Prog) (set:List Assign):Prop where
 rng: ∀a∈set,inR a.cell p.cells.length=true/\a.to.valid p.cells false=true
 wid: ∀a∈set,∃y,p.cells[a.cell.toNat]? =some y/\a.to.w=y.w
 dif: ∀(i j:Nat) (a b:Assign),set[i]? =some a->set[j]? =some b->a.cell=b.cell->i=j
end Rg
end
section
namespace Rg
open Go
end Rg
end
section
namespace Rg
open Go
theorem StepOk.set {p:Prog} {t:Int} {x:Thread} {s:Step} (h:StepOk p t x s):SetOk p s.set:=⟨h.rng.2,h.wid,h.dif⟩
end Rg
end
section
namespace Rg
open Go
end Rg
end
section
set_option maxRecDepth 10000
namespace Rg
open Go
end Rg
end
section
namespace Rg
open Go
end Rg
end
section
set_option maxRecDepth 10000
namespace Rg
open Go
end Rg
end
section
namespace Rg
open Go
structure Proper (p:Prog) (e:Entry):Prop where
 ne:e.cells≠[]
 len:e.values.length=e.cells.length
 nd:e.cells.Nodup
 cell: ∀(i:Nat) (n v:Int),e.cells[i]? =some n->e.values[i]? =some v->0<=n/\ ∃y,p.cells[n.toNat]? =some y/\y.thread= -1/\y.ghost=decide (0<i)/\0<=v/\v<2^y.w.toNat
structure IsB (p:Prog) (c:Config):Prop where
 lm:c.mem.length=p.cells.length
 la:c.at_.length=p.threads.length
 lb:c.buf.length=p.threads.length
 mem: ∀(i:Nat) (v:Int) (y:Cell),c.mem[i]? =some v->p.cells[i]? =some y->0<=v/\v<2^y.w.toNat
 at_: ∀(i:Nat) (a:Int) (x:Thread),c.at_[i]? =some a->p.threads[i]? =some x-> -1<=a/\a<x.points/\(a= -1->x.asleep=true)
 buf: ∀(t:Nat) (b:List Entry),c.buf[t]? =some b->b.length<=3/\(∀e∈b,Proper p e)/\(c.at_[t]? =some (-1)->b=[])
def ziq (m:List Int) (e:Entry):List Int:=(e.cells.zip e.values).foldl (fun m q=>m.set q.1.toNat q.2) m
def za1 (c:Config) (t:Nat):List Entry:=c.buf.getD t []
def zaw (c:Config) (t:Nat):List Int:=(za1 c t).foldl ziq c.mem
def zj0 (a b:Entry):Bool:=b.cells.any fun n=>a.cells.contains n
def zcw (older:List Entry) (e:Entry):Bool:=older.any fun o=>zj0 o e
def zc2 (k:Int) (b:List Entry) (i:Nat) (e:Entry):Bool:=decide (i=0)||(decide (k=2)&& !zcw (b.take i) e)
def zaN (p:Prog) (c:Config) (t:Nat) (s:Step):Bool:=
 decide (atI c.at_ t=s.fr)&&decide (s.guard.eval (zaw c t) (zaw c t)=1)&&
  (if s.kind=3 then(if s.release then decide ((za1 c t).length=0)else decide ((za1 c t).length<3))
   else if s.kind=4\/s.kind=5 then decide ((za1 c t).length=0)
   else if s.kind=6 then decide ((za1 c t).length=0)&&decide (atI c.at_ s.target= -1)
   else if s.kind=7 then decide ((za1 c t).length=0)&&(decide (atI c.at_ s.target=zc1 p s.target-1)&&decide ((za1 c s.target.toNat).length=0))
   else true)
def zcP (p:Prog) (c:Config) (t:Nat) (x:Thread) (i:Nat):List Choice:=
 (x.steps.take i).zipIdx.filterMap fun q=>if zaN p c t q.1 then some ⟨t,q.2,0⟩else none
def zcg (e:Entry):Int:=e.cells.headD 0
def zg7 (k:Int) (t:Nat) (b:List Entry) (i:Nat):List Choice:=
 (b.take i).zipIdx.filterMap fun q=>if zc2 k b q.2 q.1 then some ⟨t,-1,zcg q.1⟩else none
def zaU (p:Prog) (k:Int) (c:Config) (i:Nat):List Choice:=
 (p.threads.take i).zipIdx.flatMap fun q=>zcP p c q.2 q.1 q.1.steps.length++zg7 k q.2 (za1 c q.2) (za1 c q.2).length
def zdt (p:Prog) (k:Int) (c:Config):List Choice:=zaU p k c p.threads.length
def zao (p:Prog) (a:Assign):Bool:=zby p a.cell fun y=>decide (y.thread= -1)
def zfb (p:Prog) (view:List Int) (set:List Assign):Entry:=⟨(set.filter (zao p)).map Assign.cell,(set.filter (zao p)).map fun a=>a.to.eval view view⟩
def zdN (p:Prog) (c:Config) (t:Nat) (s:Step):Config:=
 ⟨zaG c.mem (zaw c t) (if s.kind=3 then s.set.filter (fun a=> !zao p a)else s.set),
  if s.kind=6 then(c.at_.set t s.to).set s.target.toNat 0 else c.at_.set t s.to,
  if s.kind=3 then c.buf.set t (za1 c t++[zfb p (zaw c t) s.set])else c.buf⟩
def za8 (c:Config) (t i:Nat):Config:=match(za1 c t)[i]? with
 | some e=>⟨ziq c.mem e,c.at_,c.buf.set t ((za1 c t).eraseIdx i)⟩
 | none=>zd9
def zlF (k:Int) (b:List Entry) (n:Int):Option Nat:=(List.range b.length).find? fun i=>match b[i]? with
 | some e=>zc2 k b i e&&decide (zcg e=n)
 | none=>false
def zdL (p:Prog) (k:Int) (c:Config) (x:Choice):Config×Int:=
 if x.thread<0\/(p.threads.length:Int)<=x.thread\/x.step< -1 then(zd9,110)
 else if x.step= -1 then(match zlF k (za1 c x.thread.toNat) x.cell with
  | some i=>(za8 c x.thread.toNat i,0)
  | none=>(zd9,110))
 else match zgf p x with
  | some s=>if decide (x.cell=0)&&zaN p c x.thread.toNat s then(zdN p c x.thread.toNat s,0)else(zd9,110)
  | none=>(zd9,110)
theorem zb0 {c:Config} {t:Nat} (h:t<c.buf.length):c.buf[t]? =some (za1 c t):=by simp[za1,List.getD,zI h]
theorem zdM: ∀(l:List (Int×Int)) (m:List Int),(l.foldl (fun m q=>m.set q.1.toNat q.2) m).length=m.length
 | [],m=>rfl
 | q::l,m=>by rw[List.foldl_cons,zdM l];simp
theorem zlm (m:List Int) (e:Entry):(ziq m e).length=m.length:=zdM _ m
theorem zdn: ∀(l:List Entry) (m:List Int),(l.foldl ziq m).length=m.length
 | [],m=>rfl
 | e::l,m=>by rw[List.foldl_cons,zdn l,zlm]
theorem ztP (c:Config) (t:Nat):(zaw c t).length=c.mem.length:=zdn _ _
theorem zhW {p:Prog}: ∀(l:List (Int×Int)) (m:List Int),(∀q∈l,∀y,p.cells[q.1.toNat]? =some y->0<=q.2/\q.2<2^y.w.toNat)->
 (∀(i:Nat) (v:Int) (y:Cell),m[i]? =some v->p.cells[i]? =some y->0<=v/\v<2^y.w.toNat)->
 ∀(i:Nat) (v:Int) (y:Cell),(l.foldl (fun m q=>m.set q.1.toNat q.2) m)[i]? =some v->p.cells[i]? =some y->0<=v/\v<2^y.w.toNat
 | [],m,_,hm=>hm
 | q::l,m,hl,hm=>by
   rw[List.foldl_cons];refine zhW l _ (fun r hr=>hl r (List.mem_cons_of_mem _ hr)) ?_;intro i v y hv hy;rw[List.getElem?_set]at hv;split at hv
   ·rename_i hi;split at hv
    ·cases hv;subst hi;exact hl q List.mem_cons_self y hy
    ·simp at hv
   ·exact hm i v y hv hy
theorem ziY {p:Prog} {e:Entry} (h:Proper p e) {q:Int×Int} (hq:q∈e.cells.zip e.values):0<=q.1/\ ∃y,p.cells[q.1.toNat]? =some y/\y.thread= -1/\0<=q.2/\q.2<2^y.w.toNat:=by
 obtain⟨i,hi⟩:=List.getElem?_of_mem hq;rw[List.getElem?_zip_eq_some]at hi;obtain⟨h0,y,h1,h2,_,h3⟩:=h.cell i q.1 q.2 hi.1 hi.2;exact⟨h0,y,h1,h2,h3⟩
theorem zwC {p:Prog} {e:Entry} (he:Proper p e) {m:List Int} (hm: ∀(i:Nat) (v:Int) (y:Cell),m[i]? =some v->p.cells[i]? =some y->0<=v/\v<2^y.w.toNat):
 ∀(i:Nat) (v:Int) (y:Cell),(ziq m e)[i]? =some v->p.cells[i]? =some y->0<=v/\v<2^y.w.toNat:=by
 refine zhW _ m (fun q hq y hy=> ?_) hm;obtain⟨_,z,hz,_,h⟩:=ziY he hq;rw[hy]at hz;cases hz;exact h
theorem zcG {p:Prog} {e:Entry} (h:Proper p e) {n:Int} (hn:n∈e.cells):0<=n/\n.toNat<p.cells.length/\ ∃y,p.cells[n.toNat]? =some y/\y.thread= -1:=by
 obtain⟨i,hi⟩:=List.getElem?_of_mem hn;have Ad:i<e.values.length:=by rw[h.len];exact(zH.1 hi).1
 obtain⟨h0,y,h1,h2,_⟩:=h.cell i n _ hi (zI Ad);exact⟨h0,(zH.1 h1).1,y,h1,h2⟩
theorem zgX: ∀(n:Nat) (l:List Int),l.Nodup->(∀x∈l,0<=x/\x<n)->l.length<=n
 | 0,[],_,_=>Nat.le_refl _
 | 0,x::l,_,hl=>by have:=hl x List.mem_cons_self;omega
 | n+1,l,Bt,hl=>by
   have h:=zgX n (l.erase (n:Int)) (Bt.erase _) fun x hx=>by
    have h1:=Bt.mem_erase_iff.1 hx;have h2:=hl x h1.2;have h3:=h1.1;omega
   rw[List.length_erase]at h;split at h<;>omega
theorem zbd {p:Prog} {e:Entry} (h:Proper p e):e.cells.length<=p.cells.length:=
 zgX _ _ h.nd fun x hx=>by have:=zcG h hx;omega
theorem zrA {p:Prog} {a:Assign} (h:zao p a=true): ∃y,p.cells[a.cell.toNat]? =some y/\y.thread= -1:=by
 unfold zao zby at h;split at h
 ·rename_i y hy;exact⟨y,hy,by simpa using h⟩
 ·simp at h
theorem znF {p:Prog} {t:Int} {s:Step} (hk:s.kind=3) (h:zbG p t s=true): ∃a r,s.set=a::r/\zbz p s false t=true/\zao p a=true/\zby p a.cell Cell.ghost=false/\
 ∀b∈r,zby p b.cell Cell.ghost=true/\zjW p t b.cell=true:=by
 rw[zbG,if_neg (by omega),if_neg (by omega),if_pos hk,zeY]at h;split at h
 ·simp at h
 ·rename_i a r hs;simp only[zF,Bool.not_eq_true',zN]at h;obtain⟨⟨⟨h1,h2⟩,h3⟩,h4⟩:=h;obtain⟨h0,y,hy,ht⟩:=ziZ h2;exact⟨a,r,hs,h1,by rw[zao,zaZ hy];simpa using ht,h3,h4⟩
theorem zs2 {l:List Assign} (h: ∀(i j:Nat) (a b:Assign),l[i]? =some a->l[j]? =some b->a.cell=b.cell->i=j):(l.map Assign.cell).Nodup:=by
 rw[List.nodup_iff_pairwise_ne,List.pairwise_iff_getElem];intro i j hi hj Av he;simp only[List.length_map]at hi hj;simp only[List.getElem_map]at he;have:=h i j _ _ (zI hi) (zI hj) he;omega
theorem zfH {p:Prog} {t:Int} {x:Thread} {s:Step} (Bm:StepOk p t x s) (hk:s.kind=3) (view:List Int):Proper p (zfb p view s.set):=by
 obtain⟨a,r,hs,hv,ha,hg,hr⟩:=znF hk Bm.row;have hf:s.set.filter (zao p)=a::r.filter (zao p):=by rw[hs,List.filter_cons,if_pos ha]
 refine⟨by simp[zfb,hf],by simp[zfb],?_,?_⟩
 ·exact List.Nodup.sublist ((List.filter_sublist).map _) (zs2 Bm.dif)
 ·intro i n v hn Bs;simp only[zfb,zJ,zE]at hn Bs;obtain⟨b,hb,rfl⟩:=hn;obtain⟨b',Bf,rfl⟩:=Bs;rw[hb]at Bf;cases Bf;have EW:=zL hb;obtain⟨Ay,Bo⟩:=List.mem_filter.1 EW;obtain⟨y,hy,Gj⟩:=zrA Bo;have Aj:=(Bm.rng.2 b Ay).1;simp only[inR,decide_eq_true_eq]at Aj;obtain⟨z,hz,hw⟩:=Bm.wid b Ay;rw[hy]at hz;cases hz;refine⟨Aj.1,y,hy,Gj,?_,by rw[<- hw];exact zkT _ _ _⟩;rw[hf]at hb
  cases i with
  | zero=>
    simp only[List.getElem?_cons_zero,zA]at hb;subst hb;rw[zaZ hy]at hg
    simpa using hg
  | succ i=>
    simp only[List.getElem?_cons_succ]at hb;have:=(hr b (List.mem_filter.1 (zL hb)).1).1;rw[zaZ hy]at this;simpa using this
theorem zw5 {p:Prog} {c:Config} {t i:Nat} {x:Thread} {s:Step} (hf:zak p=true) (hx:p.threads[t]? =some x) (Bm:StepOk p t x s)
 (Bj: ∀(i:Nat) (a:Int) (x:Thread),c.at_[i]? =some a->p.threads[i]? =some x-> -1<=a/\a<x.points/\(a= -1->x.asleep=true)):
 ∀(i:Nat) (a:Int) (z:Thread),(if s.kind=6 then(c.at_.set t s.to).set s.target.toNat 0 else c.at_.set t s.to)[i]? =some a->p.threads[i]? =some z-> -1<=a/\a<z.points/\(a= -1->z.asleep=true):=by
 have key: ∀(j:Nat) (a:Int) (z:Thread),(c.at_.set t s.to)[j]? =some a->p.threads[j]? =some z-> -1<=a/\a<z.points/\(a= -1->z.asleep=true):=by
  intro j a z ha hz;rw[List.getElem?_set]at ha;split at ha
  ·rename_i hj;split at ha
   ·cases ha;subst hj;rw[hx]at hz;cases hz;have:=Bm.to;exact⟨by omega,by omega,by omega⟩
   ·simp at ha
  ·exact Bj j a z ha hz
 intro j a z ha hz;split at ha
 ·rw[List.getElem?_set]at ha;split at ha
  ·split at ha
   ·cases ha;have:=zcQ hf hz;exact⟨by omega,by omega,by omega⟩
   ·simp at ha
  ·exact key j a z ha hz
 ·exact key j a z ha hz
theorem zgC {c:Config} {t j:Nat} {s:Step} (h0:0<=s.to) (h:(if s.kind=6 then(c.at_.set t s.to).set s.target.toNat 0 else c.at_.set t s.to)[j]? =some (-1)):c.at_[j]? =some (-1):=by
 have key:(c.at_.set t s.to)[j]? =some (-1)->c.at_[j]? =some (-1):=by
  intro h;rw[List.getElem?_set]at h;split at h
  ·split at h
   ·simp only[zA]at h;omega
   ·simp at h
  ·exact h
 split at h
 ·rw[List.getElem?_set]at h;split at h
  ·split at h
   ·simp at h
   ·simp at h
  ·exact key h
 ·exact key h
theorem zpE {p:Prog} (hf:zak p=true) {c:Config} (hc:IsB p c) {t i:Nat} {x:Thread} {s:Step} (hx:p.threads[t]? =some x) (hs:x.steps[i]? =some s) (he:zaN p c t s=true):IsB p (zdN p c t s):=by
 have Bm:=zb7 hf hx hs;have Dd:t<c.buf.length:=by rw[hc.lb];exact(zH.1 hx).1
 refine⟨by simp only[zdN,zbL];exact hc.lm,?_,?_,?_,zw5 (i:=i) hf hx Bm hc.at_,?_⟩
 ·show(if s.kind=6 then _ else _:List Int).length=_;split
  ·rw[List.length_set,List.length_set];exact hc.la
  ·rw[List.length_set];exact hc.la
 ·show(if s.kind=3 then _ else _:List (List Entry)).length=_;split
  ·rw[List.length_set];exact hc.lb
  ·exact hc.lb
 ·refine zk6 (fun a ha=> ?_) hc.mem;refine Bm.wid a ?_
  try simp only at ha
  split at ha
  ·exact(List.mem_filter.1 ha).1
  ·exact ha
 ·intro t' b hb;simp only[zdN]at hb⊢
  by_cases hk:s.kind=3
  ·rw[if_pos hk,List.getElem?_set]at hb;split at hb
   ·rename_i MW;subst MW
    try rw[if_pos Dd]at hb
    simp only[zA]at hb;subst hb;have C2:=hc.buf t _ (zb0 Dd);refine⟨?_,?_,?_⟩
    ·simp only[zaN,zF,hk,if_true]at he;have h3:=he.2;split at h3
     ·have:(za1 c t).length=0:=by simpa using h3
      simp[this]
     ·have:(za1 c t).length<3:=by simpa using h3
      simp;omega
    ·intro e Cn;rcases List.mem_append.1 Cn with h | h
     ·exact C2.2.1 e h
     ·rw[List.mem_singleton]at h;subst h;exact zfH Bm hk _
    ·intro ha;have:=zgC Bm.to.1 ha;simp only[zaN,zF,decide_eq_true_eq]at he;have h1:atI c.at_ t= -1:=zdF (by simpa using this);have:=Bm.fr.1;omega
   ·obtain⟨q1,q2,q3⟩:=hc.buf t' b hb;exact⟨q1,q2,fun ha=>q3 (zgC Bm.to.1 ha)⟩
  ·rw[if_neg hk]at hb;obtain⟨q1,q2,q3⟩:=hc.buf t' b hb;exact⟨q1,q2,fun ha=>q3 (zgC Bm.to.1 ha)⟩
theorem zkY {p:Prog} {c:Config} (hc:IsB p c) {t i:Nat} {e:Entry} (hi:(za1 c t)[i]? =some e):IsB p (za8 c t i):=by
 have Dd:t<c.buf.length:=by
  rcases Nat.lt_or_ge t c.buf.length with h | h
  ·exact h
  ·simp[za1,List.getD,List.getElem?_eq_none h]at hi
 have C2:=hc.buf t _ (zb0 Dd);have hC:za8 c t i=⟨ziq c.mem e,c.at_,c.buf.set t ((za1 c t).eraseIdx i)⟩:=by simp only[za8,hi]
 rw[hC];refine⟨by simp only[zlm];exact hc.lm,hc.la,by simp;exact hc.lb,zwC (C2.2.1 e (zL hi)) hc.mem,hc.at_,?_⟩;intro t' b hb;rw[List.getElem?_set]at hb;split at hb
 ·rename_i MW;subst MW
  try rw[if_pos Dd]at hb
  simp only[zA]at hb;subst hb;refine⟨Nat.le_trans (List.length_eraseIdx_le _ _) C2.1,fun e he=>C2.2.1 e (List.mem_of_mem_eraseIdx he),fun ha=> ?_⟩;have:=C2.2.2 ha;rw[this]at hi;simp at hi
 ·exact hc.buf t' b hb
theorem zrv {p:Prog} (hf:zak p=true):IsB p (zcm p):=by
 have h:=zhT.1 (zoO hf);refine⟨h.lm,h.la,h.lb,h.mem,h.at_,fun t b hb=> ?_⟩;have:=h.buf b (zL hb);subst this;exact⟨by simp,by simp,fun _=>rfl⟩
theorem zvT {p:Prog} {c:Config} (h:IsC p c):IsB p c:=
 ⟨h.lm,h.la,h.lb,h.mem,h.at_,fun t b hb=>by
   have:=h.buf b (zL hb);subst this
   exact⟨by simp,by simp,fun _=>rfl⟩⟩
theorem zyJ {p:Prog} {c:Config} (h:IsB p c) (hq: ∀b∈c.buf,b=[]):IsC p c:=⟨h.lm,h.la,h.lb,h.mem,h.at_,hq⟩
theorem zkh {p:Prog} {c:Config} {t:Nat} {x:Thread} {n:Nat} {y:Choice}:y∈zcP p c t x n<-> ∃i s,i<n/\x.steps[i]? =some s/\zaN p c t s=true/\y=⟨t,i,0⟩:=by
 unfold zcP;rw[List.mem_filterMap];constructor
 ·rintro⟨⟨s,i⟩,hm,h⟩;rw[List.mem_zipIdx_iff_getElem?]at hm;simp only at hm;rw[zO]at hm;split at hm
  ·rename_i hi;split at h
   ·rename_i he;simp only[zA]at h;exact⟨i,s,hi,hm,he,h.symm⟩
   ·simp at h
  ·simp at hm
 ·rintro⟨i,s,hi,hs,he,rfl⟩;refine⟨(s,i),?_,by simp[he]⟩;rw[List.mem_zipIdx_iff_getElem?];simp only;rw[zO,if_pos hi];exact hs
theorem zna {k:Int} {t:Nat} {b:List Entry} {n:Nat} {y:Choice}:y∈zg7 k t b n<-> ∃i e,i<n/\b[i]? =some e/\zc2 k b i e=true/\y=⟨t,-1,zcg e⟩:=by
 unfold zg7;rw[List.mem_filterMap];constructor
 ·rintro⟨⟨e,i⟩,hm,h⟩;rw[List.mem_zipIdx_iff_getElem?]at hm;simp only at hm;rw[zO]at hm;split at hm
  ·rename_i hi;split at h
   ·rename_i he;simp only[zA]at h;exact⟨i,e,hi,hm,he,h.symm⟩
   ·simp at h
  ·simp at hm
 ·rintro⟨i,e,hi,hs,he,rfl⟩;refine⟨(e,i),?_,by simp[he]⟩;rw[List.mem_zipIdx_iff_getElem?];simp only;rw[zO,if_pos hi];exact hs
theorem zh7 {p:Prog} {k:Int} {c:Config} {y:Choice}:y∈zdt p k c<->
 (∃(t:Nat) (x:Thread) (i:Nat) (s:Step),p.threads[t]? =some x/\x.steps[i]? =some s/\zaN p c t s=true/\y=⟨t,i,0⟩)\/
 (∃(t i:Nat) (e:Entry),t<p.threads.length/\(za1 c t)[i]? =some e/\zc2 k (za1 c t) i e=true/\y=⟨t,-1,zcg e⟩):=by
 unfold zdt zaU;rw[List.mem_flatMap];constructor
 ·rintro⟨⟨x,t⟩,hm,h⟩;rw[List.mem_zipIdx_iff_getElem?,List.take_length]at hm;rcases List.mem_append.1 h with h | h
  ·obtain⟨i,s,_,hs,he,rfl⟩:=zkh.1 h;exact .inl ⟨t,x,i,s,hm,hs,he,rfl⟩
  ·obtain⟨i,e,_,hs,he,rfl⟩:=zna.1 h;exact .inr ⟨t,i,e,(zH.1 hm).1,hs,he,rfl⟩
 ·rintro(⟨t,x,i,s,hx,hs,he,rfl⟩ | ⟨t,i,e,ht,hi,ho,rfl⟩)
  ·refine⟨(x,t),?_,List.mem_append_left _ (zkh.2 ⟨i,s,(zH.1 hs).1,hs,he,rfl⟩)⟩;rw[List.mem_zipIdx_iff_getElem?,List.take_length];exact hx
  ·refine⟨(p.threads[t],t),?_,List.mem_append_right _ (zna.2 ⟨i,e,(zH.1 hi).1,hi,ho,rfl⟩)⟩;rw[List.mem_zipIdx_iff_getElem?,List.take_length];exact zI ht
theorem ziv {p:Prog} {e:Entry} (h:Proper p e):zcg e∈e.cells:=by
 have:=h.ne;unfold zcg
 cases hc:e.cells with
 | nil=>exact absurd hc this
 | cons a r=>simp
theorem zls {p:Prog} {k:Int} {b:List Entry} (hb: ∀e∈b,Proper p e) {i j:Nat} {e f:Entry} (hi:b[i]? =some e) (hj:b[j]? =some f) (ho:zc2 k b j f=true) (Av:i<j):zcg e≠zcg f:=by
 intro he;unfold zc2 at ho;simp only[Bool.or_eq_true,decide_eq_true_eq,zF,Bool.not_eq_true']at ho;rcases ho with h | ⟨_,h⟩
 ·omega
 ·have Ce:e∈b.take j:=by
   have:(b.take j)[i]? =some e:=by rw[zO,if_pos Av];exact hi
   exact zL this
  have:zcw (b.take j) f=true:=by
   rw[zcw,List.any_eq_true];refine⟨e,Ce,?_⟩;rw[zj0,List.any_eq_true];refine⟨zcg f,ziv (hb f (zL hj)),?_⟩;rw[<- he];simpa using ziv (hb e (zL hi))
  rw[this]at h;simp at h
theorem zqG {k:Int} {b:List Entry} {n:Int} {i:Nat} (h:zlF k b n=some i): ∃e,b[i]? =some e/\zc2 k b i e=true/\zcg e=n:=by
 have:=List.find?_some h
 try simp only at this
 split at this
 ·rename_i e he;simp only[zF,decide_eq_true_eq]at this;exact⟨e,he,this.1,this.2⟩
 ·simp at this
theorem zpA {p:Prog} {k:Int} {b:List Entry} (hb: ∀e∈b,Proper p e) {i:Nat} {e:Entry} (hi:b[i]? =some e) (ho:zc2 k b i e=true):zlF k b (zcg e)=some i:=by
 have AV:=(zH.1 hi).1
 cases hf:zlF k b (zcg e)with
 | none=>
   unfold zlF at hf;rw[List.find?_eq_none]at hf;have:=hf i (List.mem_range.2 AV);rw[hi]at this
   simp[ho]at this
 | some j=>
   obtain⟨f,hj,Pa,hh⟩:=zqG hf;rcases Nat.lt_trichotomy i j with h | h | h
   ·exact absurd hh.symm (zls hb hi hj Pa h)
   ·rw[h]
   ·exact absurd hh (zls hb hj hi ho h)
theorem zkE {p:Prog} {k:Int} {c:Config} {t i:Nat} {x:Thread} {s:Step} (hx:p.threads[t]? =some x) (hs:x.steps[i]? =some s) (he:zaN p c t s=true):zdL p k c ⟨t,i,0⟩=(zdN p c t s,0):=by
 have ht:=(zH.1 hx).1;have e1:zgf p ⟨t,i,0⟩=some s:=by simp[zgf,hx,hs]
 rw[zdL,if_neg (by simp only;omega),if_neg (by simp only;omega),e1];simp[he]
theorem zhR {p:Prog} {k:Int} {c:Config} (hc:IsB p c) {t i:Nat} {e:Entry} (ht:t<p.threads.length) (hi:(za1 c t)[i]? =some e) (ho:zc2 k (za1 c t) i e=true):zdL p k c ⟨t,-1,zcg e⟩=(za8 c t i,0):=by
 have hb:=(hc.buf t _ (zb0 (by rw[hc.lb];exact ht))).2.1;rw[zdL,if_neg (by simp only;omega),if_pos rfl];simp only[Int.toNat_natCast,zpA hb hi ho]
theorem zHX {p:Prog} {k:Int} {c:Config} {y:Choice} (h:y∉ zdt p k c):zdL p k c y=(zd9,110):=by
 unfold zdL;split
 ·rfl
 ·rename_i h1;simp only[not_or,Int.not_lt,Int.not_le]at h1;obtain⟨h1,h2,h3⟩:=h1;have ht:((y.thread.toNat:Nat):Int)=y.thread:=by omega
  split
  ·rename_i hs;split
   ·rename_i i hi;obtain⟨e,he,ho,hh⟩:=zqG hi;refine absurd (zh7.2 (.inr ⟨y.thread.toNat,i,e,by omega,he,ho,?_⟩)) h;cases y;simp_all
   ·rfl
  ·rename_i hs;split
   ·rename_i s Ff;split
    ·rename_i Ch;simp only[zF,decide_eq_true_eq]at Ch;simp only[zgf,zB]at Ff;obtain⟨x,hx,DW⟩:=Ff;refine absurd (zh7.2 (.inl ⟨y.thread.toNat,x,y.step.toNat,s,hx,DW,Ch.2,?_⟩)) h;cases y;simp_all;omega
    ·rfl
   ·rfl
theorem zuw {p:Prog} (hf:zak p=true) {k:Int} {c:Config} (hc:IsB p c) {y:Choice} (hy:y∈zdt p k c): ∃d,zdL p k c y=(d,0)/\IsB p d:=by
 rcases zh7.1 hy with⟨t,x,i,s,hx,hs,he,rfl⟩ | ⟨t,i,e,ht,hi,ho,rfl⟩
 ·exact⟨_,zkE hx hs he,zpE hf hc hx hs he⟩
 ·exact⟨_,zhR hc ht hi ho,zkY hc hi⟩
def zaK (p:Prog) (k:Int) (c:Config):List Choice:=if k=0 then zbt p c else zdt p k c
def zdk (p:Prog) (k:Int) (c:Config) (x:Choice):Config×Int:=if k=0 then zi0 p c x else zdL p k c x
structure IsK (p:Prog) (k:Int) (c:Config):Prop where
 b:IsB p c
 q:k=0-> ∀b∈c.buf,b=[]
theorem IsK.c {p:Prog} {c:Config} {k:Int} (h:IsK p k c) (hk:k=0):isM p c=true:=zhT.2 (zyJ h.b (h.q hk))
theorem zgY {p:Prog} (hf:zak p=true) {k:Int} {c:Config} (hc:IsK p k c) {y:Choice} (hy:y∈zaK p k c): ∃d,zdk p k c y=(d,0)/\IsK p k d:=by
 unfold zaK at hy;unfold zdk;split at hy
 ·rename_i hk;obtain⟨t,x,i,s,hx,hs,he,rfl,hn,hd⟩:=zr9 hf (hc.c hk) hy;rw[if_pos hk];have:=zhT.1 hd;exact⟨_,hn,zvT this,fun _=>this.buf⟩
 ·rename_i hk;rw[if_neg hk];obtain⟨d,hn,hd⟩:=zuw hf hc.b hy;exact⟨d,hn,hd,fun h=>absurd h hk⟩
theorem zG9 {p:Prog} (hf:zak p=true) {k:Int} {c:Config} (hc:IsK p k c) {y:Choice} (hy:y∉ zaK p k c):zdk p k c y=(zd9,110):=by
 unfold zaK at hy;unfold zdk;split at hy
 ·rename_i hk;rw[if_pos hk];exact zIf hf (hc.c hk) hy
 ·rename_i hk;rw[if_neg hk];exact zHX hy
theorem zfq {p:Prog} (hf:zak p=true) (k:Int):IsK p k (zcm p):=⟨zrv hf,fun _=>(zhT.1 (zoO hf)).buf⟩
end Rg
end
section
namespace Rg
open Go
theorem zeN {c:Config} (hq: ∀b∈c.buf,b=[]) (t:Nat):za1 c t=[]:=by
 unfold za1;rw[zK]
 cases h:c.buf[t]? with
 | none=>rfl
 | some b=>exact hq b (zL h)
theorem zkw {c:Config} (hq: ∀b∈c.buf,b=[]) (t:Nat):zaw c t=c.mem:=by rw[zaw,zeN hq];rfl
theorem zgU {p:Prog} {c:Config} (hq: ∀b∈c.buf,b=[]) (t:Nat) (s:Step):zaN p c t s=zb8 p c t s:=by
 unfold zaN zb8;rw[zkw hq,zeN hq,zeN hq]
 congr 1
 by_cases h3:s.kind=3
 ·rw[if_pos h3,if_neg (show ¬s.kind=6 by omega),if_neg (show ¬s.kind=7 by omega)];split<;>simp
 ·rw[if_neg h3]
  by_cases Gh:s.kind=4\/s.kind=5
  ·rw[if_pos Gh,if_neg (show ¬s.kind=6 by omega),if_neg (show ¬s.kind=7 by omega)];simp
  ·rw[if_neg Gh]
   by_cases h6:s.kind=6
   ·rw[if_pos h6,if_pos h6];simp
   ·rw[if_neg h6,if_neg h6];split<;>simp
theorem zll {p:Prog} {c:Config} (hq: ∀b∈c.buf,b=[]) (k:Int):zdt p k c=zbt p c:=by
 unfold zdt zaU zbt zcu
 congr 1
 funext q
 rw[zeN hq];have e1:zg7 k q.2 [] ([]:List Entry).length=[]:=rfl;rw[e1,List.append_nil];unfold zcP zcK
 congr 1
 funext r
 rw[zgU hq]
theorem zeG (p:Prog) (c:Config) (t:Nat) (x:Thread) (i:Nat):(zcP p c t x i).length<=i:=by
 unfold zcP;refine Nat.le_trans (List.length_filterMap_le _ _) ?_;simp;omega
theorem zjw (k:Int) (t:Nat) (b:List Entry) (i:Nat):(zg7 k t b i).length<=i:=by
 unfold zg7;refine Nat.le_trans (List.length_filterMap_le _ _) ?_;simp;omega
theorem zgr {p:Prog} {c:Config} {t:Nat} {x:Thread} {i:Nat} {s:Step} (h:x.steps[i]? =some s):
 zcP p c t x (i+1)=zcP p c t x i++(if zaN p c t s then [⟨t,i,0⟩]else []):=by
 unfold zcP;rw[zdV h,List.filterMap_append]
 congr 1
 cases hh:zaN p c t s<;>simp[hh]
theorem zkV {k:Int} {t:Nat} {b:List Entry} {i:Nat} {e:Entry} (h:b[i]? =some e):
 zg7 k t b (i+1)=zg7 k t b i++(if zc2 k b i e then [⟨t,-1,zcg e⟩]else []):=by
 unfold zg7;rw[zdV h,List.filterMap_append]
 congr 1
 cases hh:zc2 k b i e<;>simp[hh]
theorem zez {p:Prog} {k:Int} {c:Config} {i:Nat} {x:Thread} (h:p.threads[i]? =some x):
 zaU p k c (i+1)=zaU p k c i++(zcP p c i x x.steps.length++zg7 k i (za1 c i) (za1 c i).length):=by
 unfold zaU;rw[zdV h,List.flatMap_append];simp
theorem zyZ {p:Prog} {c:Config} (hc:IsB p c) (t:Nat):(za1 c t).length<=3:=by
 rcases Nat.lt_or_ge t c.buf.length with h | h
 ·exact(hc.buf t _ (zb0 h)).1
 ·simp[za1,List.getD,List.getElem?_eq_none h]
theorem zc8 {p:Prog} (hf:zak p=true) {k:Int} {c:Config} (hc:IsB p c): ∀i:Nat,(zaU p k c i).length<=67*i
 | 0=>by simp[zaU]
 | i+1=>by
   have ih:=zc8 hf (k:=k) hc i;rcases hx:p.threads[i]? with _ | x
   ·have:p.threads.length<=i:=by simpa using hx
    have e:zaU p k c (i+1)=zaU p k c i:=by
     unfold zaU;rw[List.take_of_length_le (by omega),List.take_of_length_le (by omega)]
    rw[e];omega
   ·have h1:=((zal (zam hf).1).2 x (zL hx)).2.1;have h2:=zeG p c i x x.steps.length;have h3:=zjw k i (za1 c i) (za1 c i).length;have h4:=zyZ hc i;rw[zez hx,zM,zM];omega
theorem zen {p:Prog} (hf:zak p=true) {k:Int} {c:Config} (hc:IsB p c):(zdt p k c).length<=268:=by
 have h1:=zc8 hf (k:=k) hc p.threads.length;have h2:=(zal (zam hf).1).1.2.2.2;unfold zdt;omega
section
end
theorem zd6 {p:Prog} {k:Int} {c:Config} (h:IsK p k c):zaK p k c=zdt p k c:=by
 unfold zaK;split
 ·rename_i hk;exact(zll (h.q hk) k).symm
 ·rfl
def zm8 (p:Prog) (k:Int) (c:Config) (t:Nat) (s:Step):Config:=if k=0 then zgb p c t s else zdN p c t s
theorem zsb {p:Prog} (hf:zak p=true) {k:Int} {c:Config} (hc:IsK p k c) {y:Choice} (hy:y∈zaK p k c):
 (∃(t:Nat) (x:Thread) (i:Nat) (s:Step),p.threads[t]? =some x/\x.steps[i]? =some s/\zaN p c t s=true/\y=⟨t,i,0⟩/\zdk p k c y=(zm8 p k c t s,0)/\IsK p k (zm8 p k c t s))\/
 (k≠0/\ ∃(t i:Nat) (e:Entry),t<p.threads.length/\(za1 c t)[i]? =some e/\zc2 k (za1 c t) i e=true/\y=⟨t,-1,zcg e⟩/\zdk p k c y=(za8 c t i,0)/\IsK p k (za8 c t i)):=by
 have OP:=hy;rw[zd6 hc]at OP;rcases zh7.1 OP with⟨t,x,i,s,hx,hs,he,rfl⟩ | ⟨t,i,e,ht,hi,ho,rfl⟩
 ·refine .inl ⟨t,x,i,s,hx,hs,he,rfl,?_⟩
  by_cases hk:k=0
  ·have hq:=hc.q hk;rw[zgU hq]at he;have hm:(⟨t,i,0⟩:Choice)∈zbt p c:=zgH.2 ⟨t,x,i,s,hx,hs,he,rfl⟩;obtain⟨t',x',i',s',Dc,F4,_,Fq,hn,hd⟩:=zr9 hf (hc.c hk) hm;simp only[Choice.mk.injEq,Int.natCast_inj,and_true]at Fq;obtain⟨rfl,rfl⟩:=Fq;rw[hx]at Dc;cases Dc;rw[hs]at F4;cases F4;have h1:=zhT.1 hd;simp only[zdk,zm8,if_pos hk];exact⟨hn,zvT h1,fun _=>h1.buf⟩
  ·simp only[zdk,zm8,if_neg hk];exact⟨zkE hx hs he,zpE hf hc.b hx hs he,fun h=>absurd h hk⟩
 ·have hk:k≠0:=by
   intro hk;rw[zeN (hc.q hk)]at hi;simp at hi
  refine .inr ⟨hk,t,i,e,ht,hi,ho,rfl,?_⟩;simp only[zdk,if_neg hk];exact⟨zhR hc.b ht hi ho,zkY hc.b hi,fun h=>absurd h hk⟩
def zwW (l:List Int) (v:Int):Int:=match l.findIdx? (fun x=>decide (x=v))with
 | some i=>i
 | none=> -1
theorem zwT {l:List Int} {v:Int} {i:Nat} (h:l[i]? =some v) (hn: ∀j,j<i->l[j]? ≠some v):zwW l v=i:=by
 have hi:=(zH.1 h).1
 have:l.findIdx? (fun x=>decide (x=v))=some i:=by
  rw[List.findIdx?_eq_some_iff_getElem];refine⟨hi,by simpa using(zH.1 h).2,fun j hj=> ?_⟩;have:=hn j hj;rw[zI (by omega)]at this;simpa using this
 rw[zwW,this]
theorem zuT {l:List Int} {v:Int} (hn: ∀j,j<l.length->l[j]? ≠some v):zwW l v= -1:=by
 have:l.findIdx? (fun x=>decide (x=v))=none:=by
  rw[List.findIdx?_eq_none_iff];intro x hx;obtain⟨j,hj⟩:=List.getElem?_of_mem hx;have:=hn j (zH.1 hj).1;rw[hj]at this;simpa using this
 rw[zwW,this]
theorem zwU (l:List Int) (v:Int):decide (zwW l v>=0)=l.contains v:=by
 unfold zwW
 cases h:l.findIdx? (fun x=>decide (x=v))with
 | some i=>
   have hm:v∈l:=by
    rw[List.findIdx?_eq_some_iff_getElem]at h;obtain⟨h1,h2,_⟩:=h;exact(by simpa using h2:l[i]=v)▸List.getElem_mem h1
   simp[hm]
 | none=>
   have hm:v∉ l:=by
    intro hm;rw[List.findIdx?_eq_none_iff]at h;have:=h v hm;simp at this
   simp[hm]
theorem zq0 (l:List Int) (v:Int) (hl:l.length<2^40):Den Γ G 207 [.t (ints l),vi v]=some (vi (zwW l v)):=by
 (refine zag Γ207 rfl ?_;dsimp only[zIQ])
 simp -dsimp only[go_sem,seval];refine zaT 524080 l.length (fun i f=>(f 8).v=vi i/\ ∀j,j<i->l[j]? ≠some v) rfl rfl ⟨by simp -dsimp only[go_sem,seval],fun j hj=>by omega⟩ ?_;rintro i f u kk bb hi ⟨h8,hn⟩;have hw:=zan i (by omega);simp -dsimp only[go_sem,seval,h8];refine zac (fun h=> ?_) (fun h=> ?_)<;>(try rw[h])<;>(try simp only[zah]at h)<;>(try simp -dsimp only[go_sem,seval,h8])
 ·obtain⟨y,hy,_⟩:=zai ‹i<l.length›;simp -dsimp only[go_sem,seval,h8,hy];refine zac (fun h=> ?_) (fun h=> ?_)<;>(try rw[h])<;>(try simp only[zah]at h)<;>(try simp -dsimp only[go_sem,seval,h8])
  ·rw[zwT (by rw[hy,h]) hn]
  ·refine⟨by omega,by simp -dsimp only[go_sem,seval,hw],fun j hj=> ?_⟩;rcases Nat.lt_or_ge j i with h1 | h1
   ·exact hn j h1
   ·have:j=i:=by omega
    subst this;rw[hy];intro he;cases he;exact absurd rfl h
 ·have:i=l.length:=by omega
  subst this;rw[zuT hn]
theorem zff (l:List Int) (v:Int) (hl:l.length<2^40):Den Γ G 206 [.t (ints l),vi v]=some (vb (l.contains v)):=by
 (refine zag Γ206 rfl ?_;dsimp only[zIR])
 have h1:=zq0 l v hl;have h2:=zwU l v;simp -dsimp only[go_sem,seval,h1,h2]
theorem zow (l:List Entry) (e:Entry) (hl:l.length<2^40) (he:e.cells.length<2^40) (hc: ∀o∈l,o.cells.length<2^40):
 Den Γ G 201 [.t (.sl (l.map Entry.enc)),.agg [.t (ints e.cells),.t (ints e.values)]]=some (vb (zcw l e)):=by
 (refine zag Γ201 rfl ?_;dsimp only[zIS])
 simp -dsimp only[go_sem,seval];refine zaT 268433744 l.length (fun i f=>(f 11).v=vi i/\zcw l e=(l.drop i).any fun o=>zj0 o e) rfl rfl ⟨by simp -dsimp only[go_sem,seval],rfl⟩ ?_;rintro i f u kk bb hi ⟨Bg,A9⟩;have hw:=zan i (by omega);simp -dsimp only[go_sem,seval,Bg];refine zac (fun h=> ?_) (fun h=> ?_)<;>(try rw[h])<;>(try simp only[zah]at h)<;>(try simp -dsimp only[go_sem,seval,Bg])
 ·obtain⟨y,hy,Eq⟩:=zai ‹i<l.length›;have Hs:=hc y Eq;simp -dsimp only[go_sem,seval,Bg,hy,Entry.enc];refine zaT 133955856 e.cells.length (fun j f'=>(f' 18).v=vi j/\(e.cells.take j).any (fun n=>y.cells.contains n)=false) rfl rfl ⟨by simp -dsimp only[go_sem,seval],by simp⟩ ?_;rintro j f' u' kk' bb' hj ⟨Ep,Be⟩;have Aw:=zan j (by omega);simp -dsimp only[go_sem,seval,Ep];refine zac (fun h=> ?_) (fun h=> ?_)<;>(try rw[h])<;>(try simp only[zah]at h)<;>(try simp -dsimp only[go_sem,seval,Ep,Bg])
  ·obtain⟨n,hn,GE⟩:=zai ‹j<e.cells.length›;have E0:=zff y.cells n Hs;simp -dsimp only[go_sem,seval,Ep,Bg,hn,E0];refine zac (fun h=> ?_) (fun h=> ?_)<;>(try rw[h])<;>(try simp only[zah]at h)<;>(try simp -dsimp only[go_sem,seval,Ep,Bg])
   ·rw[A9,zlY hy (by rw[zj0,List.any_eq_true];exact⟨n,GE,by simpa using h⟩)]
   ·refine⟨by omega,by simp -dsimp only[go_sem,seval,Aw],?_⟩;rw[zaf hn,List.any_append,Be];simpa using h
  ·have:j=e.cells.length:=by omega
   subst this;refine⟨by omega,by simp -dsimp only[go_sem,seval,hw],?_⟩;rw[A9,zlZ hy (by rw[List.take_length]at Be;exact Be)]
 ·have:i=l.length:=by omega
  subst this;rw[A9,zoz]
end Rg
end
