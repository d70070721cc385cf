/- Part of the proof of laws of relyguardlaw04. No condition. -/
import Derived.Test.YtmgalfhaeddfbaaNartAO
import Derived.Test.YtmgalfhaeddfbaaNartAM
set_option linter.unusedSimpArgs false
set_option linter.unusedVariables false
section
namespace Rg
open Go
def zQ2 (l:List Va) (b:ByteArray):Int×Bool:=zGN (fun v:Va=>decide (v.name=b)) l
def zQT (l:List Va) (m:Int) (b:ByteArray):Int×Bool:=zGN (fun v:Va=>decide (v.module=m/\v.name=b)) l
theorem zQ4 (l:List Va) (b:ByteArray) (hl:l.length<2^40):Den Γ G 616 [.t (.sl (l.map Va.enc)),.t (.str b)]=some (.tup [vi (zQ2 l b).1,vb (zQ2 l b).2]):=by
 generalize hF:zQ2 l b=F
 unfold zQ2 at hF
 (refine zag Γ616 rfl ?_;dsimp only[zOP])
 simp -dsimp -implicitDefEqProofs only[go_sem,seval];refine zaT 2096368 l.length (fun i f=>(f 10).v=vi i/\ ∀j,j<i-> ∀v,l[j]? =some v->decide (v.name=b)=false) rfl rfl ⟨by simp -dsimp -implicitDefEqProofs only[go_sem,seval],by omega⟩ ?_;rintro i f u x bb hi ⟨g,hp⟩
 by_cases AV:i<l.length
 ·have e1:=eq_true AV;obtain⟨a,ha,Cp⟩:=zai AV;have Bj:(l.map Va.enc)[i]? =some [.str a.name,ti a.w,ti a.len,ti a.init,tb a.ghost,ti a.module,ti a.pos]:=by rw[zJ,ha];rfl
  have hw:=zan i (by omega)
  by_cases hn:a.name=b
  ·have e2:=eq_true hn;rw[zKL ha (by simpa using hn) hp]at hF;subst hF;simp -dsimp -implicitDefEqProofs only[go_sem,seval,g,e1,Bj,e2]
   try rfl
  ·have e2:=eq_false hn;simp -dsimp -implicitDefEqProofs only[go_sem,seval,g,e1,Bj,e2,hw];refine⟨AV,by simp -dsimp -implicitDefEqProofs only[go_sem,seval],fun j hj v hv=> ?_⟩
   by_cases DP:j=i
   ·subst DP;rw[ha]at hv;cases hv;simpa using hn
   ·exact hp j (by omega) v hv
 ·have e1:=eq_false AV;rw[zI7 (fun j v hv=>hp j (by have:=(zH.1 hv).1;omega) v hv)]at hF;subst hF;simp -dsimp -implicitDefEqProofs only[go_sem,seval,g,e1]
  try rfl
theorem zQX (ct:Ct) (m:Int) (b:ByteArray) (hl:ct.vars.length<2^40):Den Γ G 617 [zKE ct,vi m,.t (.str b)]=some (.tup [vi (zQT ct.vars m b).1,vb (zQT ct.vars m b).2]):=by
 generalize hF:zQT ct.vars m b=F
 unfold zQT at hF;unfold zKE
 (refine zag Γ617 rfl ?_;dsimp only[zOO])
 simp -dsimp -implicitDefEqProofs only[go_sem,seval];refine zaT 1073734592 ct.vars.length (fun i f=>(f 13).v=vi i/\ ∀j,j<i-> ∀v,ct.vars[j]? =some v->decide (v.module=m/\v.name=b)=false) rfl rfl ⟨by simp -dsimp -implicitDefEqProofs only[go_sem,seval],by omega⟩ ?_;rintro i f u x bb hi ⟨g,hp⟩
 by_cases AV:i<ct.vars.length
 ·have e1:=eq_true AV;obtain⟨a,ha,Cp⟩:=zai AV;have Bj:(ct.vars.map Va.enc)[i]? =some [.str a.name,ti a.w,ti a.len,ti a.init,tb a.ghost,ti a.module,ti a.pos]:=by rw[zJ,ha];rfl
  have hw:=zan i (by omega)
  by_cases hn:a.module=m/\a.name=b
  ·have e2:=eq_true hn.1;have e3:=eq_true hn.2;rw[zKL ha (by simpa using hn) hp]at hF;subst hF;simp -dsimp -implicitDefEqProofs only[go_sem,seval,g,e1,Bj,e2,e3]
   try rfl
  ·have ED: ∀j,j<i+1-> ∀v,ct.vars[j]? =some v->decide (v.module=m/\v.name=b)=false:=fun j hj v hv=>by
    by_cases DP:j=i
    ·subst DP;rw[ha]at hv;cases hv;simpa using hn
    ·exact hp j (by omega) v hv
   by_cases hm:a.module=m
   ·have e2:=eq_true hm;have e3:(a.name=b)=False:=eq_false fun h=>hn ⟨hm,h⟩
    simp -dsimp -implicitDefEqProofs only[go_sem,seval,g,e1,Bj,e2,e3,hw];exact⟨AV,by simp -dsimp -implicitDefEqProofs only[go_sem,seval],ED⟩
   ·have e2:=eq_false hm;simp -dsimp -implicitDefEqProofs only[go_sem,seval,g,e1,Bj,e2,hw];exact⟨AV,by simp -dsimp -implicitDefEqProofs only[go_sem,seval],ED⟩
 ·have e1:=eq_false AV;rw[zI7 (fun j v hv=>hp j (by have:=(zH.1 hv).1;omega) v hv)]at hF;subst hF;simp -dsimp -implicitDefEqProofs only[go_sem,seval,g,e1]
  try rfl
theorem zQ6 {h:Nat->Option O} {x k:Nat} {r0 r2 r3 r4:V} {vars:List Va} {fz:Bool} (hk:h k=some (.rows 5 [[r0,.t (.sl (vars.map Va.enc)),r2,r3,r4]] fz)) (m:Int) (b:ByteArray) (hl:vars.length<2^40):
 ∃r h' x',DenR Γ G 645 [vi m,.t (.str b),.mp k 0 0] h x=some (r,h',x')/\(r=(if(zQT vars m b).2=true then vi (zQT vars m b).1 else vi (-1))/\h'=h/\x<=x'):=by
 generalize hF:zQT vars m b=F
 unfold zQT at hF
 (refine zay Γ645 rfl ?_;dsimp only[zRx])
 simp -dsimp -implicitDefEqProofs only[go_sem,seval,hk];refine zaq 268433632 vars.length (fun i f h' x'=>(f 11).v=vi i/\h'=h/\x<=x'/\ ∀j,j<i-> ∀v,vars[j]? =some v->decide (v.module=m/\v.name=b)=false) rfl ⟨by simp -dsimp -implicitDefEqProofs only[go_sem,seval],rfl,by(try simp -dsimp -implicitDefEqProofs only[go_sem,seval]);(try omega),by omega⟩ ?_;rintro i f u h' x2 bb hi ⟨g,rfl,ML,hp⟩
 by_cases AV:i<vars.length
 ·have e1:=eq_true AV;obtain⟨a,ha,Cp⟩:=zai AV;have Bj:(vars.map Va.enc)[i]? =some [.str a.name,ti a.w,ti a.len,ti a.init,tb a.ghost,ti a.module,ti a.pos]:=by rw[zJ,ha];rfl
  have hw:=zan i (by omega)
  by_cases hn:a.module=m/\a.name=b
  ·have e2:=eq_true hn.1;have e3:=eq_true hn.2;rw[zKL ha (by simpa using hn) hp]at hF;subst hF;simp -dsimp -implicitDefEqProofs only[go_sem,seval,g,e1,Bj,e2,e3];exact⟨rfl,rfl,by(try simp -dsimp -implicitDefEqProofs only[go_sem,seval]);(try omega)⟩
  ·have ED: ∀j,j<i+1-> ∀v,vars[j]? =some v->decide (v.module=m/\v.name=b)=false:=fun j hj v hv=>by
    by_cases DP:j=i
    ·subst DP;rw[ha]at hv;cases hv;simpa using hn
    ·exact hp j (by omega) v hv
   by_cases hm:a.module=m
   ·have e2:=eq_true hm;have e3:(a.name=b)=False:=eq_false fun h=>hn ⟨hm,h⟩
    simp -dsimp -implicitDefEqProofs only[go_sem,seval,g,e1,Bj,e2,e3,hw];exact⟨AV,by simp -dsimp -implicitDefEqProofs only[go_sem,seval],by simp -dsimp -implicitDefEqProofs only[go_sem,seval],by(try simp -dsimp -implicitDefEqProofs only[go_sem,seval]);(try omega),ED⟩
   ·have e2:=eq_false hm;simp -dsimp -implicitDefEqProofs only[go_sem,seval,g,e1,Bj,e2,hw];exact⟨AV,by simp -dsimp -implicitDefEqProofs only[go_sem,seval],by simp -dsimp -implicitDefEqProofs only[go_sem,seval],by(try simp -dsimp -implicitDefEqProofs only[go_sem,seval]);(try omega),ED⟩
 ·have e1:=eq_false AV;rw[zI7 (fun j v hv=>hp j (by have:=(zH.1 hv).1;omega) v hv)]at hF;subst hF;simp -dsimp -implicitDefEqProofs only[go_sem,seval,g,e1];exact⟨rfl,rfl,by(try simp -dsimp -implicitDefEqProofs only[go_sem,seval]);(try omega)⟩
end Rg
end
section
namespace Rg
open Go
theorem zRq (l:List Mo):Pw (fun row nm=> ∃rest,row= .t (.str nm)::rest/\rest.length=21) (zGk (l.map Mo.enc)) (l.map Mo.name):=by
 refine⟨by simp,fun i row nm h1 h2=> ?_⟩;rw[zGk,List.map_map,zJ,zE]at h1;rw[zJ,zE]at h2;obtain⟨a,ha,rfl⟩:=h1;obtain⟨b,hb,rfl⟩:=h2;rw[ha]at hb;cases hb;exact⟨_,rfl,by simp[Nd.enc_eq]⟩
theorem zRr (l:List Pr):Pw (fun row k=> ∃rest,row= .t (.str k.2):: .t (ti k.1)::rest/\rest.length=14) (zGk (l.map Pr.enc)) (l.map fun p=>(p.module,p.name)):=by
 refine⟨by simp,fun i row nm h1 h2=> ?_⟩;rw[zGk,List.map_map,zJ,zE]at h1;rw[zJ,zE]at h2;obtain⟨a,ha,rfl⟩:=h1;obtain⟨b,hb,rfl⟩:=h2;rw[ha]at hb;cases hb;exact⟨_,rfl,by simp[Nd.enc_eq]⟩
theorem zRl (l:List Mo): ∀r∈l.map Mo.enc,r.length=22:=fun r hr=>by
 obtain⟨a,_,rfl⟩:=List.mem_map.1 hr;simp[Mo.enc,Nd.enc_eq]
theorem zRn (l:List Pr): ∀r∈l.map Pr.enc,r.length=16:=fun r hr=>by
 obtain⟨a,_,rfl⟩:=List.mem_map.1 hr;simp[Pr.enc,Nd.enc_eq]
theorem zRo {ct:Ct} {m:Int} {b:ByteArray} {w:Int} (hv:ct.vars.length<2^40) (hm:0<=m/\m<ct.mods.length) (hs:zQT ct.vars m b=(w,true)):
 Den Γ G 603 [zKE ct,vi m,vi (-1),.t (.str b)]=some (.tup [.agg [vi 1,vi w],vi 0]):=by
 have h1:=zQX ct m b hv;rw[hs]at h1;unfold zKE at h1⊢
 (refine zag Γ603 rfl ?_;dsimp only[zOT])
 have e1:(m<0)=False:=eq_false (by omega);have e2:(m>=ct.mods.length)=False:=eq_false (by omega);have e3:((-1:Int)>=ct.procs.length)=False:=eq_false (by omega);simp -dsimp -implicitDefEqProofs only[go_sem,seval,e1,e2,e3,h1]
 try rfl
theorem zRu {ct:Ct} {m:Int} {b:ByteArray} {j w:Int} (hv:ct.vars.length<2^40) (L2:ct.mods.length<2^40) (hb:b.size<4294967281) (hm:0<=m/\m<ct.mods.length) (hs:(zQT ct.vars m b).2=false) (hc:(zIB b).2.2=true) (hf:zGN (fun n=>decide (n=(zIB b).1)) (ct.mods.map Mo.name)=(j,true)) (hw:zQT ct.vars j (zIB b).2.1=(w,true)):
 Den Γ G 603 [zKE ct,vi m,vi (-1),.t (.str b)]=some (.tup [.agg [vi 1,vi w],vi 0]):=by
 have h1:=zQX ct m b hv;have h2:=zQX ct j (zIB b).2.1 hv;have h3:=zNk b hb;rw[hs]at h1;rw[hw]at h2;rw[hc]at h3;unfold zKE at h1 h2⊢
 (refine zag Γ603 rfl ?_;dsimp only[zOT])
 have e1:(m<0)=False:=eq_false (by omega);have e2:(m>=ct.mods.length)=False:=eq_false (by omega);have e3:((-1:Int)>=ct.procs.length)=False:=eq_false (by omega);simp -dsimp -implicitDefEqProofs only[go_sem,seval,e1,e2,e3,h1,h3];refine zas (zH3 (zQY (zRl _)) (zRq _) (by simpa using L2) (zIB b).1) ?_;rintro r h' x' ⟨rfl,rfl,hx⟩;rw[hf];simp -dsimp -implicitDefEqProofs only[go_sem,seval,h2]
 try rfl
theorem zRs {ct:Ct} {m:Int} {i:Nat} {q:Pr} {b:ByteArray} {w:Int} (hm:0<=m/\m<ct.mods.length) (hq:ct.procs[i]? =some q) (PZ:q.module=m) (BL:q.params.length<2^40) (hs:zQ2 q.params b=(w,true)):
 Den Γ G 603 [zKE ct,vi m,vi i,.t (.str b)]=some (.tup [.agg [vi 2,vi w],vi 0]):=by
 have h1:=zQ4 q.params b BL;rw[hs]at h1;have Ad:=(zH.1 hq).1
 have Bj:(ct.procs.map Pr.enc)[i]? =some [.str q.name,ti q.module,.sl (q.params.map Va.enc),.sl (q.locals.map Va.enc),.str q.locked,ti q.body.kind,.str q.body.name,.str q.body.other,ti q.body.n,ti q.body.len,ti q.body.init,tb q.body.ghost,.sl (q.body.kids.map Nd.enc),ti q.body.pos,.sl (q.calls.map fun n=>[ti n]),ti q.pos]:=by
  rw[zJ,hq];simp[Pr.enc,Nd.enc_eq]
 rw[PZ]at Bj;unfold zKE
 (refine zag Γ603 rfl ?_;dsimp only[zOT])
 have e1:(m<0)=False:=eq_false (by omega);have e2:(m>=ct.mods.length)=False:=eq_false (by omega);have e3:((i:Int)>=ct.procs.length)=False:=eq_false (by omega);have e4:((i:Int)< -1)=False:=eq_false (by omega);have e5:((i:Int)>=0)=True:=eq_true (by omega);have e6:(m=m)=True:=eq_true rfl;simp -dsimp -implicitDefEqProofs only[go_sem,seval,e1,e2,e3,e4,e5,Bj,e6,h1,ne_eq,not_true_eq_false]
 try rfl
theorem zRt {ct:Ct} {m:Int} {i:Nat} {q:Pr} {b:ByteArray} {w:Int} (hm:0<=m/\m<ct.mods.length) (hq:ct.procs[i]? =some q) (PZ:q.module=m) (BL:q.params.length<2^40) (FZ:q.locals.length<2^40) (hs:(zQ2 q.params b).2=false) (Gu:zQ2 q.locals b=(w,true)):
 Den Γ G 603 [zKE ct,vi m,vi i,.t (.str b)]=some (.tup [.agg [vi 3,vi w],vi 0]):=by
 have h1:=zQ4 q.params b BL;have h2:=zQ4 q.locals b FZ;rw[hs]at h1;rw[Gu]at h2;have Ad:=(zH.1 hq).1
 have Bj:(ct.procs.map Pr.enc)[i]? =some [.str q.name,ti q.module,.sl (q.params.map Va.enc),.sl (q.locals.map Va.enc),.str q.locked,ti q.body.kind,.str q.body.name,.str q.body.other,ti q.body.n,ti q.body.len,ti q.body.init,tb q.body.ghost,.sl (q.body.kids.map Nd.enc),ti q.body.pos,.sl (q.calls.map fun n=>[ti n]),ti q.pos]:=by
  rw[zJ,hq];simp[Pr.enc,Nd.enc_eq]
 rw[PZ]at Bj;unfold zKE
 (refine zag Γ603 rfl ?_;dsimp only[zOT])
 have e1:(m<0)=False:=eq_false (by omega);have e2:(m>=ct.mods.length)=False:=eq_false (by omega);have e3:((i:Int)>=ct.procs.length)=False:=eq_false (by omega);have e4:((i:Int)< -1)=False:=eq_false (by omega);have e5:((i:Int)>=0)=True:=eq_true (by omega);have e6:(m=m)=True:=eq_true rfl;simp -dsimp -implicitDefEqProofs only[go_sem,seval,e1,e2,e3,e4,e5,Bj,e6,h1,h2,ne_eq,not_true_eq_false]
 try rfl
def zQU (b:ByteArray):Bool:= !(b.data.toList.contains 46)
theorem zRp (b:ByteArray) (i:Nat):b[i]? =b.data.toList[i]? :=by
 by_cases h:i<b.size
 ·rw[getElem?_pos b i h,zI (by simpa using h)];rfl
 ·rw[getElem?_neg b i h,List.getElem?_eq_none (by simp;exact Nat.le_of_not_lt h)]
theorem zRg {b:ByteArray} (hb:b.size<2^40) (hn: ∀(i:Nat) (c:UInt8),b[i]? =some c->c≠46):Den Γ G 654 [.t (.str b)]=some (.tup [.t (.str (bs [])),.t (.str (bs [])),vb false]):=by
 (refine zag Γ654 rfl ?_;dsimp only[zRv])
 simp -dsimp -implicitDefEqProofs only[go_sem,seval];refine zaT 8388604 b.size (fun i f=>(f 5).v=vi i) rfl rfl (by simp -dsimp -implicitDefEqProofs only[go_sem,seval]) ?_;rintro i f u x bb hi g
 by_cases AV:i<b.size
 ·have e1:=eq_true AV;have hw:=zan i (by omega);obtain⟨c,hc⟩: ∃c,b[i]? =some c:=⟨_,getElem?_pos b i AV⟩
  have e2:((c.toNat:Int)=46)=False:=eq_false fun h=>hn i c hc (by
   have:c.toNat=46:=by omega
   exact UInt8.toNat_inj.1 this)
  simp -dsimp -implicitDefEqProofs only[go_sem,seval,g,e1,hc,e2,hw];exact⟨AV,by simp -dsimp -implicitDefEqProofs only[go_sem,seval]⟩
 ·have e1:=eq_false AV;simp -dsimp -implicitDefEqProofs only[go_sem,seval,g,e1]
  try rfl
theorem zRf {b:ByteArray} {k:Nat} (hb:b.size<2^40) (hk:b[k]? =some 46) (hn: ∀(i:Nat) (c:UInt8),i<k->b[i]? =some c->c≠46):
 Den Γ G 654 [.t (.str b)]=some (.tup [.t (.str (b.extract 0 k)),.t (.str (b.extract (k+1) b.size)),vb true]):=by
 have Do:k<b.size:=by
  rcases Nat.lt_or_ge k b.size with h | h
  ·exact h
  ·rw[getElem?_neg b k (by omega)]at hk;cases hk
 (refine zag Γ654 rfl ?_;dsimp only[zRv])
 simp -dsimp -implicitDefEqProofs only[go_sem,seval];refine zaT 8388604 b.size (fun i f=>(f 5).v=vi i/\i<=k) rfl rfl ⟨by simp -dsimp -implicitDefEqProofs only[go_sem,seval],by omega⟩ ?_;rintro i f u x bb hi ⟨g,VH⟩;have AV:i<b.size:=by omega
 have e1:=eq_true AV;have hw:=zan i (by omega);obtain⟨c,hc⟩: ∃c,b[i]? =some c:=⟨_,getElem?_pos b i AV⟩
 by_cases VF:i=k
 ·subst VF;rw[hk]at hc;cases hc;have e2:(((46:UInt8).toNat:Int)=46)=True:=eq_true rfl;have e3:((i:Int)<=b.size)=True:=eq_true (by omega);have e4:(((i+1:Nat):Int)<=b.size)=True:=eq_true (by omega);have e5:(0<=((i+1:Nat):Int))=True:=eq_true (by omega);have e6:((b.size:Int)<=b.size)=True:=eq_true (Int.le_refl _);simp -dsimp -implicitDefEqProofs only[go_sem,seval,g,e1,hk,e2,e3,e4,e5,e6,hw]
  try rfl
 ·have e2:((c.toNat:Int)=46)=False:=eq_false fun h=>hn i c (by omega) hc (by
   have:c.toNat=46:=by omega
   exact UInt8.toNat_inj.1 this)
  simp -dsimp -implicitDefEqProofs only[go_sem,seval,g,e1,hc,e2,hw];exact⟨AV,by simp -dsimp -implicitDefEqProofs only[go_sem,seval],by omega⟩
theorem zQ3 (b:ByteArray) (hb:b.size<2^40):Den Γ G 646 [.t (.str b)]=some (vb (zQU b)):=by
 by_cases h: ∃k:Nat,b[k]? =some 46
 ·have hs:zQU b=false:=by
   obtain⟨k,hk⟩:=h;rw[zRp]at hk;unfold zQU;rw[Bool.not_eq_false',List.contains_iff_mem];exact zL hk
  obtain⟨k,hk,hn⟩: ∃k:Nat,b[k]? =some 46/\ ∀(i:Nat) (c:UInt8),i<k->b[i]? =some c->c≠46:=by
   obtain⟨k,hk⟩:=h
   induction k using Nat.strongRecOn with
   | _ k ih=>
     by_cases h2: ∃i,i<k/\b[i]? =some 46
     ·obtain⟨i,hi,hb⟩:=h2;exact ih i hi hb
     ·exact⟨k,hk,fun i c hi hc h3=>h2 ⟨i,hi,h3▸hc⟩⟩
  have h1:=zRf hb hk hn;rw[hs]
  (refine zag Γ646 rfl ?_;dsimp only[zRw])
  simp -dsimp -implicitDefEqProofs only[go_sem,seval,h1]
  try rfl
 ·have hn: ∀(i:Nat) (c:UInt8),b[i]? =some c->c≠46:=fun i c hc h2=>h ⟨i,h2▸hc⟩
  have hs:zQU b=true:=by
   unfold zQU;rw[Bool.not_eq_true',Bool.eq_false_iff];intro hc;rw[List.contains_iff_mem]at hc;obtain⟨i,hi⟩:=List.getElem?_of_mem hc;exact hn i 46 (by rw[zRp];exact hi) rfl
  have h1:=zRg hb hn;rw[hs]
  (refine zag Γ646 rfl ?_;dsimp only[zRw])
  simp -dsimp -implicitDefEqProofs only[go_sem,seval,h1]
  try rfl
theorem zRm {a n:ByteArray} (h:zQU a=true):zIB (zKd a n)=(a,n,true):=by
 have hn: ∀x∈a.data.toList,x≠46:=fun x hx h2=>by
  unfold zQU at h;rw[Bool.not_eq_true',Bool.eq_false_iff,ne_eq,List.contains_iff_mem]at h;exact h (h2▸hx)
 have hl:(zKd a n).data.toList=a.data.toList++46::n.data.toList:=by
  simp[zKd,bs]
 have VE: ∀(l r:List UInt8),(∀x∈l,x≠46)->Go.Lib.indexByte (l++46::r) 46=l.length:=by
  intro l r
  induction l with
  | nil=>intro _;rfl
  | cons x l ih=>
    intro hx;have h1:=ih fun y hy=>hx y (by simp[hy])
    have h2:(x==46)=false:=by simpa using hx x (by simp)
    rw[List.cons_append,Go.Lib.indexByte,h1,h2]
    have h3:(((l.length:Nat):Int)== -1)=false:=by
     rw[beq_eq_false_iff_ne];omega
    rw[h3];simp
 have key: ∀l r:List UInt8,(∀x∈l,x≠46)->Go.Lib.cut (l++46::r) [46]=(l,r,true):=fun l r hx=>by
  unfold Go.Lib.cut;rw[Go.Lib.index_one,VE l r hx,if_pos (by omega)];rw[Int.toNat_natCast,List.take_left,show l++46::r=(l++[46])++r by simp,List.drop_left' (by simp)]
 have hc:Go.Lib.cut (zKd a n).data.toList [46]=(a.data.toList,n.data.toList,true):=by rw[hl];exact key _ _ hn
 unfold zIB;rw[hc]
structure Ct.more (m:Int) (a b:Ct):Prop where
 v: ∃x,b.vars=a.vars++x
 l: ∃x,b.locks=a.locks++x
 p: ∃x:List Pr,b.procs=a.procs++x/\ ∀p∈x,p.module=m
theorem Ct.more.refl (m:Int) (a:Ct):a.more m a:=⟨⟨[],by simp⟩,⟨[],by simp⟩,[],by simp,by simp⟩
theorem Ct.more.trans {m:Int} {a b c:Ct} (h:a.more m b) (k:b.more m c):a.more m c:=by
 obtain⟨⟨x,hx⟩,⟨y,hy⟩,z,hz,Mj⟩:=h;obtain⟨⟨x',Dc⟩,⟨y',Sd⟩,z',Mk,BI⟩:=k;exact⟨⟨x++x',by rw[Dc,hx,zQ]⟩,⟨y++y',by rw[Sd,hy,zQ]⟩,z++z',by rw[Mk,hz,zQ],fun p hp=>(List.mem_append.1 hp).elim (Mj p) (BI p)⟩
theorem zQy (m:Int) (ct:Ct) (a:Nd): ∃x,(zGl m ct a).vars=ct.vars++x:=by
 have rp: ∀(c:Ct) (e p:Int),(c.report e p).vars=c.vars:=fun c e p=>by unfold Ct.report;split<;>rfl
 unfold zGl;split
 rotate_left
 ·exact⟨[],by simp⟩
 split
 ·exact⟨[],by simp[rp]⟩
 split
 ·obtain⟨d,hd⟩:=zG0 (zGo a 52) (ct,[]);have hf:(ct.fields a).1= { ct with diags:=d }:=hd;exact⟨[],by simp[Ct.addName,hf]⟩
 split
 ·have h1: ∃x,(ct.shared m a).1.vars=ct.vars++x:=by
   have fin: ∀vs:List Va,∃x,(ct.sharedFin a vs).1.vars=ct.vars++x:=fun vs=>by
    unfold Ct.sharedFin;split
    ·exact⟨vs,rfl⟩
    ·exact⟨[],by simp[rp]⟩
   unfold Ct.shared;split
   ·exact⟨[],by simp[rp]⟩
   ·split
    ·split
     ·exact fin _
     ·exact⟨[],by simp[rp]⟩
    ·split
     ·exact⟨[],by simp[rp]⟩
     ·exact fin _
  split
  ·exact h1
  ·exact h1
 split
 ·have h1:(ct.lock m a).1.vars=ct.vars:=by
   unfold Ct.lock;split
   ·exact rp _ _ _
   ·rfl
  split
  ·exact⟨[],by simp[Ct.addName,h1]⟩
  ·exact⟨[],by simp[h1]⟩
 ·obtain⟨d,hd⟩:=zJj ct m a;exact⟨[],by simp[Ct.addName,hd]⟩
theorem zQz (m:Int) (ct:Ct) (a:Nd):ct.more m (zGl m ct a):=by
 refine⟨zQy m ct a,?_,?_⟩
 ·rcases zIS m ct a with h | h
  ·exact⟨[],by rw[h];simp⟩
  ·exact⟨_,h⟩
 ·rcases zHy m ct a with h | h
  ·exact⟨[],by rw[h];simp,by simp⟩
  ·exact⟨_,h,by simp⟩
theorem zQj (m:Int): ∀(l:List Nd) (ct:Ct),ct.more m (l.foldl (zGl m) ct)
 | [],ct=> .refl m ct
 | a::l,ct=>(zQz m ct a).trans (zQj m l _)
theorem zQx: ∀(l:List (Nd×Nat)) (c:Ct) (D:Int),(∀q∈l,(q.2:Int)<D)->(∀p∈c.procs,0<=p.module/\p.module<D)-> ∀p∈(l.foldl (fun c q=>q.1.kids.foldl (zGl (q.2:Nat)) c) c).procs,0<=p.module/\p.module<D
 | [],c,D,_,h=>h
 | q::l,c,D,hl,h=>by
   refine zQx l _ D (fun x hx=>hl x (by simp[hx])) fun p hp=> ?_
   obtain⟨x,hx,hm⟩:=(zQj (q.2:Nat) q.1.kids c).p;rw[hx]at hp;rcases List.mem_append.1 hp with hp | hp
   ·exact h p hp
   ·have:=hm p hp;have:=hl q (by simp);omega
theorem zQN {c:Ct} (hp:c.procs=[]): ∀p∈c.decls.procs,0<=p.module/\p.module<c.bodies.length:=by
 refine zQx _ _ _ (fun q hq=> ?_) (by simp[hp]);have:=List.snd_lt_of_mem_zipIdx hq;omega
theorem zQv (c:Ct):c.decls.mods=c.mods:=by
 unfold Ct.decls;refine zGV (P:=fun s:Ct=>s.mods=c.mods) (fun s q hs=> ?_) _ _ rfl;refine zGV (P:=fun s:Ct=>s.mods=c.mods) (fun s a hs=> ?_) _ _ hs;exact(zJr _ s a).1.trans hs
structure Ct.ext (A B:Ct):Prop where
 m: ∃x,B.mods=A.mods++x/\x.length<=1
 v: ∃x,B.vars=A.vars++x
 l: ∃x,B.locks=A.locks++x
 n:A.procs.length<=B.procs.length
 p: ∀(i:Nat) p,A.procs[i]? =some p-> ∃c:List Int,B.procs[i]? =some { p with calls:=c }/\p.calls=c.filter (fun j:Int=>decide (j<(A.procs.length:Int)))
theorem zQw {t:Nd} (hk:t.kind=62):(collectM t).mods=(Ct.nil.modules t).mods/\(collectM t).vars=(Ct.nil.modules t).decls.vars/\(collectM t).locks=(Ct.nil.modules t).decls.locks/\
 (collectM t).procs=(Ct.nil.modules t).decls.procs.map fun p=>{ p with calls:=zGG ((Ct.nil.modules t).mods.map Mo.name) ((Ct.nil.modules t).decls.procs.map fun p=>(p.module,p.name)) p }:=by
 unfold collectM;rw[if_pos hk];obtain⟨dT,thT,hT⟩:=zHs (zGo t 61) ((Ct.nil.modules t).decls,[]);have SV:(Ct.nil.modules t).decls.threads t= { (Ct.nil.modules t).decls with diags:=dT,thrs:=thT }:=hT;rw[SV];simp only[Ct.cyclesM,Ct.callsM,Ct.mn,Ct.pk];exact⟨zQv _,trivial,trivial,by rw[zQv]⟩
theorem zQZ {α:Type} {l:List α} {a:α} (h:l.Nodup) (ha:a∉ l):(l++[a]).Nodup:=by
 rw[List.nodup_append];exact⟨h,by simp,fun x hx y hy=>by rw[List.mem_singleton]at hy;subst hy;rintro rfl;exact ha hx⟩
theorem zRa (ct:Ct) (n:Nd):(ct.module n).m.name=n.name:=by
 unfold Ct.module;refine zGV (P:=fun s:MoS=>s.m.name=n.name) (fun s a hs=> ?_) _ _ rfl;unfold zGw;split
 ·split
  ·exact hs
  ·split
   ·exact hs
   ·split<;>exact hs
 ·exact hs
theorem zRj (t:Nd) (hs:t.sane):((Ct.nil.modules t).mods.map Mo.name).Nodup/\ ∀m∈(Ct.nil.modules t).mods,m.name.size<=1048576:=by
 have key: ∀(l:List Nd) (st:Ct×List ByteArray),(∀a∈l,a.name.size<=1048576)->st.2=st.1.mods.map Mo.name/\st.2.Nodup/\(∀m∈st.1.mods,m.name.size<=1048576)->
  (l.foldl zGu st).2=(l.foldl zGu st).1.mods.map Mo.name/\(l.foldl zGu st).2.Nodup/\(∀m∈(l.foldl zGu st).1.mods,m.name.size<=1048576):=by
  intro l
  induction l with
  | nil=>intro st _ h;exact h
  | cons a l ih=>
    intro st hl ⟨h1,h2,h3⟩;refine ih _ (fun b hb=>hl b (by simp[hb])) ?_;have rp: ∀(c:Ct) (e p:Int),(c.report e p).mods=c.mods:=fun c e p=>by unfold Ct.report;split<;>rfl
    unfold zGu
    by_cases c1:zG5 st.2 a.name=true
    ·rw[if_pos c1];simp only[rp];exact⟨h1,h2,h3⟩
    rw[if_neg c1]
    by_cases c2:st.1.mods.length>=6
    ·rw[if_pos c2];simp only[rp];exact⟨h1,h2,h3⟩
    rw[if_neg c2];obtain⟨d,hd⟩:=zHI { st.1 with bodies:=st.1.bodies++[a] } a;have hn:=zRa { st.1 with bodies:=st.1.bodies++[a] } a;have ha:=hl a (by simp);simp only[hd];refine⟨by rw[List.map_append,List.map_cons,List.map_nil,hn,h1],zQZ h2 (fun h=>c1 (zIf.2 h)),fun m hm=> ?_⟩;rcases List.mem_append.1 hm with hm | hm
    ·exact h3 m hm
    ·rw[List.mem_singleton]at hm;rw[hm,hn];exact ha
 obtain⟨h1,h2,h3⟩:=key (zGo t 60) (Ct.nil,[]) (fun a ha=>(hs.kid (List.mem_filter.1 ha).1).self.name) ⟨rfl,by simp,by simp[Ct.nil]⟩;unfold Ct.modules;exact⟨h1▸h2,h3⟩
structure NmI (B:Nat) (ct:Ct):Prop where
 k:(ct.procs.map fun p=>(p.module,p.name)).Nodup
 n: ∀p∈ct.procs,(p.module,p.name)∈ct.names
 l: ∀p∈ct.procs,((p.params++p.locals).map Va.name).Nodup
 s: ∀p∈ct.procs,p.name.size<=1048576
 v: ∀v∈ct.vars,(0<=v.module/\v.module<B)/\v.name.size<=2^23
theorem NmI.mono {B:Nat} {a b:Ct} (h:NmI B a) (h1:b.procs=a.procs) (h2:b.vars=a.vars) (h3: ∀k∈a.names,k∈b.names):NmI B b:=
 ⟨by rw[h1];exact h.k,by rw[h1];exact fun p hp=>h3 _ (h.n p hp),by rw[h1];exact h.l,by rw[h1];exact h.s,by rw[h2];exact h.v⟩
theorem zQV (m:Int): ∀(l:List Nd) (st:AddS) (P:List ByteArray),st.known=P++st.vs.map Va.name->st.known.Nodup->(l.foldl (zGn m) st).known=P++(l.foldl (zGn m) st).vs.map Va.name/\(l.foldl (zGn m) st).known.Nodup
 | [],st,P,h,h2=>⟨h,h2⟩
 | a::l,st,P,h,h2=>by
   rw[List.foldl_cons];refine zQV m l (zGn m st a) P ?_ ?_
   ·unfold zGn;split
    ·exact h
    ·split
     ·simp only[List.map_append,List.map_cons,List.map_nil];rw[h,zQ];rfl
     ·exact h
   ·unfold zGn;split
    ·exact h2
    ·rename_i c1;split
     ·exact zQZ h2 (fun hm=>c1 (zIf.2 hm))
     ·exact h2
theorem zRh (ct:Ct) (m:Int) (n:Nd):(((zGp ct m n).vs++(zGr ct m n).vs).map Va.name).Nodup:=by
 obtain⟨h1,h2⟩:=zQV m (zGo n 58) ⟨ct,[],[]⟩ [] rfl (by simp);have HF:(zGp ct m n).known=(zGp ct m n).vs.map Va.name:=by simpa[zGp]using h1
 obtain⟨h3,h4⟩:=zQV m ((zGj n 34).flat.filter fun a=>decide (a.kind=35)) { zGp ct m n with vs:=[] } ((zGp ct m n).vs.map Va.name) (by simpa using HF) h2;rw[List.map_append];have BV:(zGr ct m n).known=(zGp ct m n).vs.map Va.name++(zGr ct m n).vs.map Va.name:=h3;rw[<- BV];exact h4
theorem zQ8 {ct:Ct} (Bm:ct.ok) (m:Int) {n:Nd} (hn:Nd.okN n):(ct.shared m n).1.procs=ct.procs/\ ∃x:List Va,(ct.shared m n).1.vars=ct.vars++x/\ ∀v∈x,v.module=m/\v.name.size<=2^23:=by
 have rv: ∀(c:Ct) (e p:Int),(c.report e p).vars=c.vars:=fun c e p=>by unfold Ct.report;split<;>rfl
 have rp: ∀(e p:Int),(ct.report e p).procs=ct.procs/\ ∃x:List Va,(ct.report e p).vars=ct.vars++x/\ ∀v∈x,v.module=m/\v.name.size<=2^23:=fun e p=>⟨zGF _ _ _,[],by rw[rv];simp,by simp⟩
 have fin: ∀vs:List Va,(∀v∈vs,v.module=m/\v.name.size<=2^23)->(ct.sharedFin n vs).1.procs=ct.procs/\ ∃x:List Va,(ct.sharedFin n vs).1.vars=ct.vars++x/\ ∀v∈x,v.module=m/\v.name.size<=2^23:=fun vs hv=>by
  unfold Ct.sharedFin;split
  ·exact⟨rfl,vs,rfl,hv⟩
  ·exact rp _ _
 have GE:=hn.name;unfold Ct.shared;split
 ·exact rp _ _
 split
 ·split
  ·refine fin _ fun v hv=> ?_
   rw[List.mem_singleton]at hv;subst hv;exact⟨rfl,by show n.name.size<=2^23;omega⟩
  ·exact rp _ _
 split
 ·exact rp _ _
 ·rename_i r hr;have PX:=List.mem_of_find?_eq_some hr;refine fin _ fun v hv=> ?_
  obtain⟨f,hf,rfl⟩:=List.mem_map.1 hv;have:=(Bm.rw r PX f hf).2;refine⟨rfl,?_⟩;show(zKd n.name f.name).size<=2^23;unfold zKd;rw[ByteArray.size_append,ByteArray.size_append,show(bs [46]).size=1 from rfl];omega
theorem zRd {B:Nat} {ct:Ct} (h:NmI B ct) (Bm:ct.ok) {m:Int} (hm:0<=m/\m<B) {a:Nd} (hs:a.sane):NmI B (zGl m ct a):=by
 have rv: ∀(c:Ct) (e p:Int),(c.report e p).vars=c.vars:=fun c e p=>by unfold Ct.report;split<;>rfl
 have rp: ∀(e p:Int),NmI B (ct.report e p):=fun e p=>h.mono (zGF _ _ _) (rv _ _ _) (by rw[(zGE _ _ _).1];exact fun _ h=>h)
 have an: ∀(c:Ct) (k:Key),NmI B c->NmI B (c.addName k):=fun c k hc=>hc.mono rfl rfl (fun x hx=>by simp[Ct.addName,hx])
 unfold zGl;split
 rotate_left
 ·exact h
 split
 ·exact rp _ _
 rename_i T1;split
 ·obtain⟨d,hd⟩:=zG0 (zGo a 52) (ct,[]);have hf:(ct.fields a).1= { ct with diags:=d }:=hd;refine an _ _ ?_;rw[hf];exact h.mono rfl rfl (fun _ h=>h)
 split
 ·obtain⟨h1,x,h2,h3⟩:=zQ8 Bm m hs.self;have C6:=(zJC ct m a).1
  have Lb:NmI B (ct.shared m a).1:=⟨by rw[h1];exact h.k,by rw[h1,C6];exact h.n,by rw[h1];exact h.l,by rw[h1];exact h.s,fun v hv=>by
   rw[h2]at hv;rcases List.mem_append.1 hv with hv | hv
   ·exact h.v v hv
   ·obtain⟨e1,e2⟩:=h3 v hv
    exact⟨by rw[e1];exact hm,e2⟩⟩
  split
  ·exact an _ _ Lb
  ·exact Lb
 split
 ·have hl:NmI B (ct.lock m a).1:=by
   unfold Ct.lock;split
   ·exact rp _ _
   ·exact h.mono rfl rfl (fun _ h=>h)
  split
  ·exact an _ _ hl
  ·exact hl
 ·obtain⟨d,hd⟩:=zJj ct m a;have VD:=zRh ct m a;rw[hd];have BD:(m,a.name)∉ ct.names:=fun hx=>T1 (zIf.2 hx)
  refine⟨?_,?_,?_,?_,h.v⟩
  ·show(List.map (fun p:Pr=>(p.module,p.name)) (ct.procs++[_])).Nodup;rw[List.map_append,List.map_cons,List.map_nil];refine zQZ h.k fun hx=> ?_
   obtain⟨p,hp,he⟩:=List.mem_map.1 hx;exact BD (by have:=h.n p hp;rw[he]at this;exact this)
  ·intro p hp;rcases List.mem_append.1 hp with hp | hp
   ·exact List.mem_append_left _ (h.n p hp)
   ·rw[List.mem_singleton]at hp;subst hp;exact List.mem_append_right _ (by simp)
  ·intro p hp;rcases List.mem_append.1 hp with hp | hp
   ·exact h.l p hp
   ·rw[List.mem_singleton]at hp;subst hp;exact VD
  ·intro p hp;rcases List.mem_append.1 hp with hp | hp
   ·exact h.s p hp
   ·rw[List.mem_singleton]at hp;subst hp;exact hs.self.name
theorem zQ1 {B:Nat} {m:Int} (hm:0<=m/\m<B): ∀(l:List Nd) {ct:Ct} {D:Nat},ct.okD D->NmI B ct->(∀a∈l,a.sane/\a.size<900)->(l.foldl (zGl m) ct).okD (D+l.length)/\NmI B (l.foldl (zGl m) ct)
 | [],ct,D,h,n,_=>⟨h,n⟩
 | a::l,ct,D,h,n,hl=>by
   obtain⟨h1,h2⟩:=hl a (by simp);have:=zQ1 hm l (zIA m ct D a h h1 h2) (zRd n h.ok hm h1) fun b hb=>hl b (by simp[hb])
   rw[List.foldl_cons,List.length_cons,show D+(l.length+1)=D+1+l.length by omega];exact this
theorem zQ7 {B:Nat}: ∀(l:List (Nd×Nat)) {ct:Ct} {D:Nat},(∀q∈l,q.2<B/\q.1.sane/\q.1.size<900)->ct.okD D->NmI B ct->NmI B (l.foldl (fun c q=>q.1.kids.foldl (zGl (q.2:Nat)) c) ct)
 | [],ct,D,_,_,n=>n
 | q::l,ct,D,hq,h,n=>by
   obtain⟨h1,h2,h3⟩:=hq q (by simp);obtain⟨k1,k2⟩:=zQ1 (m:=(q.2:Nat)) (B:=B) (by omega) q.1.kids h n fun a ha=>⟨h2.kid ha,by have:=Nd.size_kid ha;omega⟩
   exact zQ7 l (fun x hx=>hq x (by simp[hx])) k1 k2
structure Ct.nms (C:Ct):Prop where
 mn:(C.mods.map Mo.name).Nodup
 ms: ∀m∈C.mods,m.name.size<=1048576
 pk:(C.procs.map fun p=>(p.module,p.name)).Nodup
 pl: ∀p∈C.procs,((p.params++p.locals).map Va.name).Nodup
 ps: ∀p∈C.procs,p.name.size<=1048576
 pm: ∀p∈C.procs,0<=p.module/\p.module<C.mods.length
 vm: ∀v∈C.vars,(0<=v.module/\v.module<C.mods.length)/\v.name.size<=2^23
theorem zRe {t:Nd} (hz:t.size<900) (hs:t.sane):(collectM t).nms:=by
 by_cases hk:t.kind=62
 rotate_left
 ·have:collectM t= .nil:=by unfold collectM;rw[if_neg hk]
  rw[this];refine⟨?_,?_,?_,?_,?_,?_,?_⟩<;>simp[Ct.nil]
 obtain⟨a1,a2,a3,a4⟩:=zQw hk;obtain⟨m1,m2⟩:=zRj t hs;obtain⟨dM,bM,mM,hM,D5,L2,_⟩:=zI0 t;have D4:(Ct.nil.modules t).bodies.length=(Ct.nil.modules t).mods.length:=by rw[hM];exact L2.symm
 have Nt:(Ct.nil.modules t).procs=[]:=by rw[hM];rfl
 have IV:=zQN Nt
 have hB:NmI (Ct.nil.modules t).bodies.length (Ct.nil.modules t).decls:=by
  unfold Ct.decls;refine zQ7 (D:=0) _ (fun q hq=> ?_) ?_ ?_
  ·have h1:=List.snd_lt_of_mem_zipIdx hq;have h2:q.1∈bM:=by have:=List.fst_mem_of_mem_zipIdx hq;rw[hM]at this;exact this
   have h3:=D5.subset h2;exact⟨by omega,hs.kid h3,by have:=Nd.size_kid h3;omega⟩
  ·rw[hM];refine⟨⟨?_,?_⟩,?_,?_,?_,?_⟩<;>simp[Ct.nil]
  ·rw[hM];refine⟨?_,?_,?_,?_,?_⟩<;>simp[Ct.nil]
 have D8: ∀p∈(collectM t).procs,∃q∈(Ct.nil.modules t).decls.procs,∃c,p= { q with calls:=c }:=fun p hp=>by
  rw[a4]at hp;obtain⟨q,hq,rfl⟩:=List.mem_map.1 hp;exact⟨q,hq,_,rfl⟩
 refine⟨by rw[a1];exact m1,by rw[a1];exact m2,?_,?_,?_,?_,?_⟩
 ·rw[a4,List.map_map];exact hB.k
 ·intro p hp;obtain⟨q,hq,c,rfl⟩:=D8 p hp;exact hB.l q hq
 ·intro p hp;obtain⟨q,hq,c,rfl⟩:=D8 p hp;exact hB.s q hq
 ·intro p hp;obtain⟨q,hq,c,rfl⟩:=D8 p hp;rw[a1,<- D4];exact IV q hq
 ·rw[a2,a1,<- D4];exact hB.v
theorem zQW {α:Type} [DecidableEq α] {l:List α} {i:Nat} {a:α} (hn:l.Nodup) (ha:l[i]? =some a):zGN (fun x=>decide (x=a)) l=((i:Int),true):=by
 refine zKL ha (by simp) fun j hj b hb=> ?_
 rw[decide_eq_false_iff_not];rintro rfl;have:=(List.getElem?_inj (by have:=(zH.1 ha).1;omega) hn).1 (hb.trans ha.symm);omega
theorem zQ0 {l:List Va} {k:Nat} {v:Va} (hn:(l.map Va.name).Nodup) (hv:l[k]? =some v):zQ2 l v.name=((k:Int),true):=by
 refine zKL hv (by simp) fun j hj b hb=> ?_
 rw[decide_eq_false_iff_not];intro he;have h1:(l.map Va.name)[j]? =some b.name:=by rw[zJ,hb];rfl
 have h2:(l.map Va.name)[k]? =some v.name:=by rw[zJ,hv];rfl
 have:=(List.getElem?_inj (by have:=(zH.1 h1).1;omega) hn).1 (h1.trans (he▸h2.symm));omega
theorem zRc {l:List Va} {b:ByteArray} (h:b∉ l.map Va.name):(zQ2 l b).2=false:=by
 have:zQ2 l b=(0,false):=zI7 fun j v hv=>by
  rw[decide_eq_false_iff_not];rintro rfl;exact h (List.mem_map.2 ⟨v,zL hv,rfl⟩)
 rw[this]
theorem zQ5 {l:List Va} {v:Va} (hv:v∈l): ∃w:Nat,zQT l v.module v.name=((w:Int),true)/\w<l.length:=by
 unfold zQT zGN
 cases hf:l.findIdx? (fun x:Va=>decide (x.module=v.module/\x.name=v.name))with
 | none=>
   rw[List.findIdx?_eq_none_iff]at hf;have:=hf v hv
   simp at this
 | some i=>
   obtain⟨Ad,_⟩:=List.findIdx?_eq_some_iff_getElem.1 hf;exact⟨i,rfl,Ad⟩
theorem zRi {mn:List ByteArray} {pk:List Key} {i:Nat} {m:Int} {b:ByteArray} (hm:0<=m/\m<mn.length) (hn:pk.Nodup) (hi:pk[i]? =some (m,b)):zG1 mn pk m b=((i:Int),0):=by
 have h1:=zQW hn hi;unfold zG1;rw[if_neg (by omega),h1,if_pos ⟨hm.1,rfl⟩]
theorem zQ9 {mn:List ByteArray} {pk:List Key} {i k:Nat} {m:Int} {a b:ByteArray} (hm: -1<=m/\m<mn.length) (hn:pk.Nodup) (SB:mn.Nodup) (hk:mn[k]? =some a) (hi:pk[i]? =some ((k:Int),b)) (hs:zQU a=true):
 (zG1 mn pk m (zKd a b)).2=0/\ ∃q:Nat,(zG1 mn pk m (zKd a b)).1=q/\q<pk.length/\(q=i\/pk[q]? =some (m,zKd a b)):=by
 have h1:=zQW SB hk;have h2:=zQW hn hi;have h3:=zRm (n:=b) hs;have AV:=(zH.1 hi).1;unfold zG1;rw[if_neg (by omega)]
 by_cases hf:0<=m/\(zGN (fun k=>decide (k=(m,zKd a b))) pk).2=true
 ·rw[if_pos hf];obtain⟨q,hq,Ed,VC⟩:=zKK hf.2;obtain⟨x,hx,_⟩:=zai Ed;have:=VC x hx;simp only[decide_eq_true_eq]at this;subst this;exact⟨rfl,q,hq,Ed,.inr hx⟩
 ·rw[if_neg hf,h3];simp only;rw[h1];simp only;rw[h2];simp only[and_self,if_true];exact⟨trivial,i,rfl,AV,.inl rfl⟩
theorem zRb (s:Nd) (hs:s.sane):Den Γ G 642 [(.agg [.t (ti (s).kind),.t (.str (s).name),.t (.str (s).other),.t (ti (s).n),.t (ti (s).len),.t (ti (s).init),.t (tb (s).ghost),.t (.sl ((s).kids.map Nd.enc)),.t (ti (s).pos)])]=some (vb true):=by
 have hh:=zLg;have hf:=zNL s hs
 (refine zag Γ642 rfl ?_;dsimp only[zRy])
 by_cases hc:zGD 60 s 400<=400
 rotate_left
 ·have Bz:=eq_false hc;simp -dsimp -implicitDefEqProofs only[go_sem,seval,hh,hf,Bz]
  try rfl
 have Bz:=eq_true hc;have AS:=zMK hc;have h1:=zHi s (by omega) hs;have ok1:=zIC (by omega) hs;have nm:=zRe (by omega) hs
 generalize collectM s=C at *
 have HF:=h1;unfold zKE at HF;have lm:=ok1.m.1;have lv:=ok1.v;have lp:=ok1.p.1;simp -dsimp -implicitDefEqProofs only[go_sem,seval,hh,hf,Bz,HF];refine zaq 87112285931760246646623899361795173842820 C.vars.length (fun i f h _=>(f 47).v=vi i/\h 12=some (.rows 5 [[.t (.sl (C.mods.map Mo.enc)),.t (.sl (C.vars.map Va.enc)),.t (.sl (C.locks.map Lk.enc)),.t (.sl (C.procs.map Pr.enc)),.t (.sl (C.thrs.map Th.enc))]] false)) rfl ⟨by simp -dsimp -implicitDefEqProofs only[go_sem,seval],by simp -dsimp -implicitDefEqProofs only[go_sem,seval]⟩ ?_;rintro i f u h x bb hi ⟨g,hk⟩
 by_cases AV:i<C.vars.length
 ·have e1:=eq_true AV;obtain⟨v,hv,Kg⟩:=zai AV;obtain⟨vr,vsz⟩:=nm.vm v Kg;obtain⟨w,hw,Er⟩:=zQ5 Kg;obtain⟨k,K0⟩: ∃k:Nat,v.module=k:=⟨v.module.toNat,by omega⟩
  have Mw:k<C.mods.length:=by omega
  obtain⟨mo,Li,V8⟩:=zai Mw;have Bj:(C.vars.map Va.enc)[i]? =some [.str v.name,ti v.w,ti v.len,ti v.init,tb v.ghost,ti k,ti v.pos]:=by rw[zJ,hv,<- K0];rfl
  rw[K0]at hw;have Mt:(C.mods.map Mo.enc)[k]? =some mo.enc:=by rw[zJ,Li];rfl
  rw[show mo.enc=[.str mo.name,.str mo.owner,ti mo.rely.kind,.str mo.rely.name,.str mo.rely.other,ti mo.rely.n,ti mo.rely.len,ti mo.rely.init,tb mo.rely.ghost,.sl (mo.rely.kids.map Nd.enc),ti mo.rely.pos,ti mo.guar.kind,.str mo.guar.name,.str mo.guar.other,ti mo.guar.n,ti mo.guar.len,ti mo.guar.init,tb mo.guar.ghost,.sl (mo.guar.kids.map Nd.enc),ti mo.guar.pos,.sl (mo.frame.map Nd.enc),ti mo.pos]from by simp[Mo.enc,Nd.enc_eq]]at Mt;have msz:=nm.ms mo V8;have NC:=zRo (b:=v.name) (by omega) (by omega:0<=(k:Int)/\(k:Int)<C.mods.length) hw;unfold zKE at NC;have BF:=zan i (by omega);simp -dsimp -implicitDefEqProofs only[go_sem,seval,g,e1,Bj];refine zas (zQ6 hk (k:Int) v.name (by omega)) ?_;rintro r h' x' ⟨hr,rfl,Dc⟩;rw[hw]at hr;simp only[if_true]at hr;subst hr;have hb:(bs [46]).size=1:=rfl;have b1:((((mo.name.size+(bs [46]).size:Nat)):Int)<=1099511627776)=True:=eq_true (by rw[hb];omega);have b2:((((mo.name++bs [46]).size+v.name.size:Nat):Int)<=1099511627776)=True:=eq_true (by rw[ByteArray.size_append,hb];omega);have b3:(((mo.name.size+(bs [46]).size+v.name.size:Nat):Int)<=1099511627776)=True:=eq_true (by rw[hb];omega);have e2:((w:Int)=w)=True:=eq_true rfl;simp -dsimp -implicitDefEqProofs only[go_sem,seval,hk,Mt,b1,b2,b3,NC,e2,zO1];refine zaq 43556142965880084637685722083132740530180 C.mods.length (fun j f h _=>(f 12).v=vi j/\h 12=some (.rows 5 [[.t (.sl (C.mods.map Mo.enc)),.t (.sl (C.vars.map Va.enc)),.t (.sl (C.locks.map Lk.enc)),.t (.sl (C.procs.map Pr.enc)),.t (.sl (C.thrs.map Th.enc))]] false)) rfl ⟨by simp -dsimp -implicitDefEqProofs only[go_sem,seval],by simp -dsimp -implicitDefEqProofs only[go_sem,seval,hk]⟩ ?_;rintro j f2 u2 h2 x2 bb2 hj ⟨g2,AF⟩
  by_cases AN:j<C.mods.length
  rotate_left
  ·have e3:=eq_false AN;simp -dsimp -implicitDefEqProofs only[go_sem,seval,g2,AF,e3,g,BF];exact⟨AV,by simp -dsimp -implicitDefEqProofs only[go_sem,seval],by simp -dsimp -implicitDefEqProofs only[go_sem,seval,AF]⟩
  have e3:=eq_true AN;have F3:=zQ3 mo.name (by omega)
  by_cases Nf:zQU mo.name=true
  rotate_left
  ·rw[Bool.eq_false_iff.2 Nf]at F3;simp -dsimp -implicitDefEqProofs only[go_sem,seval,g2,AF,e3,Mt,F3,g,BF];exact⟨AV,by simp -dsimp -implicitDefEqProofs only[go_sem,seval],by simp -dsimp -implicitDefEqProofs only[go_sem,seval,AF]⟩
  rw[Nf]at F3;have C9:=zan j (by omega);simp -dsimp -implicitDefEqProofs only[go_sem,seval,g2,AF,e3,Mt,F3];refine zas (zQ6 AF (j:Int) (mo.name++bs [46]++v.name) (by omega)) ?_;rintro r h' x' ⟨hr,rfl,Dc⟩
  by_cases ho:(zQT C.vars (j:Int) (mo.name++bs [46]++v.name)).2=true
  ·rw[if_pos ho]at hr;subst hr;obtain⟨o,KZ,Mq,_⟩:=zKK ho;have KY:zQT C.vars (j:Int) (mo.name++bs [46]++v.name)=((o:Int),true):=by rw[<- KZ,<- ho];rfl
   have N9:=zRo (b:=mo.name++bs [46]++v.name) (by omega) (by omega:0<=(j:Int)/\(j:Int)<C.mods.length) KY;unfold zKE at N9;rw[KY];have e4:((o:Int)<0)=False:=eq_false (by omega);have e5:((o:Int)>=0)=True:=eq_true (by omega);have e6:((o:Int)=o)=True:=eq_true rfl;simp -dsimp -implicitDefEqProofs only[go_sem,seval,AF,N9,e4,e5,e6,ne_eq,not_true_eq_false,g2,C9];exact⟨AN,by simp -dsimp -implicitDefEqProofs only[go_sem,seval],by simp -dsimp -implicitDefEqProofs only[go_sem,seval,AF]⟩
  ·rw[if_neg ho]at hr;subst hr;have AR:=Bool.eq_false_iff.2 ho;have E1:zIB (mo.name++bs [46]++v.name)=(mo.name,v.name,true):=zRm Nf
   have VG:zGN (fun n=>decide (n=(zIB (mo.name++bs [46]++v.name)).1)) (C.mods.map Mo.name)=((k:Int),true):=by
    rw[E1];exact zQW nm.mn (by rw[zJ,Li];rfl)
   have N9:=zRu (b:=mo.name++bs [46]++v.name) (j:=(k:Int)) (w:=(w:Int)) (by omega) (by omega) (by rw[ByteArray.size_append,ByteArray.size_append,hb];omega) (by omega:0<=(j:Int)/\(j:Int)<C.mods.length) AR (by rw[E1]) VG (by rw[E1];exact hw);unfold zKE at N9;simp -dsimp -implicitDefEqProofs only[go_sem,seval,AF,N9,e2,ne_eq,not_true_eq_false,g2,C9];exact⟨AN,by simp -dsimp -implicitDefEqProofs only[go_sem,seval],by simp -dsimp -implicitDefEqProofs only[go_sem,seval,AF]⟩
 have e1:=eq_false AV;simp -dsimp -implicitDefEqProofs only[go_sem,seval,g,e1,hk];refine zaq 1989292945639146568621528992587283360401824602492492582307773934399646792029880794939396 C.procs.length (fun i f h _=>(f 139).v=vi i/\h 12=some (.rows 5 [[.t (.sl (C.mods.map Mo.enc)),.t (.sl (C.vars.map Va.enc)),.t (.sl (C.locks.map Lk.enc)),.t (.sl (C.procs.map Pr.enc)),.t (.sl (C.thrs.map Th.enc))]] false)) rfl ⟨by simp -dsimp -implicitDefEqProofs only[go_sem,seval],by simp -dsimp -implicitDefEqProofs only[go_sem,seval,hk]⟩ ?_;clear g e1 AV hi hk;rintro i f u h x bb hi ⟨g,hk⟩
 by_cases AV:i<C.procs.length
 rotate_left
 ·have e1:=eq_false AV;simp -dsimp -implicitDefEqProofs only[go_sem,seval,g,hk,e1]
  try rfl
 have e1:=eq_true AV;obtain⟨p,hp,IV⟩:=zai AV;have pr:=nm.pm p IV;have psz:=nm.ps p IV;have pok:=ok1.p.2 p IV;have pnd:=nm.pl p IV;rw[List.map_append,List.nodup_append]at pnd;obtain⟨pn1,pn2,pn3⟩:=pnd;have lpp:=pok.p;have lpl:=pok.l;obtain⟨k,K0⟩: ∃k:Nat,p.module=k:=⟨p.module.toNat,by omega⟩
 have Mw:k<C.mods.length:=by omega
 obtain⟨mo,Li,V8⟩:=zai Mw
 have Bj:(C.procs.map Pr.enc)[i]? =some [.str p.name,ti k,.sl (p.params.map Va.enc),.sl (p.locals.map Va.enc),.str p.locked,ti p.body.kind,.str p.body.name,.str p.body.other,ti p.body.n,ti p.body.len,ti p.body.init,tb p.body.ghost,.sl (p.body.kids.map Nd.enc),ti p.body.pos,.sl (p.calls.map fun n=>[ti n]),ti p.pos]:=by
  rw[zJ,hp,<- K0];simp[Pr.enc,Nd.enc_eq]
 have Mt:(C.mods.map Mo.enc)[k]? =some mo.enc:=by rw[zJ,Li];rfl
 rw[show mo.enc=[.str mo.name,.str mo.owner,ti mo.rely.kind,.str mo.rely.name,.str mo.rely.other,ti mo.rely.n,ti mo.rely.len,ti mo.rely.init,tb mo.rely.ghost,.sl (mo.rely.kids.map Nd.enc),ti mo.rely.pos,ti mo.guar.kind,.str mo.guar.name,.str mo.guar.other,ti mo.guar.n,ti mo.guar.len,ti mo.guar.init,tb mo.guar.ghost,.sl (mo.guar.kids.map Nd.enc),ti mo.guar.pos,.sl (mo.frame.map Nd.enc),ti mo.pos]from by simp[Mo.enc,Nd.enc_eq]]at Mt;have msz:=nm.ms mo V8;have BF:=zan i (by omega);have Hz:0<=(k:Int)/\(k:Int)<C.mods.length:=by omega
 simp -dsimp -implicitDefEqProofs only[go_sem,seval,g,hk,e1,Bj];refine zaq 2993155174847727588236161405117201443068457804103684 p.params.length (fun j f h _=>(f 147).v=vi j/\h 12=some (.rows 5 [[.t (.sl (C.mods.map Mo.enc)),.t (.sl (C.vars.map Va.enc)),.t (.sl (C.locks.map Lk.enc)),.t (.sl (C.procs.map Pr.enc)),.t (.sl (C.thrs.map Th.enc))]] false)) rfl ⟨by simp -dsimp -implicitDefEqProofs only[go_sem,seval],by simp -dsimp -implicitDefEqProofs only[go_sem,seval,hk]⟩ ?_;rintro j f2 u2 h2 x2 bb2 hj ⟨g2,AF⟩
 by_cases AN:j<p.params.length
 ·have e2:=eq_true AN;obtain⟨v,hv,Kg⟩:=zai AN;have Ke:(p.params.map Va.enc)[j]? =some [.str v.name,ti v.w,ti v.len,ti v.init,tb v.ghost,ti v.module,ti v.pos]:=by rw[zJ,hv];rfl
  have U7:=zRs (ct:=C) Hz hp K0 (by omega) (zQ0 pn1 hv);unfold zKE at U7;have e3:((j:Int)=j)=True:=eq_true rfl;have C9:=zan j (by omega);simp -dsimp -implicitDefEqProofs only[go_sem,seval,g2,AF,e2,Ke,U7,e3,zO1,ne_eq,not_true_eq_false,C9];exact⟨AN,by simp -dsimp -implicitDefEqProofs only[go_sem,seval],by simp -dsimp -implicitDefEqProofs only[go_sem,seval,AF]⟩
 have e2:=eq_false AN;simp -dsimp -implicitDefEqProofs only[go_sem,seval,g2,AF,e2];clear g2 e2 AN hj;refine zaq 401734487119504742855977111236118351406969754402899487621124 p.locals.length (fun j f h _=>(f 174).v=vi j/\h 12=some (.rows 5 [[.t (.sl (C.mods.map Mo.enc)),.t (.sl (C.vars.map Va.enc)),.t (.sl (C.locks.map Lk.enc)),.t (.sl (C.procs.map Pr.enc)),.t (.sl (C.thrs.map Th.enc))]] false)) rfl ⟨by simp -dsimp -implicitDefEqProofs only[go_sem,seval],by simp -dsimp -implicitDefEqProofs only[go_sem,seval,AF]⟩ ?_;rintro j3 f3 u3 h3 x3 bb3 Pi ⟨g3,B4⟩
 by_cases AN:j3<p.locals.length
 ·have e2:=eq_true AN;obtain⟨v,hv,Kg⟩:=zai AN;have Ke:(p.locals.map Va.enc)[j3]? =some [.str v.name,ti v.w,ti v.len,ti v.init,tb v.ghost,ti v.module,ti v.pos]:=by rw[zJ,hv];rfl
  have Be:v.name∉ p.params.map Va.name:=fun hx=>pn3 _ hx _ (List.mem_map.2 ⟨v,Kg,rfl⟩) rfl
  have U7:=zRt (ct:=C) Hz hp K0 (by omega) (by omega) (zRc Be) (zQ0 pn2 hv);unfold zKE at U7;have e3:((j3:Int)=j3)=True:=eq_true rfl;have C9:=zan j3 (by omega);simp -dsimp -implicitDefEqProofs only[go_sem,seval,g3,B4,e2,Ke,U7,e3,zO1,ne_eq,not_true_eq_false,C9];exact⟨AN,by simp -dsimp -implicitDefEqProofs only[go_sem,seval],by simp -dsimp -implicitDefEqProofs only[go_sem,seval,B4]⟩
 have e2:=eq_false AN;simp -dsimp -implicitDefEqProofs only[go_sem,seval,g3,B4,e2];have Ev:(C.procs.map fun p=>(p.module,p.name))[i]? =some ((k:Int),p.name):=by rw[zJ,hp,<- K0];rfl
 have To:zG1 (C.mods.map Mo.name) (C.procs.map fun p=>(p.module,p.name)) (k:Int) p.name=((i:Int),0):=zRi (by rw[List.length_map];exact Hz) nm.pk Ev;refine zas (zIX (zQY (zRl _)) (zQY (zRn _)) (zRq _) (zRr _) (by simp;omega) (by simp;omega) (k:Int) p.name (by omega)) ?_;rintro r h' x' ⟨rfl,rfl,Dc⟩;rw[To];have hb:(bs [46]).size=1:=rfl;have b1:((((mo.name.size+(bs [46]).size:Nat)):Int)<=1099511627776)=True:=eq_true (by rw[hb];omega);have b2:((((mo.name++bs [46]).size+p.name.size:Nat):Int)<=1099511627776)=True:=eq_true (by rw[ByteArray.size_append,hb];omega);have b3:(((mo.name.size+(bs [46]).size+p.name.size:Nat):Int)<=1099511627776)=True:=eq_true (by rw[hb];omega);have e4:((i:Int)=i)=True:=eq_true rfl;have Dj:(mo.name++bs [46]++p.name).size<4294967281:=by rw[ByteArray.size_append,ByteArray.size_append,hb];omega
 simp -dsimp -implicitDefEqProofs only[go_sem,seval,B4,Mt,b1,b2,b3,e4,ne_eq,not_true_eq_false];refine zaq 994646472819573284256844602959340400611578271420656173533653664941237849062867583631364 (C.mods.length+1) (fun j f h _=>(f 29).v=vi ((j:Int)-1)/\h 12=some (.rows 5 [[.t (.sl (C.mods.map Mo.enc)),.t (.sl (C.vars.map Va.enc)),.t (.sl (C.locks.map Lk.enc)),.t (.sl (C.procs.map Pr.enc)),.t (.sl (C.thrs.map Th.enc))]] false)) rfl ⟨by simp -dsimp -implicitDefEqProofs only[go_sem,seval],by simp -dsimp -implicitDefEqProofs only[go_sem,seval,B4]⟩ ?_;rintro j f4 u4 h4 x4 bb4 hj ⟨g4,GN⟩
 by_cases VA:(j:Int)-1<C.mods.length
 rotate_left
 ·have e5:=eq_false VA;simp -dsimp -implicitDefEqProofs only[go_sem,seval,g4,GN,e5,g,BF];exact⟨AV,by simp -dsimp -implicitDefEqProofs only[go_sem,seval],by simp -dsimp -implicitDefEqProofs only[go_sem,seval,GN]⟩
 have e5:=eq_true VA;have F3:=zQ3 mo.name (by omega)
 by_cases Nf:zQU mo.name=true
 rotate_left
 ·rw[Bool.eq_false_iff.2 Nf]at F3;simp -dsimp -implicitDefEqProofs only[go_sem,seval,g4,GN,e5,Mt,F3,g,BF];exact⟨AV,by simp -dsimp -implicitDefEqProofs only[go_sem,seval],by simp -dsimp -implicitDefEqProofs only[go_sem,seval,GN]⟩
 rw[Nf]at F3;simp -dsimp -implicitDefEqProofs only[go_sem,seval,g4,GN,e5,Mt,F3];refine zas (zIX (zQY (zRl _)) (zQY (zRn _)) (zRq _) (zRr _) (by simp;omega) (by simp;omega) ((j:Int)-1) (mo.name++bs [46]++p.name) Dj) ?_;rintro r h5 x5 ⟨rfl,rfl,Ux⟩;obtain⟨z0,q,hq,Ed,VB⟩:=zQ9 (m:=(j:Int)-1) (by rw[List.length_map];omega) nm.pk nm.mn (show(C.mods.map Mo.name)[k]? =some mo.name by rw[zJ,Li];rfl) Ev Nf;unfold zKd at z0 hq VB;rw[z0,hq];rw[List.length_map]at Ed;obtain⟨q2,HN,PZ⟩:=zai Ed
 have SX:(C.procs.map Pr.enc)[q]? =some [.str q2.name,ti q2.module,.sl (q2.params.map Va.enc),.sl (q2.locals.map Va.enc),.str q2.locked,ti q2.body.kind,.str q2.body.name,.str q2.body.other,ti q2.body.n,ti q2.body.len,ti q2.body.init,tb q2.body.ghost,.sl (q2.body.kids.map Nd.enc),ti q2.body.pos,.sl (q2.calls.map fun n=>[ti n]),ti q2.pos]:=by
  rw[zJ,HN];simp[Pr.enc,Nd.enc_eq]
 have V9:q=i\/q2.module=(j:Int)-1/\q2.name=mo.name++bs [46]++p.name:=by
  rcases VB with h | h
  ·exact .inl h
  ·rw[zJ,HN]at h;simp only[Option.map_some,zA,Prod.mk.injEq]at h;exact .inr h
 have e6:((q:Int)>=0)=True:=eq_true (by omega);have e7:((q:Int)<C.procs.length)=True:=eq_true (by omega);have C9:IntKind.i64.wrap ((j:Int)-1+1)=(((j+1:Nat):Int)-1):=by rw[zaH (by omega)];omega
 by_cases d1:q2.module=(j:Int)-1
 ·by_cases d2:q2.name=mo.name++bs [46]++p.name
  ·have d1':=eq_true d1;have d2':=eq_true d2
   by_cases d3:(q:Int)=i
   ·have d3':=eq_true d3;simp -dsimp -implicitDefEqProofs only[go_sem,seval,g4,GN,SX,e6,e7,d1',d2',d3',ne_eq,not_true_eq_false,C9];exact⟨by omega,by simp -dsimp -implicitDefEqProofs only[go_sem,seval],by simp -dsimp -implicitDefEqProofs only[go_sem,seval,GN]⟩
   ·have d3':=eq_false d3;simp -dsimp -implicitDefEqProofs only[go_sem,seval,g4,GN,SX,e6,e7,d1',d2',d3',ne_eq,not_true_eq_false,not_false_eq_true,C9];exact⟨by omega,by simp -dsimp -implicitDefEqProofs only[go_sem,seval],by simp -dsimp -implicitDefEqProofs only[go_sem,seval,GN]⟩
  ·have d1':=eq_true d1;have d2':=eq_false d2;have d3':((q:Int)=i)=True:=eq_true (by rcases V9 with h | h;omega;exact absurd h.2 d2);simp -dsimp -implicitDefEqProofs only[go_sem,seval,g4,GN,SX,e6,e7,d1',d2',d3',ne_eq,not_true_eq_false,C9];exact⟨by omega,by simp -dsimp -implicitDefEqProofs only[go_sem,seval],by simp -dsimp -implicitDefEqProofs only[go_sem,seval,GN]⟩
 ·have d1':=eq_false d1;have d3':((q:Int)=i)=True:=eq_true (by rcases V9 with h | h;omega;exact absurd h.1 d1);simp -dsimp -implicitDefEqProofs only[go_sem,seval,g4,GN,SX,e6,e7,d1',d3',ne_eq,not_true_eq_false,C9];exact⟨by omega,by simp -dsimp -implicitDefEqProofs only[go_sem,seval],by simp -dsimp -implicitDefEqProofs only[go_sem,seval,GN]⟩
end Rg
end
