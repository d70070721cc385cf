/- Part of the proof of laws of relyguardlaw31. No condition. -/
import Derived.Test.YtcmeofagpechdaaGreatDoorRartBB
import Derived.Test.YtcmeofagpechdaaGreatDoorRartAZ
import Derived.Test.YtcmeofagpechdaaGreatDoorRartBA
set_option linter.unusedSimpArgs false
set_option linter.unusedVariables false
section
namespace Rg
open Go
theorem lock_elen (l:Lock):l.enc.length=6:=by simp[Lock.enc,expr_elen]
theorem lock_norm (s:Lock): ∀t∈s.enc,T.norm t=t:=by
 intro t ht;simp only[Lock.enc,Expr.enc_eq,List.mem_append,List.mem_cons,List.not_mem_nil,or_false]at ht;rcases ht with(rfl | (rfl | rfl | rfl | rfl)) | rfl<;>rfl
theorem thread_norm (s:Thread): ∀t∈s.enc,T.norm t=t:=by
 intro t ht;simp only[Thread.enc,List.mem_cons,List.not_mem_nil,or_false]at ht;rcases ht with rfl | rfl | rfl | rfl | rfl | rfl | rfl<;>rfl
theorem pl_norm (x:Pl): ∀t∈x.enc,T.norm t=t:=by
 intro t ht;simp only[Pl.enc,List.mem_cons,List.not_mem_nil,or_false]at ht;rcases ht with rfl | rfl<;>rfl
theorem znz {h:Nat->Option O} {key:Nat} {l:List Int} {K:V->List (Nat×O)->Prop} {w:WK K} (hl:l.length<2^40)
 (hK: ∀v hp,((v= .t (.sl [])/\l=[])\/ ∃k,v= .ms k 0 l.length/\k=key/\hpC h hp k=some (.rows 1 (rowsI l) false))->(∀j,j≠key->hpC h hp j=h j)->(Rg.valOf v=some v/\V.cells v=some [v])->K v hp):zq6 (Γ:=Γ) (G:=G) false h key 198 [.t (ints l)] K w:=by
 refine⟨rfl,rfl,[.t (ints l)],rfl,?_⟩
 cases l with
 | nil=>
   refine⟨.t (.sl []),fun _=>none,0,zbr Γ198 rfl rfl rfl,{ val:=.t (.sl []) },rfl,hK _ _ (.inl ⟨rfl,rfl⟩) (fun j _=>by rw[zaq]) ⟨rfl,rfl⟩⟩
 | cons a l=>
   have hd:extSem .cloneI [.t (ints (a::l))] (fun _=>none) 0=some (.ms 0 0 (a::l).length,upd (fun _=>none) 0 (some (.rows 1 (ofInts (a::l)) false)),1):=by
    show((intsOf (rowsI (a::l))).bind fun zs=>if zs.length<1099511627776 then some (V.ms 0 0 zs.length,upd (fun _=>none) 0 (some (O.rows 1 (ofInts zs) false)),0+1)else none)=_;rw[zbe,zD,if_pos hl]
   rw[zbw]at hd;have hall:(rowsI (a::l)).all (fun row=>row.all V.isTr)=true:=by simp[rowsI,V.isTr]
   refine⟨_,_,_,zbr Γ198 rfl rfl hd,{ val:=.ms key 0 (rowsI (a::l)).length,hp:=[(key,.rows 1 (rowsI (a::l)) false)] },?_,hK _ _ (.inr ⟨key,by rw[rowsI_len],rfl,by simp[zau,zaq,zac]⟩) (fun j hj=>by simp[zau,zaq,zac,hj]) ⟨rfl,rfl⟩⟩;simp only[ownR,upd_same];rw[if_pos ⟨trivial,by rw[rowsI_len],hall⟩,rowsI_len]
structure PtsV (h:Nat->Option O) (kP x n:Nat) (L:Nat->List Int) (vs:Nat->V):Prop where
 at_:h kP=some (.rows 1 ((List.range n).map fun t=>[vs t]) false)
 lt:kP<x
 own: ∀t,t<n->zxp h x (vs t) 1 (rowsI (L t))
 off: ∀t,t<n->zc1 (vs t) kP
 dis: ∀t u,t<n->u<n->t≠u-> ∀k,¬zc1 (vs t) k->zc1 (vs u) k
theorem PtsV.row {h:Nat->Option O} {kP x n:Nat} {L:Nat->List Int} {vs:Nat->V} (p:PtsV h kP x n L vs) {t:Nat} (ht:t<n):((List.range n).map fun t=>[vs t])[t]? =some [vs t]:=by
 rw[zJ,List.getElem?_range ht];rfl
theorem PtsV.le {h:Nat->Option O} {kP x y n:Nat} {L:Nat->List Int} {vs:Nat->V} (p:PtsV h kP x n L vs) (hy:x<=y):PtsV h kP y n L vs:=
 ⟨p.at_,by have:=p.lt;omega,fun t ht=>(p.own t ht).le hy,p.off,p.dis⟩
theorem zew {α:Type} (f:Nat->α) (n t:Nat) (z:α):((List.range n).map f).set t z=(List.range n).map fun u=>if u=t then z else f u:=by
 refine List.ext_getElem? fun i=> ?_
 rw[List.getElem?_set,zJ,zJ,List.length_map,List.length_range]
 by_cases hi:i<n
 ·rw[List.getElem?_range hi]
  by_cases h:t=i
  ·subst h;simp[hi]
  ·rw[if_neg h];have : ¬i=t:=fun e=>h e.symm
   simp[this]
 ·rw[List.getElem?_eq_none (l:=List.range n) (by simp;omega)]
  by_cases h:t=i
  ·subst h;simp[hi]
  ·simp[h]
theorem PtsV.app {h H1:Nat->Option O} {kP x y n t:Nat} {L:Nat->List Int} {vs:Nat->V} (p:PtsV h kP x n L vs) (ht:t<n) {v:V} {l:List Int} (hxy:x<=y) (hO:zxp H1 y v 1 (rowsI l)) (hoffs: ∀j,j<x->zc1 v j) (hkeep: ∀j,j<x->zc1 (vs t) j->H1 j=h j):
 PtsV (updC H1 kP (some (.rows 1 (((List.range n).map fun t=>[vs t]).set t [v]) false))) kP y n (fun u=>if u=t then l else L u) (fun u=>if u=t then v else vs u):=by
 have hlt:=p.lt;have hvk:zc1 v kP:=hoffs kP hlt;refine⟨?_,by omega,fun u hu=> ?_,fun u hu=> ?_,fun u w hu hw hne k hk=> ?_⟩
 ·rw[zac,if_pos rfl,zew]
  congr 3
  funext u
  split<;>rfl
 ·by_cases h1:u=t
  ·simp only[if_pos h1];exact hO.updO hvk _
  ·simp only[if_neg h1];exact((p.own u hu).keep (h':=H1) hxy fun k hk hn=>hkeep k hk (p.dis u t hu ht h1 k hn)).updO (p.off u hu) _
 ·by_cases h1:u=t
  ·simp only[if_pos h1];exact hvk
  ·simp only[if_neg h1];exact p.off u hu
 ·by_cases h1:u=t
  ·have h2: ¬w=t:=fun e=>hne (h1.trans e.symm)
   simp only[if_pos h1]at hk;simp only[if_neg h2];exact(p.own w hw).off (Nat.le_of_not_lt fun h3=>hk (hoffs k h3))
  ·simp only[if_neg h1]at hk
   by_cases h2:w=t
   ·simp only[if_pos h2];exact hoffs k (Nat.lt_of_not_le fun h3=>hk ((p.own u hu).off h3))
   ·simp only[if_neg h2];exact p.dis u w hu hw hne k hk
theorem zof {H:Nat->Option O} {x:Nat} {v:V} {l:List Int} (ho:zxp H x v 1 (rowsI l)) (hl:l.length<2^40):
 ∃h',(∀n,DenR Γ G 74 [v] H n=some (.tup [],h',n))/\zxp h' x v 1 (rowsI (l.mergeSort fun x y=>decide (x<=y)))/\ ∀j,zc1 v j->h' j=H j:=by
 rcases ho with⟨rfl,hr⟩ | ⟨k,rfl,hk,hh⟩
 ·have hl0:l=[]:=by
   have:=congrArg List.length hr;rw[rowsI_len]at this;exact List.eq_nil_of_length_eq_zero this
  subst hl0;exact⟨H,fun n=>zbr Γ74 rfl rfl rfl,.inl ⟨rfl,by rw[List.mergeSort_nil];rfl⟩,fun _ _=>rfl⟩
 ·rw[rowsI_len];have s1:(l.mergeSort fun x y=>decide (x<=y)).length=l.length:=List.length_mergeSort _;refine⟨upd H k (some (.rows 1 (rowsI (l.mergeSort fun x y=>decide (x<=y))) false)),fun n=>zbr Γ74 rfl rfl ?_,.inr ⟨k,by rw[rowsI_len,s1],hk,upd_same _ _ _⟩,fun j hj=> ?_⟩
  ·simp only[extSem,hh,zbe,zD,zbw];rw[if_pos (by exact⟨trivial,by omega⟩)]
  ·exact zaa _ _ (by rintro rfl;exact hj _ _ rfl)
theorem zjM {H:Nat->Option O} {x:Nat} {v:V} {l:List Int} (ho:zxp H x v 1 (rowsI l)) (hl:l.length<2^40):
 ∃h',(∀n,DenR Γ G 75 [v] H n=some (.t (ints (Go.Lib.compact l)),h',n))/\(∀j,zc1 v j->h' j=H j):=by
 rcases ho with⟨rfl,hr⟩ | ⟨k,rfl,hk,hh⟩
 ·have hl0:l=[]:=by
   have:=congrArg List.length hr;rw[rowsI_len]at this;exact List.eq_nil_of_length_eq_zero this
  subst hl0;exact⟨H,fun n=>zbr Γ75 rfl rfl rfl,fun _ _=>rfl⟩
 ·rw[rowsI_len];refine⟨upd H k (some (.rows 1 (rowsI (Go.Lib.compact l++List.replicate (l.length-(Go.Lib.compact l).length) 0)) true)),fun n=>zbr Γ75 rfl rfl ?_,fun j hj=> ?_⟩
  ·simp only[extSem,hh,zbe,zD,zbw];rw[if_pos ⟨trivial,by omega⟩]
  ·exact zaa _ _ (by rintro rfl;exact hj _ _ rfl)
structure PtsD (h:Nat->Option O) (kP x n t:Nat) (L F:Nat->List Int) (vs:Nat->V):Prop where
 at_:h kP=some (.rows 1 ((List.range n).map fun t=>[vs t]) false)
 lt:kP<x
 own: ∀u,t<=u->u<n->zxp h x (vs u) 1 (rowsI (L u))
 don: ∀u,u<t->u<n->vs u= .t (ints (F u))
 off: ∀t,t<n->zc1 (vs t) kP
 dis: ∀t u,t<n->u<n->t≠u-> ∀k,¬zc1 (vs t) k->zc1 (vs u) k
theorem PtsV.dn {h:Nat->Option O} {kP x n:Nat} {L:Nat->List Int} {vs:Nat->V} (p:PtsV h kP x n L vs) (F:Nat->List Int):PtsD h kP x n 0 L F vs:=
 ⟨p.at_,p.lt,fun u _ hu=>p.own u hu,fun u hu=>by omega,p.off,p.dis⟩
theorem PtsD.le {h:Nat->Option O} {kP x y n t:Nat} {L F:Nat->List Int} {vs:Nat->V} (p:PtsD h kP x n t L F vs) (hy:x<=y):PtsD h kP y n t L F vs:=
 ⟨p.at_,by have:=p.lt;omega,fun t h1 h2=>(p.own t h1 h2).le hy,p.don,p.off,p.dis⟩
theorem PtsD.put {h h2:Nat->Option O} {kP x n t:Nat} {L F:Nat->List Int} {vs:Nat->V} (p:PtsD h kP x n t L F vs) (ht:t<n) (hkeep: ∀j,zc1 (vs t) j->h2 j=h j):
 PtsD (updC h2 kP (some (.rows 1 (((List.range n).map fun t=>[vs t]).set t [.t (ints (F t))]) false))) kP x n (t+1) L F (fun u=>if u=t then .t (ints (F t))else vs u):=by
 have ho: ∀k,zc1 (.t (ints (F t))) k:=fun k i n he=>by cases he
 refine⟨?_,p.lt,fun u h1 hu=> ?_,fun u h1 hu=> ?_,fun u hu=> ?_,fun u w hu hw hne k hk=> ?_⟩
 ·rw[zac,if_pos rfl,zew]
  congr 3
  funext u
  split<;>rfl
 ·have h3: ¬u=t:=by omega
  simp only[if_neg h3];exact((p.own u (by omega) hu).keep (h':=h2) (Nat.le_refl _) fun k hk hn=>hkeep k (p.dis u t hu ht h3 k hn)).updO (p.off u hu) _
 ·by_cases h3:u=t
  ·subst h3;simp
  ·simp only[if_neg h3];exact p.don u (by omega) hu
 ·by_cases h1:u=t
  ·simp only[if_pos h1];exact ho _
  ·simp only[if_neg h1];exact p.off u hu
 ·by_cases h1:u=t
  ·simp only[if_pos h1]at hk;exact absurd (ho k) hk
  ·simp only[if_neg h1]at hk
   by_cases h2:w=t
   ·simp only[if_pos h2];exact ho _
   ·simp only[if_neg h2];exact p.dis u w hu hw hne k hk
def ptL (p:Prog) (l:List Pl) (t:Nat):List Int:=(l.filter fun x=>decide (x.1=t)).map fun x=>(p.stepAt x.1 x.2).fr
theorem zkI (p:Prog) (l:List Pl) (t:Nat):(ptL p l t).length<=l.length:=by
 unfold ptL;rw[List.length_map];exact List.length_filter_le _ _
theorem zmN (p:Prog) {l:List Pl} {i:Nat} {x:Pl} (h:l[i]? =some x):ptL p (l.take (i+1))=fun u=>if u=x.1 then ptL p (l.take i) x.1++[(p.stepAt x.1 x.2).fr]else ptL p (l.take i) u:=by
 funext u
 unfold ptL;rw[zae h,List.filter_append,List.map_append]
 by_cases hu:u=x.1
 ·subst hu;simp
 ·have : ¬x.1=u:=fun e=>hu e.symm
  rw[if_neg hu];simp[this]
theorem zjk {p:Prog} {x:Pl} {s:Step} (h:p.stepAt x.1 x.2=s) {l:List Int}:rowsI l++[[V.t (ti s.fr)]]=rowsI (l++[(p.stepAt x.1 x.2).fr]):=by rw[h,za6]
theorem zfu {p:Prog} (hp:p.ok) {l:List Pl} (hpl: ∀x∈l,znZ p x) {t:Nat} {y:Thread} (hy:p.threads[t]? =some y):sortedM (ptL p l t)=fencedI (ptB p l t) y.points.toNat:=by
 refine sorted_ext (sortedM_sorted _) (fencedI_pair _ _) fun z=> ?_
 rw[zhC,zeV];unfold ptL;simp only[List.mem_map,List.mem_filter,decide_eq_true_eq];constructor
 ·rintro⟨x,⟨hx,rfl⟩,rfl⟩;obtain⟨y',hy',hlt⟩:=hpl x hx;rw[hy]at hy';cases hy';have hs:y.steps[x.2]? =some y.steps[x.2]:=zI hlt;have h1:=(ok_stp hp hy hs).1;rw[zdo hy hs];refine⟨(y.steps[x.2]).fr.toNat,by omega,by omega,zf7.2 ⟨x,hx,rfl,?_⟩⟩;rw[zdo hy hs];omega
 ·rintro⟨k,rfl,_,hk⟩;obtain⟨x,hx,h1,h2⟩:=zf7.1 hk;exact⟨x,⟨hx,h1⟩,h2⟩
def conL (l:List Contract):List (List T):=l.map Contract.enc
theorem zlU {l:List Contract} {i:Nat} {x:Contract} (h:l[i]? =some x):conL (l.take (i+1))=conL (l.take i)++[x.enc]:=by
 unfold conL;rw[zae h,List.map_append];rfl
theorem znq (l:List Contract):(conL l).length=l.length:=by simp[conL]
structure Prog.smE (p:Prog):Prop where
 mods: ∀m∈p.modules,m.rely.size<2^31/\m.guar.size<2^31/\m.frame.length<2^31
 lcks: ∀l∈p.locks,l.inv.size<2^31
 thr: ∀x∈p.threads,(∀e∈x.asserts,e.size<2^31)/\(∀s∈x.steps,s.guard.size<2^31/\s.set.length<2^31/\ ∀a∈s.set,a.to.size<2^31)/\ ∀l∈x.loops,l.variant.size<2^31
theorem spl_ok {p:Prog} (hp:p.ok) (hs:p.smE) {l:List Pl} (hpl: ∀x∈l,znZ p x) {t:Nat} {y:Thread} (hy:p.threads[t]? =some y):SplOk y (ptB p l t):=by
 obtain⟨h1,h2,h3,h4,h5⟩:=ziN hp hy;obtain⟨k1,k2,k3⟩:=hs.thr y (List.mem_of_getElem? hy);refine⟨h1,h2,h3,h4,h5,k1,fun s hm=> ?_,fun l hm=> ?_,fun n hn hb=> ?_⟩
 ·obtain⟨i,hi⟩:=List.getElem?_of_mem hm;obtain⟨a1,a2,_⟩:=ok_stp hp hy hi;exact⟨⟨⟨a1.1,by omega⟩,a2⟩,k2 s hm⟩
 ·obtain⟨i,hi⟩:=List.getElem?_of_mem hm;have a1:=(ok_loop hp hy hi).1;have a2:=znG hp hy hi;exact⟨a1,by omega,k3 l hm⟩
 ·obtain⟨x,hx,e1,e2⟩:=zf7.1 hb;obtain⟨y',hy',hlt⟩:=hpl x hx;rw[e1,hy]at hy';cases hy';have hsx:y.steps[x.2]? =some y.steps[x.2]:=zI hlt;rw[zdo (by rw[e1];exact hy) hsx]at e2;exact⟨_,_,hsx,e2⟩
theorem thread_elen (s:Thread):s.enc.length=7:=rfl
theorem zhT {α β:Type} (f:Nat->α->β) {l:List α} {i:Nat} {x:α} (h:l[i]? =some x):(l.take (i+1)).mapIdx f=(l.take i).mapIdx f++[f i x]:=by
 have hi:=(zH.1 h).1;have hl:(l.take i).length=i:=by simp;omega
 rw[zae h,List.mapIdx_append];simp[hl]
set_option maxHeartbeats 2000000
theorem zfH (p:Prog) (hp:p.ok) (hs:p.smE) (l:List Pl) (hl:l.length<2^20) (hpl: ∀x∈l,znZ p x):Den Γ G 418 [(.agg [.t (.sl ((p).cells.map (Cell.enc))),.t (.sl ((p).modules.map (Contract.enc))),.t (.sl ((p).locks.map (Lock.enc))),.t (.sl ((p).threads.map (Thread.enc)))]),.t (.sl (l.map Pl.enc))]=some (.tup [(.agg [.t (.sl (((insM p l).1).cells.map (Cell.enc))),.t (.sl (((insM p l).1).modules.map (Contract.enc))),.t (.sl (((insM p l).1).locks.map (Lock.enc))),.t (.sl (((insM p l).1).threads.map (Thread.enc)))]),vi (insM p l).2]):=by
 obtain⟨⟨b1,b2,b3,b4⟩,b5⟩:=limits_iff.1 (ok_iff.1 hp).lim
 (refine den_ofY Γ418 rfl ?_;dsimp only[zrj])
 obtain⟨n,hn⟩: ∃n,p.threads.length=n:=⟨_,rfl⟩
 have hn1:((n:Int)<=(n:Int))=True:=eq_true (Int.le_refl _);have hn2:((n:Int)<=4294967296)=True:=eq_true (by omega)
 have hrep:List.replicate n [zn]=(List.range n).map fun t=>[(fun _:Nat=>zn) t]:=by
  refine List.ext_getElem (by simp) fun i h1 h2=>by simp
 simp -dsimp only[go_sem,seval,hn,hn1,hn2,hrep]
 refine zaj 4503599610593536 l.length (fun i f h z=>(f 24).v=vi i/\ ∃vs,PtsV h 6 z n (ptL p (l.take i)) vs) rfl
  ⟨by simp -dsimp only[go_sem,seval],fun _=>zn,by simp -dsimp only[go_sem,seval],by simp -dsimp only[go_sem,seval],fun t _=> .inl ⟨rfl,by simp[ptL,rowsI]⟩,(fun t _ i n he=>by cases he),fun t u _ _ _ k hk=>absurd (fun i n he=>by cases he) hk⟩ ?_
 rintro i f u H q bq hi ⟨h24,vs,hP⟩;have hw:=zah i (by omega);simp -dsimp only[go_sem,seval,h24]
 by_cases hlt:i<l.length
 ·have hlt1:=eq_true hlt;obtain⟨x,hx,hxm⟩:=zaf hlt;obtain⟨y,hy,hys⟩:=hpl x hxm;have hs:y.steps[x.2]? =some y.steps[x.2]:=zI hys
  generalize y.steps[x.2]=s at hs
  have hxn:x.1<n:=by have:=(zH.1 hy).1;omega
  have hsa:=zdo hy hs;have hxn1:=eq_true hxn;replace hP:=hP.le (y:=q+1+4) (by omega);have hrow:=hP.row hxn;have hat:=hP.at_;have h6:=hP.lt;have hO:=hP.own x.1 hxn;have v1:=hO.valOf;have v2:=hO.r1;simp -dsimp only[go_sem,seval,h24,hlt1,hx,hrow,hat,hxn1,hy,hs,v1,v2];refine zas ((hO.le (y:=q+1+4+20) (by omega)).upd (Nat.le_refl _) _) (by omega) (by rw[rowsI_len];have:=zkI p (l.take i) x.1;rw[List.length_take]at this;omega) (by decide) rfl (rowsI_all _) ?_;intro v hp hO2 hoffs hkeep;rw[za9]
  generalize hpC (updC H (q+1+4+20) _) hp=H1 at hO2 hkeep⊢
  have hat1:H1 6=some (.rows 1 ((List.range n).map fun t=>[vs t]) false):=by
   rw[hkeep 6 (by omega) (hP.off x.1 hxn),zac,if_neg (by omega)];exact hat
  have w1:=hO2.valOf;have w2:=zaW hO2;simp only[V.cells]at w2;simp -dsimp only[go_sem,seval,h24,hat1,hrow,hxn1,w1,w2];refine⟨hlt,by simp -dsimp only[go_sem,seval,hw],fun u=>if u=x.1 then v else vs u,?_⟩;rw[zjk hsa]at hO2;have hP2:=hP.app hxn (y:=q+1+4+21+1) (by omega) hO2 (fun j hj=>hoffs j (by omega)) (fun j hj ho=>by rw[hkeep j (by omega) ho,zac,if_neg (by omega)]);rw[zmN p hx];simp -dsimp only[go_sem,seval];exact hP2.le (by omega)
 have hil:i=l.length:=by omega
 subst hil;have hlt1:=eq_false hlt;rw[List.take_length]at hP;simp -dsimp only[go_sem,seval,h24,hlt1,hn];obtain⟨F,hF⟩: ∃F:Nat->List Int,F=fun t=>sortedM (ptL p l t):=⟨_,rfl⟩
 refine zaj 79228162514228308796524987952 n (fun t f h z=>(f 55).v=vi t/\(f 4).v= .lb/\(f 4).box=some [zn,zn,zn,zn]/\(∀(u:Nat) (y:Thread),u<t->p.threads[u]? =some y->zgW (ptB p l u) y=false)/\ ∃vs,PtsD h 6 z n t (ptL p l) F vs) rfl
  ⟨by simp -dsimp only[go_sem,seval],by simp -dsimp only[go_sem,seval],by simp -dsimp only[go_sem,seval],fun u y hu=>by omega,vs,by simp -dsimp only[go_sem,seval];exact(hP.dn F).le (by omega)⟩ ?_
 clear h24 hP hlt hlt1 hw hi;rintro t f u H q bq ht ⟨h55,h4,h4b,hov,vs,hP⟩;have hw:=zah t (by omega);simp -dsimp only[go_sem,seval,h55]
 by_cases hlt:t<n
 ·have hlt1:=eq_true hlt;obtain⟨y,hy,hym⟩:=zaf (show t<p.threads.length by omega);have hrow:((List.range n).map fun t=>[vs t])[t]? =some [vs t]:=by rw[zJ,List.getElem?_range hlt];rfl
  have hat:=hP.at_;have hO:=hP.own t (Nat.le_refl _) hlt;have v1:=hO.valOf;have hlen:=zkI p l t;obtain⟨h1,d1,o1,k1⟩:=zof hO (by omega);have e1:=(k1 6 (hP.off t hlt)).trans hat;obtain⟨h2,d2,k2⟩:=zjM o1 (by rw[List.length_mergeSort];omega);have e2:=(k2 6 (hP.off t hlt)).trans e1;have hP2:=hP.put hlt (fun j hj=>(k2 j hj).trans (k1 j hj));replace d2: ∀n,DenR Γ G 75 [vs t] h1 n=some (.t (ints (F t)),h2,n):=fun n=>by rw[hF];exact d2 n
  have hrow2:(((List.range n).map fun t=>[vs t]).set t [.t (ints (F t))])[t]? =some [.t (ints (F t))]:=by rw[zew,zJ,List.getElem?_range hlt];simp
  have hFt:(F t).length=cntB (ptB p l t) y.points.toNat:=by rw[hF];show(sortedM (ptL p l t)).length=_;rw[zfu hp hpl hy,zeW]
  obtain⟨_,_,hpt,hsl,_⟩:=ziN hp hy;have hcl:=zcJ (ptB p l t) y.points.toNat;have a1:IntKind.i64.wrap (y.points+(cntB (ptB p l t) y.points.toNat:Int))=y.points+cntB (ptB p l t) y.points.toNat:=zan (by omega);have a2:IntKind.i64.wrap ((y.steps.length:Int)+(cntB (ptB p l t) y.points.toNat:Int))=(y.steps.length:Int)+cntB (ptB p l t) y.points.toNat:=zan (by omega);have hov1:zgW (ptB p l t) y=(decide (y.points+(cntB (ptB p l t) y.points.toNat:Int)>48)||decide ((y.steps.length:Int)+cntB (ptB p l t) y.points.toNat>64)):=rfl
  have hend:zgW (ptB p l t) y=false-> ∀(u:Nat) (z:Thread),u<t+1->p.threads[u]? =some z->zgW (ptB p l u) z=false:=fun h0 u z hu hz=>by
   by_cases h3:u<t
   ·exact hov u z h3 hz
   ·have:u=t:=by omega
    subst this;rw[hy]at hz;cases hz;exact h0
  simp -dsimp only[go_sem,seval,h55,hlt1,hy,hat,hrow,v1,d1,e1,d2,e2,hrow2,hFt,a1,a2];have hat2:=hP2.at_
  have hlim:zgW (ptB p l t) y=true->insM p l=(zeroP,2):=fun h0=>by
   unfold insM;rw[if_pos];unfold zhW;rw[List.any_eq_true];exact⟨(y,t),by rw[List.mem_zipIdx_iff_getElem?];exact hy,h0⟩
  by_cases w1:y.points+(cntB (ptB p l t) y.points.toNat:Int)>48
  ·have w2:=eq_true w1;rw[hlim (by rw[hov1,decide_eq_true w1];rfl)];simp -dsimp only[go_sem,seval,w2,h4,h4b];exact⟨rfl,rfl,rfl,rfl⟩
  ·have w2:=eq_false w1
   by_cases w3:(y.steps.length:Int)+cntB (ptB p l t) y.points.toNat>64
   ·have w4:=eq_true w3;rw[hlim (by rw[hov1,decide_eq_true w3,Bool.or_true])];simp -dsimp only[go_sem,seval,h55,w2,w4,h4,h4b,hat,hrow,hrow2,hFt,a2,hlt1];exact⟨rfl,rfl,rfl,rfl⟩
   ·have w4:=eq_false w3;simp -dsimp only[go_sem,seval,h55,w2,w4,h4,h4b,hat,hrow,hrow2,hFt,a2,hlt1];refine⟨hlt,by simp -dsimp only[go_sem,seval,hw],by simp -dsimp only[go_sem,seval,h4],by simp -dsimp only[go_sem,seval,h4b],hend (by rw[hov1,decide_eq_false w1,decide_eq_false w3];rfl),fun u=>if u=t then .t (ints (F t))else vs u,?_⟩;simp -dsimp only[go_sem,seval];exact hP2.le (by omega)
 have htn:t=n:=by omega
 subst htn;have hlt1:=eq_false hlt
 have hlim:zhW (ptB p l) p=false:=by
  unfold zhW;rw[List.any_eq_false];intro z hz;rw[List.mem_zipIdx_iff_getElem?]at hz;have h1:=(zH.1 hz).1;rw[hov z.2 z.1 (by omega) hz];simp
 have hins:insM p l=(p.ins (ptB p l),0):=by unfold insM;rw[hlim];rfl
 rw[hins]
 have dC:Den Γ G 428 [.t (.sl (p.cells.map Cell.enc))]=some (.t (.sl (p.cells.map Cell.enc))):=zlP Γ428 rfl rfl (by
  simp only[extPure]
  rw[if_pos ⟨by simp;omega,by simp[Cell.enc]⟩])
 have hFs: ∀(u:Nat) (y:Thread),p.threads[u]? =some y->F u=fencedI (ptB p l u) y.points.toNat:=fun u y hy=>by rw[hF];exact zfu hp hpl hy
 clear hins hlim hov hF;simp -dsimp only[go_sem,seval,h55,hlt1,dC]
 refine zaj 85070581589029814040008439884316420096 p.modules.length (fun i f h z=>(f 103).v=vi i/\(f 11).v= .lb/\q<=z/\(∀j,j<q->h j=H j)/\ ∃vm rows,(f 11).box=some [.t (.sl (p.cells.map Cell.enc)),vm,zn,zn]/\
  OwnT h q z vm 11 999 rows (conL (p.modules.take i))) rfl
  ⟨by simp -dsimp only[go_sem,seval],by simp -dsimp only[go_sem,seval],by simp -dsimp only[go_sem,seval];omega,fun j hj=>by(try simp -dsimp only[go_sem,seval]),zn,[],by simp -dsimp only[go_sem,seval],OwnT.nil _ _ _ _ _⟩ ?_
 rintro i g u1 H1 q1 bq1 hi ⟨h103,h11,hq1,hlow,vm,rows,h11b,hT⟩;have hwi:=zah i (by omega);simp -dsimp only[go_sem,seval,h103]
 by_cases hil:i<p.modules.length
 ·have hil1:=eq_true hil;obtain⟨m,hm,hmm⟩:=zaf hil;obtain⟨s1,s2,s3⟩:=hs.mods m hmm;have c1:=zbp m.rely s1;have c2:=zbp m.guar s2;simp -dsimp only[go_sem,seval,h103,hil1,hm,c1,c2];refine znz (by omega) ?_;intro v hp hv hke ⟨v1,v2⟩
  generalize hpC H1 hp=H2 at hv hke⊢
  simp only[V.cells]at v2;have hoT:zxp H2 (q1+1+4+15) vm 11 rows:=(hT.own.keep (h':=H2) (Nat.le_refl _) fun j hj _=>hke j (by omega)).le (by omega);have t1:=hoT.valOf;have t2:=hoT.r1;simp -dsimp only[go_sem,seval,h103,h11,h11b,v1,v2,t1,t2]
  have hkey: ∀h2:Nat->Option O,h2 (q1+1+4+8)=H2 (q1+1+4+8)->toT h2 999 v=some (ints m.frame):=fun h2 he=>by
   rcases hv with⟨rfl,h0⟩ | ⟨k,rfl,rfl,hk⟩
   ·rw[h0];rfl
   ·exact ziM (d:=998) (es:=m.frame.map fun n=>[ti n]) (.inr ⟨_,by rw[show(m.frame.map fun n=>[ti n]).map (·.map V.t)=rowsI m.frame from rfl,rowsI_len],Nat.lt_succ_self _,hk⟩) (ints_norm _) fun j hj hn=>by
     have:j=q1+1+4+8:=by
      refine Classical.byContradiction fun h1=>hn (offK_ms h1 _ _)
     rw[this];exact he
  refine zas ((hoT.le (y:=q1+1+4+15+3) (by omega)).upd (Nat.le_refl _) _) (by omega) (by have h1:=hT.len;rw[znq,List.length_take]at h1;omega) (by decide) rfl hT.all ?_;intro w hp hO hoffs hkeep;rw[za9]
  generalize hpC (updC H2 (q1+1+4+15+3) _) hp=H3 at hO hkeep⊢
  obtain⟨R,hT2⟩: ∃R,OwnT H3 q (q1+1+4+15+4+1) w 11 999 R (conL (p.modules.take i)++[m.enc]):=⟨_,hT.snoc (e:=m.enc) (by omega) (by omega) (by omega) hO hoffs hkeep (fun j hj=>by rw[zac,if_neg (by omega)];exact hke j (by omega)) rfl (fun h2 hh=>by
   have hb:=hkey h2 (by rw[hh _ (by omega) (by omega),zac,if_neg (by omega)]);have e1: ∀t:T,toT h2 999 (.t t)=some t.norm:=fun t=>rfl
   simp only[List.mapM_cons,List.mapM_nil,hb,e1]
   simp[Contract.enc,Expr.enc_eq,T.norm])⟩
  have w1:=hO.valOf;have w2:=zaW hO;simp only[V.cells]at w2;simp -dsimp only[go_sem,seval,h103,h11,h11b,w1,w2];refine⟨hil,by simp -dsimp only[go_sem,seval,hwi],by simp -dsimp only[go_sem,seval,h11],by simp -dsimp only[go_sem,seval];omega,fun j hj=> ?_,w,R,by simp -dsimp only[go_sem,seval],?_⟩
  ·simp -dsimp only[go_sem,seval];rw[hkeep j (by omega) (hT.low j hj),zac,if_neg (by omega),hke j (by omega)];exact hlow j hj
  ·simp -dsimp only[go_sem,seval];rw[zlU hm];exact⟨hT2.own.le (by omega),hT2.all,hT2.len,hT2.low,fun h2 hh=>hT2.sh h2 fun j h1 h2 h3=>hh j h1 (by omega) h3⟩
 have him:i=p.modules.length:=by omega
 subst him;have hil1:=eq_false hil;rw[List.take_length]at hT;simp -dsimp only[go_sem,seval,h103,hil1,h11]
 refine zaj 22300064633796781264608791523433497969592320 p.locks.length (fun i f h z=>(f 129).v=vi i/\(f 11).v= .lb/\q1<=z/\(∀j,j<q1->h j=H1 j)/\ ∃vl,(f 11).box=some [.t (.sl (p.cells.map Cell.enc)),vm,vl,zn]/\
  zdJ h q1 z vl 6 (rwG Lock.enc (p.locks.take i))) rfl
  ⟨by simp -dsimp only[go_sem,seval],by simp -dsimp only[go_sem,seval,h11],by simp -dsimp only[go_sem,seval];omega,fun j hj=>by(try simp -dsimp only[go_sem,seval]),zn,by simp -dsimp only[go_sem,seval,h11b],zcV⟩ ?_
 clear h103 h11 h11b hil hil1 hwi hi;have hlow1:=hlow;clear hlow;rintro i g u2 H2 q2 bq2 hi ⟨h129,h11,hq2,hlow,vl,h11b,hL⟩;have hwi:=zah i (by omega);simp -dsimp only[go_sem,seval,h129]
 by_cases hil:i<p.locks.length
 ·have hil1:=eq_true hil;obtain⟨m,hm,hmm⟩:=zaf hil;have c1:=zbp m.inv (hs.lcks m hmm);replace hL:=hL.le (y:=q2+1+4+5) (by omega);have v1:=hL.1.valOf;have v2:=hL.1.r1;simp -dsimp only[go_sem,seval,h129,hil1,hm,c1,h11,h11b,v1,v2];refine zbt ((hL.le (y:=q2+1+4+5+3) (by omega)).upd (Nat.le_refl _) _) (by omega) (by omega) (by rw[zbm,List.length_take];omega) (by decide) rfl (rwG_all _ lock_elen _) ?_;intro v hp H3 e1 hL2 hlow2;rw[za9,e1];clear e1;replace hL2:=hL2.eq (show _=rwG Lock.enc (p.locks.take (i+1))by rw[zed _ hm];simp[Lock.enc,Expr.enc_eq]);have w1:=hL2.1.valOf;have w2:=zaW hL2.1;simp only[V.cells]at w2;simp -dsimp only[go_sem,seval,h129,h11,h11b,w1,w2];refine⟨hil,by simp -dsimp only[go_sem,seval,hwi],by simp -dsimp only[go_sem,seval,h11],by simp -dsimp only[go_sem,seval];omega,fun j hj=> ?_,v,by simp -dsimp only[go_sem,seval],?_⟩
  ·simp -dsimp only[go_sem,seval];rw[hlow2 j hj,zac,if_neg (by omega)];exact hlow j hj
  ·simp -dsimp only[go_sem,seval];exact hL2.le (by omega)
 have him:i=p.locks.length:=by omega
 subst him;have hil1:=eq_false hil;rw[List.take_length]at hL;simp -dsimp only[go_sem,seval,h129,hil1,h11,hn]
 refine zaj 23383847791332858446273825037714347127602873042944 t (fun i f h z=>(f 147).v=vi i/\(f 11).v= .lb/\q2<=z/\(∀j,j<q2->h j=H2 j)/\ ∃vt,(f 11).box=some [.t (.sl (p.cells.map Cell.enc)),vm,vl,vt]/\
  zdJ h q2 z vt 7 (rwG Thread.enc ((p.threads.take i).mapIdx fun t x=>x.ins (ptB p l t)))) rfl
  ⟨by simp -dsimp only[go_sem,seval],by simp -dsimp only[go_sem,seval,h11],by simp -dsimp only[go_sem,seval];omega,fun j hj=>by(try simp -dsimp only[go_sem,seval]),zn,by simp -dsimp only[go_sem,seval,h11b],zcV⟩ ?_
 clear h129 h11 h11b hil hil1 hwi hi;have hlow2:=hlow;clear hlow;rintro i g u3 H3 q3 bq3 hi ⟨h147,h11,hq3,hlow,vt,h11b,hT3⟩;have hwi:=zah i (by omega);simp -dsimp only[go_sem,seval,h147]
 by_cases hil:i<t
 ·have hil1:=eq_true hil;obtain⟨y,hy,hym⟩:=zaf (show i<p.threads.length by omega);have hrow:((List.range t).map fun t=>[vs t])[i]? =some [.t (ints (fencedI (ptB p l i) y.points.toNat))]:=by rw[zJ,List.getElem?_range hil,Option.map_some,hP.don i hil hil,hFs i y hy]
  have h6:=hP.lt;have hat:H3 6=some (.rows 1 ((List.range t).map fun t=>[vs t]) false):=(((hlow 6 (by omega)).trans (hlow2 6 (by omega))).trans (hlow1 6 h6)).trans hP.at_;have d1:=zka y (ptB p l i) (spl_ok hp hs hpl hy);replace hT3:=hT3.le (y:=q3+1+6) (by omega);have v1:=hT3.1.valOf;have v2:=hT3.1.r1;simp -dsimp only[go_sem,seval,h147,hil1,hy,hat,hrow,d1,h11,h11b,v1,v2];refine zbt ((hT3.le (y:=q3+1+6+8) (by omega)).upd (Nat.le_refl _) _) (by omega) (by omega) (by rw[zbm,List.length_mapIdx,List.length_take];omega) (by decide) rfl (rwG_all _ thread_elen _) ?_;intro v hp2 H4 e1 hL2 hlow3;rw[za9,e1];clear e1
  replace hL2:=hL2.eq (show _=rwG Thread.enc ((p.threads.take (i+1)).mapIdx fun t x=>x.ins (ptB p l t))by
   rw[zhT _ hy,zcf];rfl)
  have w1:=hL2.1.valOf;have w2:=zaW hL2.1;simp only[V.cells]at w2;simp -dsimp only[go_sem,seval,h147,h11,h11b,w1,w2];refine⟨hil,by simp -dsimp only[go_sem,seval,hwi],by simp -dsimp only[go_sem,seval,h11],by simp -dsimp only[go_sem,seval];omega,fun j hj=> ?_,v,by simp -dsimp only[go_sem,seval],?_⟩
  ·simp -dsimp only[go_sem,seval];rw[hlow3 j hj,zac,if_neg (by omega)];exact hlow j hj
  ·simp -dsimp only[go_sem,seval];exact hL2.le (by omega)
 have him:i=t:=by omega
 subst him;have hil1:=eq_false hil;rw[List.take_of_length_le (by omega)]at hT3;have kL:=hL.1.keep (h':=H3) (Nat.le_refl _) fun j hj _=>hlow j hj
 have tM:=hT.toT (h2:=H3) fun j _ hj=>(hlow j (by omega)).trans (hlow2 j hj)
 have tL:=zbu kL (rwG_norm _ lock_norm _);have tT:=zbu hT3.1 (rwG_norm _ thread_norm _);simp -dsimp only[go_sem,seval,h147,hil1,h11,h11b,h4,h4b,tM,tL,tT];exact⟨rfl,rfl,rfl,rfl⟩
end Rg
end
section
namespace Rg
open Go
def encG (b:Nat->Bool) (x:Thread) (k:Nat):List T:=[ti 5,ti (newB b k:Nat),ti ((newB b k:Int)+1),ti 1,ti 1,ti 1,.sl [],.nils,tb false,ti 0,ti (firstS x k).module]
theorem encG_len (b:Nat->Bool) (x:Thread) (k:Nat):(encG b x k).length=11:=rfl
theorem zwJ (b:Nat->Bool) (x:Thread) (l:List Nat):(l.map (encG b x)).map (·.map T.norm)=(l.map (fenceS b x)).map Step.enc:=by
 rw[List.map_map,List.map_map];refine List.map_congr_left fun k _=> ?_
 simp[encG,fenceS,Step.enc,Expr.enc_eq,T.norm,Expr.op,Expr.w,Expr.n,Expr.kids]
theorem insL_all (b:Nat->Bool) (n:Nat) (l:List Loop):(((insL b n l).map (·.map V.t)).all fun r=>decide (r.length=6))=true:=by
 rw[List.all_eq_true];intro r hr;obtain⟨e,he,rfl⟩:=List.mem_map.1 hr;obtain⟨y,hy,rfl⟩:=List.mem_map.1 (show e∈l.map fun y=>(y.ins b n).enc from he);simp[zwG]
set_option maxHeartbeats 2000000
theorem zwp (x:Thread) (b:Nat->Bool) (h:SplOk x b):Den Γ G 422 [(.agg [.t (.str (x).name),.t (ti (x).points),.t (.sl ((x).asserts.map Expr.enc)),.t (ints (x).modules),.t (.sl ((x).steps.map Step.enc)),.t (.sl ((x).loops.map Loop.enc)),.t (tb (x).asleep)]),.t (boolT b x.points.toNat)]=some (.agg [.t (.str (x.ins b).name),.t (ti (x.ins b).points),.t (.sl ((x.ins b).asserts.map Expr.enc)),.t (ints (x.ins b).modules),.t (.sl ((x.ins b).steps.map Step.enc)),.t (.sl ((x.ins b).loops.map Loop.enc)),.t (tb (x.ins b).asleep)]):=by
 obtain⟨N,hN⟩: ∃N:Nat,x.points.toNat=N:=⟨_,rfl⟩
 have hp:=h.pt;have hPN:x.points=(N:Int):=by omega
 have hcl:=zcJ b N;have hnum: ∀k:Nat,k<=N->Den Γ G 431 [.t (boolT b N),vi k]=some (vi (newB b k:Nat)):=fun k hk=>zwm b N k hk (by omega)
 have hbl:=zwj b N;rw[hN]
 (refine den_ofY Γ422 rfl ?_;dsimp only[zwZ])
 simp -dsimp only[go_sem,seval]
 refine zaj 295147905179352563808 N (fun n f h z=>(f 6).v=vi n/\(f 5).v= .lb/\ ∃va vm,(f 5).box=some [.t (.str x.name),zi,va,vm,zn,zn,.t (tb x.asleep)]/\
  zdJ h 0 z va 4 (rwG Expr.enc (dupL b (x.asserts.take n)))/\zdJ h 0 z vm 1 (rowsI (dupL b (x.modules.take n)))) rfl
  ⟨by simp -dsimp only[go_sem,seval],by simp -dsimp only[go_sem,seval],zn,zn,by simp -dsimp only[go_sem,seval],zcV,zcV⟩ ?_
 rintro n f u H q bq hn ⟨h6,h5,va,vm,h5b,hA,hM⟩;have hw:=zah n (by omega);simp -dsimp only[go_sem,seval,h6]
 by_cases hlt:n<N
 ·have hlt1:((n:Int)<x.points)=True:=eq_true (by omega);obtain⟨e,he,hem⟩:=zaf (show n<x.asserts.length by rw[h.al,hN];exact hlt);obtain⟨m,hm,_⟩:=zaf (show n<x.modules.length by rw[h.ml,hN];exact hlt);have hg:=zwa (b:=b) hlt;have hAl:=zeo b x.asserts n (by rw[h.al];omega);have hMl:=zeo b x.modules n (by rw[h.ml];omega);have hnb:newB b n<=2*n:=by have:=zcJ b n;unfold newB;omega
  have hsA:=zdA b he;have hsM:=zdA b hm;have hrow:([V.t (ti e.op),V.t (ti e.w),V.t (ti e.n),V.t (.sl (e.kids.map Expr.enc))]:List V)=e.enc.map V.t:=by rw[Expr.enc_eq];rfl
  replace hA:=hA.le (y:=q+4) (by omega);replace hM:=hM.le (y:=q+4) (by omega);have v1:=hA.1.valOf;have v2:=hA.1.r1;simp -dsimp only[go_sem,seval,h6,hlt1,h5,h5b,he,v1,v2];refine zds (hA.upd (by omega) _) (hM.upd (by omega) _) (by decide) (by omega) (by omega) (by rw[zbm,hAl];omega) (by decide) rfl (rwG_all _ expr_elen _) ?_;intro v hp H1 e1 hA1 hM1 hlow;rw[za9,e1];clear e1 hlow;replace hA1:=hA1.eq (show _=rwG Expr.enc (dupL b (x.asserts.take n)++[e])by rw[zcf,<- hrow]);have w1:=hA1.1.valOf;have w2:=zaW hA1.1;simp only[V.cells]at w2;replace hM1:=hM1.le (y:=q+4+11) (by omega);replace hA1:=hA1.le (y:=q+4+11) (by omega);have v1:=hM1.1.valOf;have v2:=hM1.1.r1;simp -dsimp only[go_sem,seval,h6,h5,h5b,w1,w2,hm,v1,v2];refine zds (hM1.upd (by omega) _) (hA1.upd (by omega) _) (by decide) (by omega) (by omega) (by rw[rowsI_len,hMl];omega) (by decide) rfl (rowsI_all _) ?_;intro v' hp' H2 e1 hM2 hA2 hlow;rw[za9,e1];clear e1 hlow;replace hM2:=hM2.eq (show _=rowsI (dupL b (x.modules.take n)++[m])by rw[za6]);have w1:=hM2.1.valOf;have w2:=zaW hM2.1;simp only[V.cells]at w2;simp -dsimp only[go_sem,seval,h6,h5,h5b,w1,w2,hg,hlt];cases hbn:b n
  ·rw[hbn]at hsA hsM;simp only[zG,if_false]at hsA hsM;simp -dsimp only[go_sem,seval,h6];refine⟨hlt,by simp -dsimp only[go_sem,seval,hw],by simp -dsimp only[go_sem,seval,h5],v,v',by simp -dsimp only[go_sem,seval],?_,?_⟩
   ·simp -dsimp only[go_sem,seval];rw[hsA];exact hA2.le (by omega)
   ·simp -dsimp only[go_sem,seval];rw[hsM];exact hM2.le (by omega)
  ·rw[hbn]at hsA hsM;simp only[if_true]at hsA hsM;replace hM2:=hM2.le (y:=q+4+11+11+4) (by omega);replace hA2:=hA2.le (y:=q+4+11+11+4) (by omega);have v1:=hA2.1.valOf;have v2:=hA2.1.r1;simp -dsimp only[go_sem,seval,h6,h5,h5b,he,v1,v2];refine zds (hA2.upd (by omega) _) (hM2.upd (by omega) _) (by decide) (by omega) (by omega) (by rw[zbm,List.length_append,hAl];simp;omega) (by decide) rfl (rwG_all _ expr_elen _) ?_;intro v hp H3 e1 hA3 hM3 hlow;rw[za9,e1];clear e1 hlow;replace hA3:=hA3.eq (show _=rwG Expr.enc (dupL b (x.asserts.take n)++[e]++[e])by rw[zcf _ (_++[e]),<- hrow]);replace hM3:=hM3.le (y:=q+4+11+11+4+11) (by omega);replace hA3:=hA3.le (y:=q+4+11+11+4+11) (by omega);have w1:=hA3.1.valOf;have w2:=zaW hA3.1;simp only[V.cells]at w2;have v1:=hM3.1.valOf;have v2:=hM3.1.r1;simp -dsimp only[go_sem,seval,h6,h5,h5b,w1,w2,hm,v1,v2];refine zds (hM3.upd (by omega) _) (hA3.upd (by omega) _) (by decide) (by omega) (by omega) (by rw[rowsI_len,List.length_append,hMl];simp;omega) (by decide) rfl (rowsI_all _) ?_;intro v' hp' H4 e1 hM4 hA4 hlow;rw[za9,e1];clear e1 hlow;replace hM4:=hM4.eq (show _=rowsI (dupL b (x.modules.take n)++[m]++[m])by rw[za6 (_++[m])]);have w1:=hM4.1.valOf;have w2:=zaW hM4.1;simp only[V.cells]at w2;simp -dsimp only[go_sem,seval,h6,h5,h5b,w1,w2];refine⟨hlt,by simp -dsimp only[go_sem,seval,hw],by simp -dsimp only[go_sem,seval,h5],v,v',by simp -dsimp only[go_sem,seval],?_,?_⟩
   ·simp -dsimp only[go_sem,seval];rw[hsA];refine(hA4.eq ?_).le (by omega);rw[List.append_assoc];rfl
   ·simp -dsimp only[go_sem,seval];rw[hsM];refine(hM4.eq ?_).le (by omega);rw[List.append_assoc];rfl
 have hnN:n=N:=by omega
 subst hnN;have hlt1:((n:Int)<x.points)=False:=eq_false (by omega);rw[List.take_of_length_le (by rw[h.al,hN];exact Nat.le_refl _)]at hA;rw[List.take_of_length_le (by rw[h.ml,hN];exact Nat.le_refl _)]at hM;have hlA:=hA.1.lenS;rw[zbm,ze3,h.al,hN]at hlA;have vA:=hA.1.valOf;have hnb:newB b n<=2*n:=by have:=zcJ b n;unfold newB;omega
 have hpt:((newB b n:Nat):Int)=x.points+cntB b n:=by unfold newB;omega
 simp -dsimp only[go_sem,seval,h6,hlt1,h5,h5b,vA,hlA,hpt]
 refine zaj 649037107312131087083442395939744 x.steps.length (fun i f h z=>(f 7).v=vi i/\(f 5).v= .lb/\q<=z/\(∀j,j<q->h j=H j)/\ ∃vs,(f 5).box=some [.t (.str x.name),.t (.int .i64 (x.points+cntB b n)),va,vm,vs,zn,.t (tb x.asleep)]/\
  zdJ h q z vs 11 (rwG Step.enc ((x.steps.take i).map (Step.ins b)))) rfl
  ⟨by simp -dsimp only[go_sem,seval],by simp -dsimp only[go_sem,seval,h5],by simp -dsimp only[go_sem,seval];omega,fun j _=>by simp -dsimp only[go_sem,seval],zn,by simp -dsimp only[go_sem,seval,h5b],zcV⟩ ?_
 clear h6 h5 h5b hw hn hlt hlt1;rintro i f u H1 q1 bq hi ⟨h7,h5,hq1,hlow,vs,h5b,hS⟩;have hw:=zah i (by have:=h.sl;omega);simp -dsimp only[go_sem,seval,h7]
 by_cases hlt:i<x.steps.length
 ·have hlt1:=eq_true hlt;obtain⟨s,hs,hsm⟩:=zaf hlt;obtain⟨⟨⟨f0,f1⟩,⟨t0,t1⟩⟩,hg,hsl,hsa⟩:=h.st s hsm;obtain⟨kf,hkf⟩:=Int.eq_ofNat_of_zero_le f0;obtain⟨kt,hkt⟩:=Int.eq_ofNat_of_zero_le t0;have n1:=hnum kf (by omega);have n2:=zwa (b:=b) (n:=n) (k:=kf) (by omega);have n3:=hnum kt (by omega);have hnb:newB b kf<=2*kf:=by have:=zcJ b kf;unfold newB;omega
  have hadd:=zah (newB b kf) (by omega)
  have hins:Step.ins b s= { s with fr:=((newB b kf+(if b kf then 1 else 0):Nat):Int),to:=(newB b kt:Nat) }:=by
   unfold Step.ins newI;rw[hkf,hkt,Int.toNat_natCast,Int.toNat_natCast];cases b kf<;>simp
  have hsuc:rwG Step.enc ((x.steps.take (i+1)).map (Step.ins b))=rwG Step.enc ((x.steps.take i).map (Step.ins b))++[(Step.ins b s).enc.map V.t]:=by
   rw[zae hs,List.map_append];exact zcf _ _ _
  simp -dsimp only[go_sem,seval,h7,hlt1,hs,hkf,hkt,n1,n2,h5];cases hb:b kf
  ·rw[hb]at hins;replace hS:=hS.le (y:=q1+5+7+3+5+4+6) (by omega);have v1:=hS.1.valOf;have v2:=hS.1.r1;simp -dsimp only[go_sem,seval,hkf,hkt,n3,h5,h5b,v1,v2,hadd];refine zbt (hS.upd (by omega) _) (by omega) (by omega) (by rw[zbm];have:=h.sl;simp;omega) (by decide) rfl (rwG_all _ step_elen _) ?_;intro v hp H2 e1 hS2 hlow2;rw[za9,e1];clear e1
   replace hS2:=hS2.eq (show _=rwG Step.enc ((x.steps.take (i+1)).map (Step.ins b))by
    rw[hsuc,hins];simp[Step.enc,Expr.enc_eq])
   have w1:=hS2.1.valOf;have w2:=zaW hS2.1;simp only[V.cells]at w2;simp -dsimp only[go_sem,seval,h7,h5,h5b,w1,w2];refine⟨hlt,by simp -dsimp only[go_sem,seval,hw],by simp -dsimp only[go_sem,seval,h5],by simp -dsimp only[go_sem,seval];omega,fun j hj=> ?_,v,by simp -dsimp only[go_sem,seval],?_⟩
   ·simp -dsimp only[go_sem,seval];rw[hlow2 j hj,zac,if_neg (by omega)];exact hlow j hj
   ·simp -dsimp only[go_sem,seval];exact hS2.le (by omega)
  ·rw[hb]at hins;replace hS:=hS.le (y:=q1+5+7+3+5+4+5+6) (by omega);have v1:=hS.1.valOf;have v2:=hS.1.r1;simp -dsimp only[go_sem,seval,hkf,hkt,n3,h5,h5b,v1,v2,hadd];refine zbt (hS.upd (by omega) _) (by omega) (by omega) (by rw[zbm];have:=h.sl;simp;omega) (by decide) rfl (rwG_all _ step_elen _) ?_;intro v hp H2 e1 hS2 hlow2;rw[za9,e1];clear e1
   replace hS2:=hS2.eq (show _=rwG Step.enc ((x.steps.take (i+1)).map (Step.ins b))by
    rw[hsuc,hins];simp[Step.enc,Expr.enc_eq])
   have w1:=hS2.1.valOf;have w2:=zaW hS2.1;simp only[V.cells]at w2;simp -dsimp only[go_sem,seval,h7,h5,h5b,w1,w2];refine⟨hlt,by simp -dsimp only[go_sem,seval,hw],by simp -dsimp only[go_sem,seval,h5],by simp -dsimp only[go_sem,seval];omega,fun j hj=> ?_,v,by simp -dsimp only[go_sem,seval],?_⟩
   ·simp -dsimp only[go_sem,seval];rw[hlow2 j hj,zac,if_neg (by omega)];exact hlow j hj
   ·simp -dsimp only[go_sem,seval];exact hS2.le (by omega)
 have hin:i=x.steps.length:=by omega
 subst hin;have hlt1:=eq_false hlt;rw[List.take_length]at hS;simp -dsimp only[go_sem,seval,h7,hlt1,h5,h5b]
 have htk: ∀k,k<n->fencedL b (k+1)=fencedL b k++if b k then [k]else []:=fun k _=>by
  unfold fencedL;rw[List.range_succ,List.filter_append];cases hk:b k<;>simp[hk]
 refine zaj 87112285282723139329770445936220620983328 n (fun i f h z=>(f 10).v=vi i/\(f 5).v= .lb/\q<=z/\(∀j,j<q->h j=H j)/\ ∃vs,(f 5).box=some [.t (.str x.name),.t (.int .i64 (x.points+cntB b n)),va,vm,vs,zn,.t (tb x.asleep)]/\
  zdJ h q z vs 11 (rwG Step.enc (x.steps.map (Step.ins b))++rwG (encG b x) (fencedL b i))) rfl
  ⟨by simp -dsimp only[go_sem,seval],by simp -dsimp only[go_sem,seval,h5],by simp -dsimp only[go_sem,seval];omega,fun j hj=>by(try simp -dsimp only[go_sem,seval]);exact hlow j hj,vs,by simp -dsimp only[go_sem,seval,h5b],by simp -dsimp only[go_sem,seval];refine(hS.eq ?_).le (by omega);simp[rwG,fencedL]⟩ ?_
 clear h7 h5 h5b hw hi hlt hlt1 hlow hS;rintro i f u H2 q2 bq hi ⟨h10,h5,hq2,hlow,vs,h5b,hS⟩;have hw:=zah i (by omega);simp -dsimp only[go_sem,seval,h10]
 by_cases hlt:i<n
 ·have hlt1:((i:Int)<x.points)=True:=eq_true (by omega);have hg:=zwa (b:=b) hlt;have hsu:=htk i hlt;have n1:=hnum i (by omega);have hlf:(fencedL b i).length<=i:=zcJ b i;simp -dsimp only[go_sem,seval,h10,hlt1,hg];cases hbi:b i
  ·rw[hbi]at hsu;simp only[zG,if_false,List.append_nil]at hsu;simp -dsimp only[go_sem,seval,h10];refine⟨hlt,by simp -dsimp only[go_sem,seval,hw],by simp -dsimp only[go_sem,seval,h5],by simp -dsimp only[go_sem,seval];omega,fun j hj=>by simp -dsimp only[go_sem,seval];exact hlow j hj,vs,by simp -dsimp only[go_sem,seval,h5b],?_⟩;simp -dsimp only[go_sem,seval];rw[hsu];exact hS.le (by omega)
  ·rw[hbi]at hsu;simp only[if_true]at hsu;obtain⟨i0,s0,hs0,hfr0⟩:=h.fb i (by omega) hbi;have hfd:=zwD x (by have:=h.sl;omega) (i:Int) hs0 hfr0;have hnb:newB b i<=2*i:=by have:=zcJ b i;unfold newB;omega
   have hadd:IntKind.i64.wrap ((newB b i:Int)+1)=(newB b i:Int)+1:=by rw[zan (by omega)]
   have hone:=zlT 1 1;replace hS:=hS.le (y:=q2+4+4+4) (by omega);have v1:=hS.1.valOf;have v2:=hS.1.r1;simp -dsimp only[go_sem,seval,h10,n1,h5,h5b,hadd,hfd,hone,v1,v2];refine zbt (hS.upd (by omega) _) (by omega) (by omega) (by rw[List.length_append,zbm,zbm];have:=h.sl;simp;omega) (by decide) rfl (by rw[List.all_append,rwG_all _ step_elen,rwG_all _ (encG_len b x)];rfl) ?_;intro v hp H3 e1 hS2 hlow2;rw[za9,e1];clear e1
   replace hS2:=hS2.eq (show _=rwG Step.enc (x.steps.map (Step.ins b))++rwG (encG b x) (fencedL b (i+1))by
    rw[hsu,zcf,List.append_assoc];simp[encG])
   have w1:=hS2.1.valOf;have w2:=zaW hS2.1;simp only[V.cells]at w2;simp -dsimp only[go_sem,seval,h10,h5,h5b,w1,w2];refine⟨hlt,by simp -dsimp only[go_sem,seval,hw],by simp -dsimp only[go_sem,seval,h5],by simp -dsimp only[go_sem,seval];omega,fun j hj=> ?_,v,by simp -dsimp only[go_sem,seval],?_⟩
   ·simp -dsimp only[go_sem,seval];rw[hlow2 j hj,zac,if_neg (by omega)];exact hlow j hj
   ·simp -dsimp only[go_sem,seval];exact hS2.le (by omega)
 have hin:i=n:=by omega
 subst hin;have hlt1:((i:Int)<x.points)=False:=eq_false (by omega);simp -dsimp only[go_sem,seval,h10,hlt1,h5,h5b];clear h10 hlt hlt1 hw hi;have hlow2:=hlow
 refine zaj 45671839054304784433618504398484341831585763360 x.loops.length (fun k f h z=>(f 12).v=vi k/\(f 5).v= .lb/\q2<=z/\(∀j,j<q2->h j=H2 j)/\ ∃vl,(f 5).box=some [.t (.str x.name),.t (.int .i64 (x.points+cntB b i)),va,vm,vs,vl,.t (tb x.asleep)]/\
  zdJ h q2 z vl 6 ((insL b i (x.loops.take k)).map (·.map V.t))) rfl
  ⟨by simp -dsimp only[go_sem,seval],by simp -dsimp only[go_sem,seval,h5],by simp -dsimp only[go_sem,seval];omega,fun j hj=>by(try simp -dsimp only[go_sem,seval]),zn,by simp -dsimp only[go_sem,seval,h5b],zcV⟩ ?_
 clear h5 h5b hlow;rintro k f u H3 q3 bq hi ⟨h12,h5,hq3,hlow,vl,h5b,hL⟩;have hw:=zah k (by have:=h.ll;omega);simp -dsimp only[go_sem,seval,h12]
 by_cases hlt:k<x.loops.length
 ·have hlt1:=eq_true hlt;obtain⟨l,hl,hlm⟩:=zaf hlt;obtain⟨⟨l0,l1⟩,hbl',hvs⟩:=h.lp l hlm;have hlr:=zwH l b i (by omega) ⟨l0,by omega⟩ hbl';replace hL:=hL.le (y:=q3+5) (by omega);have v1:=hL.1.valOf;have v2:=hL.1.r1;have hins:=zm9 b i (x.loops.take k);simp -dsimp only[go_sem,seval,h12,hlt1,hl,h5,h5b,hlr,v1,v2];refine zbt (hL.upd (by omega) _) (by omega) (by omega) (by rw[List.length_map,hins];have:=h.ll;simp;omega) (by decide) rfl (insL_all b i _) ?_;intro v hp H4 e1 hL2 hlow3;rw[za9,e1];clear e1
  replace hL2:=hL2.eq (show _=(insL b i (x.loops.take (k+1))).map (·.map V.t)by
   rw[zll b i hl,List.map_append];simp[Loop.ins,Loop.enc,Expr.enc_eq])
  have w1:=hL2.1.valOf;have w2:=zaW hL2.1;simp only[V.cells]at w2;simp -dsimp only[go_sem,seval,h12,h5,h5b,w1,w2];refine⟨hlt,by simp -dsimp only[go_sem,seval,hw],by simp -dsimp only[go_sem,seval,h5],by simp -dsimp only[go_sem,seval];omega,fun j hj=> ?_,v,by simp -dsimp only[go_sem,seval],?_⟩
  ·simp -dsimp only[go_sem,seval];rw[hlow3 j hj,zac,if_neg (by omega)];exact hlow j hj
  ·simp -dsimp only[go_sem,seval];exact hL2.le (by omega)
 have hkn:k=x.loops.length:=by omega
 subst hkn;have hlt1:=eq_false hlt;rw[List.take_length]at hL;have kA:zxp H3 q va 4 (rwG Expr.enc (dupL b x.asserts)):=hA.1.keep (Nat.le_refl _) fun j hj _=>(hlow j (by omega)).trans (hlow2 j hj)
 have kM:zxp H3 q vm 1 (rowsI (dupL b x.modules)):=hM.1.keep (Nat.le_refl _) fun j hj _=>(hlow j (by omega)).trans (hlow2 j hj)
 have kS:zxp H3 q2 vs 11 ((((x.steps.map (Step.ins b)).map Step.enc++(fencedL b i).map (encG b x))).map (·.map V.t)):=by
  have:=hS.1.keep (h':=H3) (Nat.le_refl _) fun j hj _=>hlow j hj
  exact zdQ this (by simp[rwG])
 have tA:=zbu kA (rwG_norm _ expr_norm _);have tM:=zbu kM (ints_norm _);have tS:=zkM kS (es:=((x.steps.map (Step.ins b)++(fencedL b i).map (fenceS b x))).map Step.enc) (by rw[List.map_append,norm_self zj7,zwJ,List.map_append]);have tL:=zkM hL.1 (es:=insL b i x.loops) (norm_self (enc:=fun l=>(Loop.ins b i l).enc) (fun l=>zwF _) x.loops);simp -dsimp only[go_sem,seval,h12,hlt1,h5,h5b,tA,tM,tS,tL];refine⟨rfl,by simp only[Thread.ins,hN],rfl,rfl,by simp only[Thread.ins,hN],?_,rfl⟩;simp only[Thread.ins,hN,insL,List.map_map];rfl
end Rg
end
section
namespace Rg
open Go
theorem pl_elen (x:Pl):x.enc.length=2:=rfl
section
end
theorem zeq (p:Prog) (hs:p.sane):Den Γ G 415 [(.agg [.t (.sl ((p).cells.map (Cell.enc))),.t (.sl ((p).modules.map (Contract.enc))),.t (.sl ((p).locks.map (Lock.enc))),.t (.sl ((p).threads.map (Thread.enc)))])]=some (vb (validB p)):=by
 have hv:=zep p hs
 (refine den_ofY Γ415 rfl ?_;dsimp only[zrm])
 simp -dsimp only[go_sem,seval,hv];rfl
theorem zlk {p:Prog} {B:Nat->Nat->Bool} {y:Thread} (h:y∈(p.ins B).threads): ∃(t:Nat) (x:Thread),p.threads[t]? =some x/\y=x.ins (B t):=by
 unfold Prog.ins at h;obtain⟨t,ht,he⟩:=List.mem_mapIdx.1 h;exact⟨t,_,zI ht,he.symm⟩
theorem zh7 (b:Nat->Bool) (n:Nat):(fencedL b n).length=cntB b n:=rfl
theorem zha {b:Nat->Bool} {x:Thread} {s:Step} (h:s∈(x.ins b).steps):(∃s0∈x.steps,s=s0.ins b)\/ ∃f∈fencedL b x.points.toNat,s=fenceS b x f:=by
 unfold Thread.ins at h;rcases List.mem_append.1 h with h | h
 ·obtain⟨s0,h1,rfl⟩:=List.mem_map.1 h;exact .inl ⟨s0,h1,rfl⟩
 ·obtain⟨f,h1,rfl⟩:=List.mem_map.1 h;exact .inr ⟨f,h1,rfl⟩
theorem ins_sane {p:Prog} (hp:p.ok) (hs:p.sane) (B:Nat->Nat->Bool):(p.ins B).sane:=by
 obtain⟨s1,s2,s3,s4,s5,s6,s7,s8,s9⟩:=hs
 have key: ∀y∈(p.ins B).threads,∃(t:Nat) (x:Thread),p.threads[t]? =some x/\x∈p.threads/\y=x.ins (B t)/\x.asserts.length=x.points.toNat/\x.modules.length=x.points.toNat/\(1<=x.points/\x.points<=48)/\x.steps.length<=64/\x.loops.length<=8:=fun y hy=>by
  obtain⟨t,x,hx,he⟩:=zlk hy;obtain⟨h1,h2,h3,h4,h5⟩:=ziN hp hx;exact⟨t,x,hx,List.mem_of_getElem? hx,he,h1,h2,h3,h4,h5⟩
 refine⟨s1,s2,s3,?_,s5,s6,?_,?_,?_⟩
 ·show(p.threads.mapIdx _).length<_;rw[List.length_mapIdx];exact s4
 ·intro y hy;obtain⟨t,x,hx,hxm,rfl,h1,h2,h3,h4,h5⟩:=key y hy;have c1:=zcJ (B t) x.points.toNat;have n1:(dupL (B t) x.asserts).length=_:=ze3 _ _;have n2:(dupL (B t) x.modules).length=_:=ze3 _ _;rw[h1]at n1;rw[h2]at n2;unfold newB at n1 n2;refine⟨(s7 x hxm).1,?_,?_,?_,?_⟩
  ·show(dupL (B t) x.asserts).length<_;omega
  ·show(dupL (B t) x.modules).length<_;omega
  ·show(x.steps.map (Step.ins (B t))++(fencedL (B t) x.points.toNat).map (fenceS (B t) x)).length<_;rw[List.length_append,List.length_map,List.length_map,zh7];omega
  ·show(x.loops.map (Loop.ins (B t) x.points.toNat)).length<_;rw[List.length_map];omega
 ·intro y hy s hs;obtain⟨t,x,hx,hxm,rfl,_⟩:=key y hy;rcases zha hs with⟨s0,h0,rfl⟩ | ⟨f,_,rfl⟩
  ·exact s8 x hxm s0 h0
  ·simp[fenceS]
 ·intro y hy l hl;obtain⟨t,x,hx,hxm,rfl,h1,h2,h3,h4,h5⟩:=key y hy;obtain⟨l0,h0,rfl⟩:=List.mem_map.1 (show l∈x.loops.map (Loop.ins (B t) x.points.toNat)from hl);show(loopBN (B t) l0 x.points.toNat).length<_;have:=zdS (B t) l0 x.points.toNat;omega
set_option maxHeartbeats 4000000
set_option maxHeartbeats 4000000
end Rg
end
