/- Part of the proof of laws of relyguardlaw31. No condition. -/
import Derived.Test.YtcmeofagpechdaaGreatDoorPartBE
import Derived.Test.YtcmeofagpechdaaGreatDoorPartBG
import Derived.Test.YtcmeofagpechdaaGreatDoorPartAZ
set_option linter.unusedSimpArgs false
set_option linter.unusedVariables false
section
namespace Rg
open Go
theorem pl_elen (x:Pl):x.enc.length=2:=rfl
theorem znA (l:List Pl):Den Γ G 427 [.t (.sl (l.map Pl.enc))]=some (.t (.slc (l.map Pl.enc))):=by
 (refine den_ofY Γ427 rfl ?_;dsimp only[zrg])
 cases l with
 | nil=>simp -dsimp only[go_sem,seval]
 | cons x l=>
   have hall:(((x::l).map Pl.enc).all fun e=>decide (e.length=2))=true:=by simp[Pl.enc]
   obtain⟨L,hL⟩: ∃L,L=(x::l).map Pl.enc:=⟨_,rfl⟩
   have hlen: ¬((L.length:Int)=0):=by rw[hL];simp;omega
   rw[<- hL]at hall⊢;have hle:((L.length:Int)<=(L.length:Int))=True:=eq_true (Int.le_refl _);simp -dsimp only[go_sem,seval,hlen,hall,hle]
theorem zk5: ∀l:List Pl,(l.map Pl.enc |>.map fun r=>r.map V.t).mapM trees=some (l.map Pl.enc)
 | []=>rfl
 | x::l=>by
   rw[List.map_cons,List.map_cons,List.mapM_cons,zk5 l];rfl
theorem zo5 (h:Nat->Option O) (q:Nat) (l:List Pl) (x:Pl) (hl:l.length<2^20):appS h q 2 16 (.t (.slc (l.map Pl.enc))) ((l.map Pl.enc).map fun r=>r.map V.t) [[V.t (ti x.1),V.t (ti x.2)]]=some (.t (.sl ((l++[x]).map Pl.enc)),[]):=by
 unfold appS;rw[if_pos ⟨⟨by simp;omega,by decide⟩,rfl,by simp[Pl.enc]⟩];simp only[List.isEmpty_cons,zG,if_false]
 have:(((l.map Pl.enc).map fun r=>r.map V.t)++[[V.t (ti x.1),V.t (ti x.2)]]).mapM trees=some ((l++[x]).map Pl.enc):=by
  have h1:=zk5 (l++[x]);rw[List.map_append (f:=Pl.enc),List.map_append]at h1;rw[List.map_append (f:=Pl.enc)];exact h1
 rw[this];rfl
def zo9 (v:V) (s:List Pl):Prop:=v= .t (.sl (s.map Pl.enc))\/(v= .t .nils/\s=[])
section
variable (kY kE ky:Nat) (size:Nat) (all:List Pl) (Inv:List (List Pl)->(Nat->Option O)->Nat->Prop) (Stop:(Nat->Option O)->Nat->Prop)
structure GenOk:Prop where
 hY: ∀ls h n,Inv ls h n->h kY=some (.rows 1 [[.yl ky]] false)/\h kE=some (.rows 1 [[.fn 426 [] [.t (.ip [ti size]),.mp kY 0 0,.t (.ip [.sl (all.map Pl.enc)]),.mp kE 0 0]]] false)/\kY<n/\kE<n
 loc: ∀ls h h' n m,Inv ls h n->n<=m->(∀j,j<n->h' j=h j)->Inv ls h' m
 stp: ∀h h' n m,Stop h n->n<=m->(∀j,j<n->h' j=h j)->Stop h' m
 rnd: ∀s ls h n v,Inv (s::ls) h n->zo9 v s-> ∃cont h' n',DenY Γ G ky [v] h n=some (vb cont,h',n')/\if cont then Inv ls h' n' else Stop h' n'
variable {kY kE ky size all Inv Stop}
theorem zjE (g:GenOk kY kE ky size all Inv Stop) (hal:all.length<2^20) (hs0:size<2^20): ∀(d:Nat) (set:List Pl) (i:Nat) (v:V) (tail:List (List Pl)) (h:Nat->Option O) (n:Nat),set.length+d=size->i<=all.length->zo9 v set->
 Inv ((combs d (all.drop i)).map (set++ ·)++tail) h n-> ∃r h' n',DenR Γ G 426 [v,vi i,.t (.ip [ti size]),.mp kY 0 0,.t (.ip [.sl (all.map Pl.enc)]),.mp kE 0 0] h n=some (r,h',n')/\ ∃cont,r=vb cont/\if cont then Inv tail h' n' else Stop h' n':=by
 intro d
 induction d with
 | zero=>
   intro set i v tail H q hsz hi hv hI;obtain⟨y1,y2,y3,y4⟩:=g.hY _ _ _ hI;have hse:set.length=size:=by omega
   rw[combs,List.map_cons,List.map_nil,List.append_nil]at hI
   have hlen:lenS H v=some set.length:=by
    rcases hv with rfl | ⟨rfl,rfl⟩
    ·simp[lenS]
    ·rfl
   have hval:valOf v=some v:=by rcases hv with rfl | ⟨rfl,_⟩<;>rfl
   (refine denR_ofY Γ426 rfl ?_;dsimp only[zqe])
   simp -dsimp only[go_sem,seval,hlen,hval,hse,y1];have hr:=fun m (hm:q<=m)=>g.rnd set tail H m v (g.loc _ _ _ _ _ hI hm fun _ _=>rfl) hv
   obtain⟨cont,h1,n1,hd,hc⟩:=hr (q+1+4+4) (by omega);refine zav (P:=fun r h' n'=>r=vb cont/\if cont then Inv tail h' n' else Stop h' n') ⟨_,_,_,hd,rfl,hc⟩ ?_;rintro r h2 n2 ⟨rfl,hc2⟩;simp -dsimp only[go_sem,seval]
   exact⟨cont,rfl,hc2⟩
 | succ d ih=>
   intro set i v tail H q hsz hi hv hI;obtain⟨y1,y2,y3,y4⟩:=g.hY _ _ _ hI;have hne:((set.length:Int)=(size:Int))=False:=eq_false (by omega)
   have hlen:lenS H v=some set.length:=by
    rcases hv with rfl | ⟨rfl,rfl⟩
    ·simp[lenS]
    ·rfl
   have hval:valOf v=some v:=by rcases hv with rfl | ⟨rfl,_⟩<;>rfl
   have htree: ∀h,toT1 h v=some (.t (.sl (set.map Pl.enc))):=fun h=>by
    rcases hv with rfl | ⟨rfl,rfl⟩<;>rfl
   (refine denR_ofY Γ426 rfl ?_;dsimp only[zqe])
   simp -dsimp only[go_sem,seval,hlen,hval,hne]
   refine zaj 137438692096 (all.length-i) (fun t f h z=>(f 9).v=vi ((i+t:Nat):Int)/\Inv ((combs (d+1) (all.drop (i+t))).map (set++ ·)++tail) h z) rfl
    ⟨by simp -dsimp only[go_sem,seval];rfl,by simp -dsimp only[go_sem,seval];exact g.loc _ _ _ _ _ hI (by omega) fun _ _=>rfl⟩ ?_
   rintro t f u H1 q1 bq ht ⟨h9,hI1⟩;obtain⟨y1,y2,y3,y4⟩:=g.hY _ _ _ hI1;have hw:=zah (i+t) (by omega);simp -dsimp only[go_sem,seval,h9]
   by_cases hlt:i+t<all.length
   ·have hlt1:=eq_true hlt;obtain⟨x,hx,hxm⟩:=zaf hlt;have hcl:=znA set;have happ:=fun h q=>zo5 h q set x (by omega)
    have hcm:combs (d+1) (all.drop (i+t))=(combs d (all.drop (i+t+1))).map (x:: ·)++combs (d+1) (all.drop (i+t+1)):=by
     rw[zba hx,combs]
    rw[hcm,List.map_append,List.map_map,List.append_assoc]at hI1;have hfe:((fun y=>set++y)∘fun y=>x::y)=fun y=>(set++[x])++y:=by funext y;simp
    rw[hfe]at hI1
    have key: ∀m H2,q1<=m->(∀j,j<q1->H2 j=H1 j)-> ∃r h' n',DenR Γ G 426 [.t (.sl ((set++[x]).map Pl.enc)),vi ((i+t+1:Nat):Int),.t (.ip [ti size]),.mp kY 0 0,.t (.ip [.sl (all.map Pl.enc)]),.mp kE 0 0] H2 m=some (r,h',n')/\ ∃cont,r=vb cont/\if cont then Inv ((combs (d+1) (all.drop (i+t+1))).map (set++ ·)++tail) h' n' else Stop h' n':=fun m H2 hm hj=>
     ih (set++[x]) (i+t+1) _ _ H2 m (by simp;omega) (by omega) (.inl rfl) (g.loc _ _ _ _ _ hI1 hm hj)
    rcases hv with rfl | ⟨rfl,rfl⟩
    ·simp -dsimp only[go_sem,seval,h9,hlt1,y2,hcl,hx,happ,hw];refine zav (P:=fun r h' n'=> ∃cont,r=vb cont/\if cont then Inv ((combs (d+1) (all.drop (i+t+1))).map (set++ ·)++tail) h' n' else Stop h' n') (key _ _ (by omega) (fun j hj=>by rw[zac,if_neg (by omega)])) ?_;rintro _ h2 n2 ⟨cont,rfl,hc⟩;have hsp:(![].contains kE)=true:=rfl;cases cont
     ·simp -dsimp only[go_sem,seval];refine⟨?_,?_⟩
      ·simp only[zwg,List.all_cons,List.all_nil,List.getElem?_cons_succ,List.getElem?_cons_zero,sep,AOp.looks,AOp.opds,AOp.wopd,topsL,zay,List.flatMap_cons,List.flatMap_nil];simp -dsimp only[go_sem,seval,V.top];exact hsp
      ·exact⟨false,rfl,g.stp _ _ _ _ hc (by simp -dsimp only[go_sem,seval];omega) fun _ _=>rfl⟩
     ·simp -dsimp only[go_sem,seval,h9];refine⟨?_,?_⟩
      ·simp only[zwg,List.all_cons,List.all_nil,List.getElem?_cons_succ,List.getElem?_cons_zero,sep,AOp.looks,AOp.opds,AOp.wopd,topsL,zay,List.flatMap_cons,List.flatMap_nil];simp -dsimp only[go_sem,seval,V.top];exact hsp
      ·refine⟨by omega,by simp -dsimp only[go_sem,seval,hw];rfl,?_⟩;simp -dsimp only[go_sem,seval];exact g.loc _ _ _ _ _ hc (by omega) fun _ _=>rfl
    ·simp only[List.map_nil]at hcl happ;simp -dsimp only[go_sem,seval,h9,hlt1,y2,hcl,hx,happ,hw];refine zav (P:=fun r h' n'=> ∃cont,r=vb cont/\if cont then Inv ((combs (d+1) (all.drop (i+t+1))).map ([]++ ·)++tail) h' n' else Stop h' n') (key _ _ (by omega) (fun j hj=>by rw[zac,if_neg (by omega)])) ?_;rintro _ h2 n2 ⟨cont,rfl,hc⟩;have hsp:(![].contains kE)=true:=rfl;cases cont
     ·simp -dsimp only[go_sem,seval];refine⟨?_,?_⟩
      ·simp only[zwg,List.all_cons,List.all_nil,List.getElem?_cons_succ,List.getElem?_cons_zero,sep,AOp.looks,AOp.opds,AOp.wopd,topsL,zay,List.flatMap_cons,List.flatMap_nil];simp -dsimp only[go_sem,seval,V.top];exact hsp
      ·exact⟨false,rfl,g.stp _ _ _ _ hc (by simp -dsimp only[go_sem,seval];omega) fun _ _=>rfl⟩
     ·simp -dsimp only[go_sem,seval,h9];refine⟨?_,?_⟩
      ·simp only[zwg,List.all_cons,List.all_nil,List.getElem?_cons_succ,List.getElem?_cons_zero,sep,AOp.looks,AOp.opds,AOp.wopd,topsL,zay,List.flatMap_cons,List.flatMap_nil];simp -dsimp only[go_sem,seval,V.top];exact hsp
      ·refine⟨by omega,by simp -dsimp only[go_sem,seval,hw];rfl,?_⟩;simp -dsimp only[go_sem,seval];exact g.loc _ _ _ _ _ hc (by omega) fun _ _=>rfl
   ·have hit:i+t=all.length:=by omega
    have hlt1:=eq_false hlt;rw[hit,List.drop_length,combs,List.map_nil,List.nil_append]at hI1;simp -dsimp only[go_sem,seval,h9,hlt1];exact⟨true,rfl,g.loc _ _ _ _ _ hI1 (by simp -dsimp only[go_sem,seval];omega) fun _ _=>rfl⟩
end
end Rg
end
section
namespace Rg
open Go
theorem zf0 (all:List Pl) (size:Nat):Den Γ G 417 [.t (.sl (all.map Pl.enc)),vi size]=some (.t (.fn 425 [] [.ip [ti size],.ip [.sl (all.map Pl.enc)]])):=by
 (refine den_ofY Γ417 rfl ?_;dsimp only[zrk])
 simp -dsimp only[go_sem,seval]
theorem zoQ {ky n size:Nat} {all:List Pl} {Inv:List (List Pl)->(Nat->Option O)->Nat->Prop} {Stop:(Nat->Option O)->Nat->Prop} (g:GenOk n (n+1) ky size all Inv Stop) (hal:all.length<2^20) (hs0:size<2^20) (h:Nat->Option O)
 (hI: ∀h' m,(∀j,j<n->h' j=h j)->h' n=some (.rows 1 [[.yl ky]] false)->h' (n+1)=some (.rows 1 [[.fn 426 [] [.t (.ip [ti size]),.mp n 0 0,.t (.ip [.sl (all.map Pl.enc)]),.mp (n+1) 0 0]]] false)->n+2<=m->Inv (combs size all) h' m):
 ∃r h' n',DenR Γ G 425 [.yl ky,.t (.ip [ti size]),.t (.ip [.sl (all.map Pl.enc)])] h n=some (r,h',n')/\(Inv [] h' n'\/Stop h' n'):=by
 have h0:=hI (updC (updC (updC h (n+0) (some (O.rows 1 [[V.yl ky]] false))) (n+1+0) (some (O.rows 1 [[V.t T.nilf]] false))) (n+1+0) (some (O.rows 1 [[V.fn 426 [] [V.t (T.ip [ti size]),V.mp (n+0) 0 0,V.t (T.ip [T.sl (List.map Pl.enc all)]),V.mp (n+1+0) 0 0]]] false))) (n+1+1+2+2)
  (fun j hj=>by simp only[zac];rw[if_neg (by omega),if_neg (by omega),if_neg (by omega)])
  (by simp only[zac];rw[if_neg (by omega),if_neg (by omega),if_pos (by omega)]) (by simp[zac]) (by omega)
 have key:=zjE g hal hs0 size [] 0 (.t .nils) [] _ _ (by simp) (by omega) (.inr ⟨rfl,rfl⟩) (by
  rw[List.append_nil,List.drop_zero];have:(fun y:List Pl=>[]++y)=id:=by funext y;rfl
  rw[this,List.map_id]
  exact h0)
 (refine denR_ofY Γ425 rfl ?_;dsimp only[zrh])
 simp -dsimp only[go_sem,seval];refine zav (P:=fun r h' n'=> ∃cont,r=vb cont/\if cont then Inv [] h' n' else Stop h' n') key ?_;rintro _ h2 n2 ⟨cont,rfl,hc⟩;cases cont
 ·simp -dsimp only[go_sem,seval];exact .inr (g.stp _ _ _ _ hc (by(try simp -dsimp only[go_sem,seval]);omega) fun _ _=>rfl)
 ·simp -dsimp only[go_sem,seval];exact .inl (g.loc _ _ _ _ _ hc (by(try simp -dsimp only[go_sem,seval]);omega) fun _ _=>rfl)
theorem zeq (p:Prog) (hs:p.sane):Den Γ G 415 [(.agg [.t (.sl ((p).cells.map (Cell.enc))),.t (.sl ((p).modules.map (Contract.enc))),.t (.sl ((p).locks.map (Lock.enc))),.t (.sl ((p).threads.map (Thread.enc)))])]=some (vb (validB p)):=by
 have hv:=zep p hs
 (refine den_ofY Γ415 rfl ?_;dsimp only[zrm])
 simp -dsimp only[go_sem,seval,hv];rfl
theorem znf {x:Thread} {i:Nat} {s:Step} (hs:x.steps[i]? =some s):decide (idxS x.steps s.fr=(i:Int))=isFirst x i:=by
 have hl:=(zH.1 hs).1;have hd:x.steps.getD i default=s:=by simp[List.getD_eq_getElem?_getD,hs]
 by_cases hf:isFirst x i=true
 ·rw[hf,decide_eq_true_eq,idxS,zen (by rw[zJ,hs];rfl)];intro j hj;unfold isFirst at hf;rw[hd]at hf;simp only[decide_eq_true_eq,List.all_eq_true]at hf;have hjl:j<x.steps.length:=by omega
  have:=hf x.steps[j] (List.mem_of_getElem? (show(x.steps.take i)[j]? =some x.steps[j]by rw[List.getElem?_take,if_pos hj];exact zI hjl));rw[zJ,zI hjl];intro he;exact this (Option.some.inj he)
 ·rw[Bool.not_eq_true]at hf;rw[hf,decide_eq_false_iff_not];intro he;obtain⟨j,s',h1,h2,h3⟩:=zlp hs rfl;rw[he]at h1;have hji:j=i:=by omega
  subst hji;unfold isFirst at hf;rw[hd,decide_eq_false_iff_not]at hf;apply hf;rw[List.all_eq_true];intro y hy;obtain⟨q,hq⟩:=List.getElem?_of_mem hy;rw[List.getElem?_take]at hq;split at hq
  ·rename_i hqj;rw[decide_eq_true_eq];intro hfr;unfold idxS idxC at he;split at he
   ·rename_i z hz;rw[List.findIdx?_eq_some_iff_getElem]at hz;obtain⟨_,_,h5⟩:=hz;have:=h5 q (by omega);have hql:=(zH.1 hq)
    simp only[List.getElem_map,decide_eq_true_eq]at this;rw[hql.2]at this;exact this hfr
   ·omega
  ·cases hq
def firN (t:Nat) (x:Thread) (i:Nat):List Pl:=((List.range i).filter (isFirst x)).map fun i=>(t,i)
theorem zhf (t:Nat) (x:Thread) (i:Nat):firN t x (i+1)=firN t x i++if isFirst x i then [(t,i)]else []:=by
 unfold firN;rw[List.range_succ,List.filter_append,List.map_append];cases h:isFirst x i<;>simp[h]
theorem zh4 (t:Nat) (x:Thread) (i:Nat):(firN t x i).length<=i:=by
 unfold firN;rw[List.length_map];exact Nat.le_trans (List.length_filter_le _ _) (by simp)
theorem zdD {p:Prog} (h: ∀x∈p.threads,x.steps.length<=64): ∀k,k<=p.threads.length->(candN p k).length<=64*k
 | 0,_=>by simp[candN]
 | k+1,hk=>by
   obtain⟨x,hx,hxm⟩:=zaf (show k<p.threads.length by omega);have h1:=zdD h k (by omega);have h2:=zh4 k x x.steps.length;have h3:=h x hxm;rw[zdU hx,List.length_append];unfold firN at h2;unfold zlY;omega
theorem zlW (p:Prog) (hp:p.ok):Den Γ G 416 [(.agg [.t (.sl ((p).cells.map (Cell.enc))),.t (.sl ((p).modules.map (Contract.enc))),.t (.sl ((p).locks.map (Lock.enc))),.t (.sl ((p).threads.map (Thread.enc)))])]=some (.t (.sl ((candM p).map Pl.enc))):=by
 obtain⟨⟨b1,b2,b3,b4⟩,b5⟩:=limits_iff.1 (ok_iff.1 hp).lim
 (refine den_ofY Γ416 rfl ?_;dsimp only[zrl])
 simp -dsimp only[go_sem,seval];refine zaj 274877905144 p.threads.length (fun t f h z=>(f 11).v=vi t/\OwnB h z (f 3).v 2 (rwG Pl.enc (candN p t))) rfl ⟨by simp -dsimp only[go_sem,seval],.inl ⟨by simp -dsimp only[go_sem,seval],rfl⟩⟩ ?_;rintro t f u H q bq ht ⟨h11,hO⟩;have hw:=zah t (by omega);simp -dsimp only[go_sem,seval,h11]
 by_cases hlt:t<p.threads.length
 ·have hlt1:=eq_true hlt;obtain⟨x,hx,hxm⟩:=zaf hlt;have hsl:=(b5 x hxm).2.1;have hcn:=zdD (fun x hx=>(b5 x hx).2.1) t (by omega);simp -dsimp only[go_sem,seval,h11,hlt1,hx]
  refine zaj 137438429384 x.steps.length (fun i f h z=>(f 19).v=vi i/\OwnB h z (f 3).v 2 (rwG Pl.enc (candN p t++firN t x i))) rfl
   ⟨by simp -dsimp only[go_sem,seval],by simp -dsimp only[go_sem,seval];rw[show firN t x 0=[]from rfl,List.append_nil];exact hO.le (by omega)⟩ ?_
  rintro i f2 u2 H2 q2 bq2 hi ⟨h19,hO2⟩;have hwi:=zah i (by omega);simp -dsimp only[go_sem,seval,h19]
  by_cases hil:i<x.steps.length
  ·have hil1:=eq_true hil;obtain⟨s,hs,hsm⟩:=zaf hil;have hfd:=zfM x (by omega) s.fr;have hfi:=znf hs;have hsuc:=zhf t x i;have hln:=zh4 t x i;simp -dsimp only[go_sem,seval,h19,hil1,hs,hfd,hfi];cases hb:isFirst x i
   ·rw[hb]at hsuc;simp only[zG,if_false,List.append_nil]at hsuc;simp -dsimp only[go_sem,seval,h19];refine⟨hil,by simp -dsimp only[go_sem,seval,hwi],?_⟩;simp -dsimp only[go_sem,seval];rw[hsuc];exact hO2.le (by omega)
   ·rw[hb]at hsuc;simp only[if_true]at hsuc;replace hO2:=hO2.le (y:=q2+1+6+6) (by omega);have v1:=hO2.valOf;have v2:=hO2.r1;simp -dsimp only[go_sem,seval,h19,h11,v1,v2];refine zas ((hO2.le (y:=q2+1+6+6+4) (by omega)).upd (Nat.le_refl _) _) (by omega) (by rw[zbm,List.length_append];omega) (by decide) rfl (rwG_all _ pl_elen _) ?_;intro v hp hO3 hoffs hkeep;have w1:=hO3.valOf
    replace hO3:=zdQ hO3 (show _=rwG Pl.enc (candN p t++firN t x (i+1))by
     rw[hsuc,<- List.append_assoc,zcf];rfl)
    simp -dsimp only[go_sem,seval,h19,w1];refine⟨hil,by simp -dsimp only[go_sem,seval,hwi],?_⟩;simp -dsimp only[go_sem,seval];exact hO3.le (by omega)
  ·have hil2:i=x.steps.length:=by omega
   have hil1:=eq_false hil;rw[hil2]at hO2;rw[show candN p t++firN t x x.steps.length=candN p (t+1)by rw[zdU hx];rfl]at hO2;simp -dsimp only[go_sem,seval,h19,hil1,h11];refine⟨hlt,by simp -dsimp only[go_sem,seval,hw],?_⟩;simp -dsimp only[go_sem,seval];exact hO2.le (by omega)
 ·have ht2:t=p.threads.length:=by omega
  have hlt1:=eq_false hlt;rw[ht2]at hO;have t0:=hO.reify (rwG_norm _ pl_norm _);have t1:=hO.valOf;have t2:=hO.resVal;simp only[Rg.resVal]at t2;simp -dsimp only[go_sem,seval,h11,hlt1,t1,t2];exact t0
theorem zlk {p:Prog} {B:Nat->Nat->Bool} {y:Thread} (h:y∈(p.ins B).threads): ∃(t:Nat) (x:Thread),p.threads[t]? =some x/\y=x.ins (B t):=by
 unfold Prog.ins at h;obtain⟨t,ht,he⟩:=List.mem_mapIdx.1 h;exact⟨t,_,zI ht,he.symm⟩
theorem zh7 (b:Nat->Bool) (n:Nat):(fencedL b n).length=cntB b n:=rfl
theorem zha {b:Nat->Bool} {x:Thread} {s:Step} (h:s∈(x.ins b).steps):(∃s0∈x.steps,s=s0.ins b)\/ ∃f∈fencedL b x.points.toNat,s=fenceS b x f:=by
 unfold Thread.ins at h;rcases List.mem_append.1 h with h | h
 ·obtain⟨s0,h1,rfl⟩:=List.mem_map.1 h;exact .inl ⟨s0,h1,rfl⟩
 ·obtain⟨f,h1,rfl⟩:=List.mem_map.1 h;exact .inr ⟨f,h1,rfl⟩
theorem ins_set {p:Prog} (hset: ∀x∈p.threads,∀s∈x.steps,s.set.length<2^20) (B:Nat->Nat->Bool): ∀x∈(p.ins B).threads,∀s∈x.steps,s.set.length<2^20:=by
 intro y hy s hs;obtain⟨t,x,hx,rfl⟩:=zlk hy;rcases zha hs with⟨s0,h0,rfl⟩ | ⟨f,_,rfl⟩
 ·exact hset x (List.mem_of_getElem? hx) s0 h0
 ·simp[fenceS]
theorem ins_sane {p:Prog} (hp:p.ok) (hs:p.sane) (B:Nat->Nat->Bool):(p.ins B).sane:=by
 obtain⟨s1,s2,s3,s4,s5,s6,s7,s8,s9⟩:=hs
 have key: ∀y∈(p.ins B).threads,∃(t:Nat) (x:Thread),p.threads[t]? =some x/\x∈p.threads/\y=x.ins (B t)/\x.asserts.length=x.points.toNat/\x.modules.length=x.points.toNat/\(1<=x.points/\x.points<=48)/\x.steps.length<=64/\x.loops.length<=8:=fun y hy=>by
  obtain⟨t,x,hx,he⟩:=zlk hy;obtain⟨h1,h2,h3,h4,h5⟩:=ziN hp hx;exact⟨t,x,hx,List.mem_of_getElem? hx,he,h1,h2,h3,h4,h5⟩
 refine⟨s1,s2,s3,?_,s5,s6,?_,?_,?_⟩
 ·show(p.threads.mapIdx _).length<_;rw[List.length_mapIdx];exact s4
 ·intro y hy;obtain⟨t,x,hx,hxm,rfl,h1,h2,h3,h4,h5⟩:=key y hy;have c1:=zcJ (B t) x.points.toNat;have n1:(dupL (B t) x.asserts).length=_:=ze3 _ _;have n2:(dupL (B t) x.modules).length=_:=ze3 _ _;rw[h1]at n1;rw[h2]at n2;unfold newB at n1 n2;refine⟨(s7 x hxm).1,?_,?_,?_,?_⟩
  ·show(dupL (B t) x.asserts).length<_;omega
  ·show(dupL (B t) x.modules).length<_;omega
  ·show(x.steps.map (Step.ins (B t))++(fencedL (B t) x.points.toNat).map (fenceS (B t) x)).length<_;rw[List.length_append,List.length_map,List.length_map,zh7];omega
  ·show(x.loops.map (Loop.ins (B t) x.points.toNat)).length<_;rw[List.length_map];omega
 ·intro y hy s hs;obtain⟨t,x,hx,hxm,rfl,_⟩:=key y hy;rcases zha hs with⟨s0,h0,rfl⟩ | ⟨f,_,rfl⟩
  ·exact s8 x hxm s0 h0
  ·simp[fenceS]
 ·intro y hy l hl;obtain⟨t,x,hx,hxm,rfl,h1,h2,h3,h4,h5⟩:=key y hy;obtain⟨l0,h0,rfl⟩:=List.mem_map.1 (show l∈x.loops.map (Loop.ins (B t) x.points.toNat)from hl);show(loopBN (B t) l0 x.points.toNat).length<_;have:=zdS (B t) l0 x.points.toNat;omega
theorem zer (p:Prog) (k:Nat):trials p (k+1)=trials p k++combs k (candM p):=by
 unfold trials;rw[List.range_succ,List.flatMap_append];simp
theorem zi0 {α:Type} {P:α->Bool} {a b:List α} (h:a.find? P=none):(a++b).find? P=b.find? P:=by
 rw[List.find?_append,h];rfl
def minR (p:Prog) (m:Int):V:=
 if validB p&&(m==0||m==1||m==2)then .tup [.t (.sl (((minM p m).getD []).map Pl.enc)),vi (if(minM p m).isSome then 0 else 310)]else .tup [.t (.sl []),vi 1]
structure MinV (p:Prog) (m:Int) (env:Nat->V) (ky k2 k3 k7 k8:Nat) (h:Nat->Option O) (n:Nat):Prop where
 e2:env 2= .mp k2 0 0
 e3:env 3= .mp k3 0 0
 e7:env 7= .mp k7 0 0
 e8:env 8= .mp k8 0 0
 hy:h ky=some (.loop env [36] zc8 .ready)
 h2:h k2=some (.rows 4 [[.t (.sl (p.cells.map Cell.enc)),.t (.sl (p.modules.map Contract.enc)),.t (.sl (p.locks.map Lock.enc)),.t (.sl (p.threads.map Thread.enc))]] false)
 h3:h k3=some (.rows 1 [[vi m]] false)
 h7:h k7=some (.rows 1 [[.t .nils]] false)
 h8:h k8=some (.rows 1 [[vi 310]] false)
 ly:ky<n
 l2:k2<ky
 l3:k3<ky
 l7:k7<ky
 l8:k8<ky
 d:k7≠k8
theorem MinV.loc {p:Prog} {m:Int} {env:Nat->V} {ky k2 k3 k7 k8:Nat} {h h':Nat->Option O} {n n':Nat} (H:MinV p m env ky k2 k3 k7 k8 h n) (hn:n<=n') (hj: ∀j,j<n->h' j=h j):MinV p m env ky k2 k3 k7 k8 h' n':=by
 obtain⟨e2,e3,e7,e8,hy,h2,h3,h7,h8,ly,l2,l3,l7,l8,d⟩:=H;exact⟨e2,e3,e7,e8,by rw[hj _ (by omega)];exact hy,by rw[hj _ (by omega)];exact h2,by rw[hj _ (by omega)];exact h3,by rw[hj _ (by omega)];exact h7,by rw[hj _ (by omega)];exact h8,by omega,l2,l3,l7,l8,d⟩
theorem zih (s:List Pl) (h:s.length<2^30):Den Γ G 419 [.t (.sl (s.map Pl.enc))]=some (.t (.sl (s.map Pl.enc))):=by
 refine zlP Γ419 rfl rfl ?_;unfold zwd;simp only;rw[if_pos ⟨by simp;omega,by simp[Pl.enc]⟩]
set_option maxHeartbeats 4000000
theorem zpP (p:Prog) (hp:p.ok) (hs:p.sane) (he:p.smE) (hset: ∀x∈p.threads,∀s∈x.steps,s.set.length<2^20) {m:Int} {env:Nat->V} {ky k2 k3 k7 k8:Nat} {h:Nat->Option O} {n:Nat} (H:MinV p m env ky k2 k3 k7 k8 h n)
 {s:List Pl} (hsl:s.length<2^20) (hpl: ∀x∈s,znZ p x) {v:V} (hv:zo9 v s):
 ∃h' n',DenY Γ G ky [v] h n=some (vb (!goodSet p m s),h',n')/\(if goodSet p m s then h' ky=some (.loop env [36] zc8 (.done (.exit 0)))/\h' k7=some (.rows 1 [[.t (.sl (s.map Pl.enc))]] false)/\h' k8=some (.rows 1 [[vi 0]] false)/\ky<n'
  else h' ky=some (.loop env [36] zc8 .ready)/\(∀j,j≠ky->h' j=h j)/\n<=n'):=by
 have hins:=zfH p hp he s hsl hpl;have hrob:=zcT (p.ins (ptB p s)) (ins_sane hp hs _) (ins_set hset _) m;have hclo:=zih s (by omega);have H0:=H;obtain⟨e2,e3,e7,e8,hy,h2,h3,h7,h8,ly,l2,l3,l7,l8,d⟩:=H;have c2:k2≠ky:=by omega
 have c3:k3≠ky:=by omega
 have c7:k7≠ky:=by omega
 have c8:k8≠ky:=by omega
 have d7:ky≠k7:=by omega
 have d9:k8≠k7:=d.symm;have d8:ky≠k8:=by omega
 have hg:goodSet p m s=(!zhW (ptB p s) p&&robM (p.ins (ptB p s)) m):=rfl
 have:=zoY (Γ:=Γ) (G:=G) (vs:=[v]) (n:=n) (P:=fun ex h' n'=>h' ky=some (.loop env [36] zc8 .busy)/\n<=n'/\(if goodSet p m s then ex= .exit 0/\h' k7=some (.rows 1 [[.t (.sl (s.map Pl.enc))]] false)/\h' k8=some (.rows 1 [[vi 0]] false)
  else ex= .normal/\ ∀j,j≠ky->h' j=h j)) hy rfl (fun ex h' n' hP=>⟨_,_,_,hP.1⟩) (by
  cases hL:zhW (ptB p s) p
  ·rw[show insM p s=(p.ins (ptB p s),0)by rw[insM,hL];rfl]at hins;cases hR:robM (p.ins (ptB p s)) m
   ·rw[hL,hR]at hg;rw[hR]at hrob;rw[hg];rcases hv with rfl | ⟨rfl,rfl⟩
    ·simp -dsimp only[go_sem,seval,e2,h2,c2,hins,e3,h3,c3,hrob];refine⟨by simp -dsimp only[go_sem,seval];rfl,by simp -dsimp only[go_sem,seval];omega,?_⟩;rw[if_neg (by simp)];exact⟨rfl,fun j u=>by simp -dsimp only[go_sem,seval,u]⟩
    ·simp only[List.map_nil]at hins;simp -dsimp only[go_sem,seval,e2,h2,c2,hins,e3,h3,c3,hrob];refine⟨by simp -dsimp only[go_sem,seval];rfl,by simp -dsimp only[go_sem,seval];omega,?_⟩;rw[if_neg (by simp)];exact⟨rfl,fun j u=>by simp -dsimp only[go_sem,seval,u]⟩
   ·rw[hL,hR]at hg;rw[hR]at hrob;rw[hg];rcases hv with rfl | ⟨rfl,rfl⟩
    ·simp -dsimp only[go_sem,seval,e2,h2,c2,hins,e3,h3,c3,hrob,hclo,e7,h7,c7,e8,h8,c8,d,d7,d8,d9];refine⟨by simp -dsimp only[go_sem,seval,d7,d8];rfl,by simp -dsimp only[go_sem,seval];omega,?_⟩;rw[if_pos (by simp)];exact⟨rfl,by simp -dsimp only[go_sem,seval,d,d7,d8,c7,c8],by simp -dsimp only[go_sem,seval,d,d7,d8,c7,c8]⟩
    ·simp only[List.map_nil]at hins hclo;simp -dsimp only[go_sem,seval,e2,h2,c2,hins,e3,h3,c3,hrob,hclo,e7,h7,c7,e8,h8,c8,d,d7,d8,d9];refine⟨by simp -dsimp only[go_sem,seval,d7,d8];rfl,by simp -dsimp only[go_sem,seval];omega,?_⟩;rw[if_pos (by simp)];exact⟨rfl,by simp -dsimp only[go_sem,seval,d,d7,d8,c7,c8],by simp -dsimp only[go_sem,seval,d,d7,d8,c7,c8]⟩
  ·rw[show insM p s=(zeroP,2)by rw[insM,hL];rfl]at hins;rw[hL]at hg;rw[hg];rcases hv with rfl | ⟨rfl,rfl⟩
   ·simp -dsimp only[go_sem,seval,e2,h2,c2,hins];refine⟨by simp -dsimp only[go_sem,seval];rfl,by simp -dsimp only[go_sem,seval];omega,?_⟩;rw[if_neg (by simp)];exact⟨rfl,fun j u=>by simp -dsimp only[go_sem,seval,u]⟩
   ·simp only[List.map_nil]at hins;simp -dsimp only[go_sem,seval,e2,h2,c2,hins];refine⟨by simp -dsimp only[go_sem,seval];rfl,by simp -dsimp only[go_sem,seval];omega,?_⟩;rw[if_neg (by simp)]
    exact⟨rfl,fun j u=>by simp -dsimp only[go_sem,seval,u]⟩)
 obtain⟨ex,h',n',⟨q1,q2,q3⟩,env',ps',bd',q6,q7⟩:=this;rw[q1]at q6;simp only[zA,O.loop.injEq]at q6;obtain⟨rfl,rfl,rfl,_⟩:=q6;cases hG:goodSet p m s
 ·rw[hG,if_neg (by simp)]at q3;obtain⟨rfl,q4⟩:=q3;exact⟨_,n',q7,by rw[if_neg (by simp)];exact⟨by rw[zac,if_pos rfl];rfl,fun j hj=>by rw[zac,if_neg hj];exact q4 j hj,q2⟩⟩
 ·rw[hG,if_pos rfl]at q3;obtain⟨rfl,q4,q5⟩:=q3;exact⟨_,n',q7,by rw[if_pos rfl];exact⟨by rw[zac,if_pos rfl];rfl,by rw[zac,if_neg c7];exact q4,by rw[zac,if_neg c8];exact q5,by omega⟩⟩
theorem trials_len {p:Prog} {i:Nat} {s:List Pl} (h:s∈combs i (candM p)):s.Sublist (candM p)/\s.length=i:=(combs_mem i _ _).1 h
theorem zkE (p:Prog) (hp:p.ok) (hs:p.sane) (he:p.smE) (hset: ∀x∈p.threads,∀s∈x.steps,s.set.length<2^20) {m:Int} {env:Nat->V} {ky k2 k3 k7 k8:Nat} {h:Nat->Option O} (H:MinV p m env ky k2 k3 k7 k8 h (ky+1)) {i:Nat} (hi:i<5)
 (htr:(trials p i).find? (goodSet p m)=none):
 ∃r h' n',DenR Γ G 425 [.yl ky,.t (.ip [ti i]),.t (.ip [.sl ((candM p).map Pl.enc)])] h (ky+1)=some (r,h',n')/\
  ((MinV p m env ky k2 k3 k7 k8 h' n'/\(trials p (i+1)).find? (goodSet p m)=none)\/
   (h' ky=some (.loop env [36] zc8 (.done (.exit 0)))/\ ∃s,minM p m=some s/\h' k7=some (.rows 1 [[.t (.sl (s.map Pl.enc))]] false)/\h' k8=some (.rows 1 [[vi 0]] false))):=by
 obtain⟨⟨b1,b2,b3,b4⟩,b5⟩:=limits_iff.1 (ok_iff.1 hp).lim
 have hcl:(candM p).length<=256:=by
  have:=zdD (fun x hx=>(b5 x hx).2.1) p.threads.length (Nat.le_refl _);unfold candM;omega
 let Inv:List (List Pl)->(Nat->Option O)->Nat->Prop:=fun ls h' n'=>MinV p m env ky k2 k3 k7 k8 h' n'/\h' (ky+1)=some (.rows 1 [[.yl ky]] false)/\h' (ky+1+1)=some (.rows 1 [[.fn 426 [] [.t (.ip [ti i]),.mp (ky+1) 0 0,.t (.ip [.sl ((candM p).map Pl.enc)]),.mp (ky+1+1) 0 0]]] false)/\ky+1+2<=n'/\
  (∀s∈ls,s.Sublist (candM p))/\(combs i (candM p)).find? (goodSet p m)=ls.find? (goodSet p m)
 let Stop:(Nat->Option O)->Nat->Prop:=fun h' n'=>h' ky=some (.loop env [36] zc8 (.done (.exit 0)))/\ky<n'/\ ∃s,(combs i (candM p)).find? (goodSet p m)=some s/\h' k7=some (.rows 1 [[.t (.sl (s.map Pl.enc))]] false)/\h' k8=some (.rows 1 [[vi 0]] false)
 have g:GenOk (ky+1) (ky+1+1) ky i (candM p) Inv Stop:=by
  refine⟨?_,?_,?_,?_⟩
  ·rintro ls h' n' ⟨i1,i2,i3,i4,_⟩;exact⟨i2,i3,by omega,by omega⟩
  ·rintro ls h' h2 n' n2 ⟨i1,i2,i3,i4,i5,i6⟩ hn hj;exact⟨i1.loc hn hj,by rw[hj _ (by omega)];exact i2,by rw[hj _ (by omega)];exact i3,by omega,i5,i6⟩
  ·rintro h' h2 n' n2 ⟨i1,i2,s,i3,i4,i5⟩ hn hj;have:=H.l7;have:=H.l8;exact⟨by rw[hj _ i2];exact i1,by omega,s,i3,by rw[hj _ (by omega)];exact i4,by rw[hj _ (by omega)];exact i5⟩
  ·rintro s ls h' n' v ⟨i1,i2,i3,i4,i5,i6⟩ hv;have hsub:=i5 s (by simp);obtain⟨h2,n2,r1,r2⟩:=zpP p hp hs he hset i1 (Nat.lt_of_le_of_lt hsub.length_le (by omega)) (fun x hx=>zlX (hsub.subset hx)) hv;refine⟨_,h2,n2,r1,?_⟩;rw[List.find?_cons]at i6;cases hG:goodSet p m s
   ·rw[hG]at r2 i6;simp only[zG,if_false]at r2;obtain⟨r3,r4,r5⟩:=r2;simp only[Bool.not_false,if_true];have l1:=i1.ly;have l2:=i1.l2;have l3:=i1.l3;have l7:=i1.l7;have l8:=i1.l8
    exact⟨⟨i1.e2,i1.e3,i1.e7,i1.e8,r3,by rw[r4 _ (by omega)];exact i1.h2,by rw[r4 _ (by omega)];exact i1.h3,by rw[r4 _ (by omega)];exact i1.h7,by rw[r4 _ (by omega)];exact i1.h8,by omega,l2,l3,l7,l8,i1.d⟩,
     by rw[r4 _ (by omega)];exact i2,by rw[r4 _ (by omega)];exact i3,by omega,fun s hs=>i5 s (by simp[hs]),i6⟩
   ·rw[hG]at r2 i6;simp only[if_true]at r2;obtain⟨r3,r4,r5,r6⟩:=r2;simp only[Bool.not_true,zG,if_false];exact⟨r3,r6,s,i6,r4,r5⟩
 obtain⟨r,h',n',r1,r2⟩:=zoQ g (by omega) (by omega) h (fun h2 n2 hj h1 h3 hn=>by
  have hl:=H.loc (n':=n2) (by omega) hj
  exact⟨hl,h1,h3,hn,fun s hs=>(trials_len hs).1,rfl⟩)
 refine⟨r,h',n',r1,?_⟩;rcases r2 with⟨i1,i2,i3,i4,i5,i6⟩ | ⟨i1,i2,s,i3,i4,i5⟩
 ·refine .inl ⟨i1,?_⟩;rw[zer,zi0 htr,i6];rfl
 ·refine .inr ⟨i1,s,?_,i4,i5⟩
  have h5:trials p 5=trials p (i+1)++(List.range' (i+1) (5-(i+1))).flatMap fun i=>combs i (candM p):=by
   unfold trials;rw[<- List.flatMap_append,List.range_eq_range',List.range_eq_range',show 5=(i+1)+(5-(i+1))by omega,<- List.range'_append_1];simp
  unfold minM;rw[h5,List.find?_append,zer,zi0 htr,i3];rfl
set_option maxHeartbeats 4000000
theorem zcj (p:Prog) (hs:p.sane) (he:p.smE) (hset: ∀x∈p.threads,∀s∈x.steps,s.set.length<2^20) (m:Int):Den Γ G 403 [(.agg [.t (.sl ((p).cells.map (Cell.enc))),.t (.sl ((p).modules.map (Contract.enc))),.t (.sl ((p).locks.map (Lock.enc))),.t (.sl ((p).threads.map (Thread.enc)))]),vi m]=some (minR p m):=by
 have hv:=zeq p hs
 (refine den_ofY Γ403 rfl ?_;dsimp only[zrr])
 simp -dsimp only[go_sem,seval,hv];cases h:validB p
 ·rw[show minR p m= .tup [.t (.sl []),vi 1]by unfold minR;rw[h];rfl];simp -dsimp only[go_sem,seval]
 ·have hp:p.ok:=by simpa[validB]using h
  have hc:=zlW p hp
  by_cases hm:m=0\/m=1\/m=2
  ·have hR:minR p m= .tup [.t (.sl (((minM p m).getD []).map Pl.enc)),vi (if(minM p m).isSome then 0 else 310)]:=by
    unfold minR;rw[h,show(m==0||m==1||m==2)=true by rcases hm with rfl | rfl | rfl<;>rfl];rfl
   rw[hR];clear hR
   have he3:((m=0)=True/\(m=1)=False/\(m=2)=False)\/((m=0)=False/\(m=1)=True/\(m=2)=False)\/((m=0)=False/\(m=1)=False/\(m=2)=True):=by
    rcases hm with rfl | rfl | rfl<;>simp
   rcases he3 with⟨e0,e1,e2⟩ | ⟨e0,e1,e2⟩ | ⟨e0,e1,e2⟩
   all_goals
    simp -dsimp only[go_sem,seval,e0,e1,e2,hc]
    refine zaj 4503667273105920 5 (fun i f h z=>(f 30).v=vi i/\(h 0=some (.rows 4 [[.t (.sl (p.cells.map Cell.enc)),.t (.sl (p.modules.map Contract.enc)),.t (.sl (p.locks.map Lock.enc)),.t (.sl (p.threads.map Thread.enc))]] false)/\h 1=some (.rows 1 [[vi m]] false)/\h 22=some (.rows 1 [[.t .nils]] false)/\h 23=some (.rows 1 [[vi 310]] false))/\24<=z/\(trials p i).find? (goodSet p m)=none) rfl
     ⟨by simp -dsimp only[go_sem,seval],⟨by simp -dsimp only[go_sem,seval],by simp -dsimp only[go_sem,seval],by simp -dsimp only[go_sem,seval],by simp -dsimp only[go_sem,seval]⟩,by simp -dsimp only[go_sem,seval],rfl⟩ ?_
    rintro i f u H q bq hi ⟨h30,⟨g0,g1,g2,g3⟩,hq,htr⟩;have hw:=zah i (by omega);simp -dsimp only[go_sem,seval,h30]
    by_cases hlt:i<5
    ·have hlt1:((i:Int)<5)=True:=eq_true (by omega);have hsts:=zf0 (candM p) i;simp -dsimp only[go_sem,seval,h30,hlt1,hsts]
     refine zhH (P:=fun e h' n'=>(e= .normal/\(h' 0=some (.rows 4 [[.t (.sl (p.cells.map Cell.enc)),.t (.sl (p.modules.map Contract.enc)),.t (.sl (p.locks.map Lock.enc)),.t (.sl (p.threads.map Thread.enc))]] false)/\h' 1=some (.rows 1 [[vi m]] false)/\h' 22=some (.rows 1 [[.t .nils]] false)/\h' 23=some (.rows 1 [[vi 310]] false))/\24<=n'/\(trials p (i+1)).find? (goodSet p m)=none)\/
      (e= .exit 0/\ ∃s,minM p m=some s/\h' 22=some (.rows 1 [[.t (.sl (s.map Pl.enc))]] false)/\h' 23=some (.rows 1 [[vi 0]] false))) ?_ ?_
     ·generalize hE:envC _=env
      have e2:=congrFun hE 2;have e3:=congrFun hE 3;have e7:=congrFun hE 7;have e8:=congrFun hE 8;clear hE;simp -dsimp only[go_sem,seval]at e2 e3 e7 e8
      obtain⟨r,h',n',r1,r2⟩:=zkE p hp hs he hset (m:=m) (env:=env) (ky:=q+1+2+3) (k2:=0) (k3:=1) (k7:=22) (k8:=23) (h:=updC H (q+1+2+3) (some (.loop env [36] zc8 .ready)))
       ⟨e2.symm,e3.symm,e7.symm,e8.symm,by rw[zac,if_pos rfl],by rw[zac,if_neg (by omega)];exact g0,by rw[zac,if_neg (by omega)];exact g1,by rw[zac,if_neg (by omega)];exact g2,by rw[zac,if_neg (by omega)];exact g3,by omega,by omega,by omega,by omega,by omega,by omega⟩ hlt htr
      refine⟨r,h',n',r1,?_⟩;rcases r2 with⟨i1,i2⟩ | ⟨i1,i2⟩
      ·exact⟨env,_,_,_,.normal,i1.hy,rfl,.inl ⟨rfl,⟨i1.h2,i1.h3,i1.h7,i1.h8⟩,by have:=i1.ly;omega,i2⟩⟩
      ·exact⟨env,_,_,_,.exit 0,i1,rfl,.inr ⟨rfl,i2⟩⟩
     ·have n0:0≠q+1+2+3:=by omega
      have n1:1≠q+1+2+3:=by omega
      have n2:22≠q+1+2+3:=by omega
      have n3:23≠q+1+2+3:=by omega
      rintro e h' n' (⟨rfl,⟨g0,g1,g2,g3⟩,g4,g5⟩ | ⟨rfl,s,g4,g5,g6⟩)
      ·simp -dsimp only[go_sem,seval,h30];refine⟨hlt,by simp -dsimp only[go_sem,seval,hw],⟨by simp -dsimp only[go_sem,seval,n0];exact g0,by simp -dsimp only[go_sem,seval,n1];exact g1,by simp -dsimp only[go_sem,seval,n2];exact g2,by simp -dsimp only[go_sem,seval,n3];exact g3⟩,by simp -dsimp only[go_sem,seval];omega,g5⟩
      ·rw[g4];simp -dsimp only[go_sem,seval,n2,n3,g5,g6];rfl
    ·have hi5:i=5:=by omega
     subst hi5;rw[show minM p m=none from htr];simp -dsimp only[go_sem,seval,h30,g2,g3];exact⟨rfl,rfl⟩
  ·have m0: ¬m=0:=by omega
   have m1: ¬m=1:=by omega
   have m2: ¬m=2:=by omega
   rw[show minR p m= .tup [.t (.sl []),vi 1]by
    unfold minR
    rw[show(m==0||m==1||m==2)=false by simp only[Bool.or_eq_false_iff,beq_eq_false_iff_ne];omega,Bool.and_false];rfl]
   simp -dsimp only[go_sem,seval,m0,m1,m2]
end Rg
end
section
namespace Rg
open Go
def formedM (p:Prog):Bool:=decide ((validM p).1=0)
theorem zh2 (p:Prog) (hs:p.sane):Den Γ G 39 [(.agg [.t (.sl ((p).cells.map (Cell.enc))),.t (.sl ((p).modules.map (Contract.enc))),.t (.sl ((p).locks.map (Lock.enc))),.t (.sl ((p).threads.map (Thread.enc)))])]=some (vb (formedM p)):=by
 (refine den_ofY Γ39 rfl ?_;dsimp only[f39])
 have h1:=zjf p hs;simp -dsimp only[go_sem,seval,h1];rfl
def zoU (a:Assign):Bool:=decide ((a.to.size:Int)<=30)
def zlz (s:Step):Bool:=decide ((s.guard.size:Int)<=30)&&decide ((s.set.length:Int)<=8)&&s.set.all zoU
def zme (l:Loop):Bool:=decide ((l.variant.size:Int)<=30)&&decide ((l.body.length:Int)<=48)
def zb5 (e:Expr):Bool:=decide ((e.size:Int)<=60)
def fewT (x:Thread):Bool:=x.steps.all zlz&&x.asserts.all zb5&&x.loops.all zme
theorem zoT (x:Thread) (h1:x.steps.length<2^40) (h2:x.asserts.length<2^40) (h3:x.loops.length<2^40):Den Γ G 36 [(.agg [.t (.str (x).name),.t (ti (x).points),.t (.sl ((x).asserts.map Expr.enc)),.t (ints (x).modules),.t (.sl ((x).steps.map Step.enc)),.t (.sl ((x).loops.map Loop.enc)),.t (tb (x).asleep)])]=some (vb (fewT x)):=by
 (refine den_ofY Γ36 rfl ?_;dsimp only[f36])
 simp -dsimp only[go_sem,seval];refine zaz 36028797018963868 x.steps.length (fun i f=>(f 3).v=vi i/\x.steps.all zlz=(x.steps.drop i).all zlz) rfl rfl ⟨by simp -dsimp only[go_sem,seval],rfl⟩ ?_;rintro i f u kk bb hi ⟨h3',hall⟩;have hw:=zah i (by omega);simp -dsimp only[go_sem,seval,h3'];refine csplit (fun h=> ?_) (fun h=> ?_)<;>(try rw[h])<;>(try simp only[zab]at h)<;>(try simp -dsimp only[go_sem,seval,h3'])
 ·obtain⟨s,hs,hsm⟩:=zaf ‹i<x.steps.length›;have hg:=zbF s.guard 30 (by omega);have hno:zlz s=false->false=fewT x:=fun h0=>by rw[fewT,hall,zaM hs h0];rfl
  simp -dsimp only[go_sem,seval,h3',hs,hg];refine csplit (fun h=> ?_) (fun h=> ?_)<;>(try rw[h])<;>(try simp only[zab]at h)<;>(try simp -dsimp only[go_sem,seval,h3',hs])
  ·exact hno (by simp[zlz];omega)
  ·have e1:(s.guard.size:Int)<=30:=by assumption
   refine csplit (fun h=> ?_) (fun h=> ?_)<;>(try rw[h])<;>(try simp only[zab]at h)<;>(try simp -dsimp only[go_sem,seval,h3'])
   ·exact hno (by simp[zlz];omega)
   ·have e2:(s.set.length:Int)<=8:=by omega
    refine zaz 36028792723996692 s.set.length (fun k f'=>(f' 4).v=vi k/\s.set.all zoU=(s.set.drop k).all zoU) rfl rfl ⟨by simp -dsimp only[go_sem,seval],rfl⟩ ?_;rintro k f' u' kk' bb' hk ⟨h4,hall2⟩;have hw':=zah k (by omega);simp -dsimp only[go_sem,seval,h3',h4,hs];refine csplit (fun h=> ?_) (fun h=> ?_)<;>(try rw[h])<;>(try simp only[zab]at h)<;>(try simp -dsimp only[go_sem,seval,h3',h4])
    ·obtain⟨a,ha,ham⟩:=zaf ‹k<s.set.length›;have hga:=zbF a.to 30 (by omega);simp -dsimp only[go_sem,seval,h3',h4,hs,ha,hga];refine csplit (fun h=> ?_) (fun h=> ?_)<;>(try rw[h])<;>(try simp only[zab]at h)<;>(try simp -dsimp only[go_sem,seval,h3',h4])
     ·exact hno (by rw[zlz,hall2,zaM ha (by simp[zoU];omega)];simp)
     ·refine⟨by omega,by simp -dsimp only[go_sem,seval,hw'],?_⟩;rw[hall2,zaN ha (by simp[zoU];omega)]
    ·have:k=s.set.length:=by omega
     subst this;rw[za0]at hall2;refine⟨by omega,by simp -dsimp only[go_sem,seval,hw],?_⟩;rw[hall,zaN hs (by rw[zlz,hall2];simp;omega)]
 ·have:i=x.steps.length:=by omega
  subst this;rw[za0]at hall;clear h3' hw;refine zaz 590259781561686687780 x.asserts.length (fun i f=>(f 5).v=vi i/\x.asserts.all zb5=(x.asserts.drop i).all zb5) rfl rfl ⟨by simp -dsimp only[go_sem,seval],rfl⟩ ?_;rintro i f u kk bb hi ⟨h5,hall2⟩;have hw:=zah i (by omega);simp -dsimp only[go_sem,seval,h5];refine csplit (fun h=> ?_) (fun h=> ?_)<;>(try rw[h])<;>(try simp only[zab]at h)<;>(try simp -dsimp only[go_sem,seval,h5])
  ·obtain⟨e,he,_⟩:=zaf ‹i<x.asserts.length›;have hg:=zbF e 60 (by omega);simp -dsimp only[go_sem,seval,h5,he,hg];refine csplit (fun h=> ?_) (fun h=> ?_)<;>(try rw[h])<;>(try simp only[zab]at h)<;>(try simp -dsimp only[go_sem,seval,h5])
   ·rw[fewT,hall,hall2,zaM he (by simp[zb5];omega)];rfl
   ·refine⟨by omega,by simp -dsimp only[go_sem,seval,hw],?_⟩;rw[hall2,zaN he (by simp[zb5];omega)]
  ·have:i=x.asserts.length:=by omega
   subst this;rw[za0]at hall2;clear h5 hw;refine zaz 19807040038270274039680335940 x.loops.length (fun i f=>(f 6).v=vi i/\x.loops.all zme=(x.loops.drop i).all zme) rfl rfl ⟨by simp -dsimp only[go_sem,seval],rfl⟩ ?_;rintro i f u kk bb hi ⟨h6,hall3⟩;have hw:=zah i (by omega);simp -dsimp only[go_sem,seval,h6];refine csplit (fun h=> ?_) (fun h=> ?_)<;>(try rw[h])<;>(try simp only[zab]at h)<;>(try simp -dsimp only[go_sem,seval,h6])
   ·obtain⟨l,hl,_⟩:=zaf ‹i<x.loops.length›;have hg:=zbF l.variant 30 (by omega);have hno:zme l=false->false=fewT x:=fun h0=>by rw[fewT,hall,hall2,hall3,zaM hl h0];rfl
    simp -dsimp only[go_sem,seval,h6,hl,hg];refine csplit (fun h=> ?_) (fun h=> ?_)<;>(try rw[h])<;>(try simp only[zab]at h)<;>(try simp -dsimp only[go_sem,seval,h6,hl])
    ·exact hno (by simp[zme];omega)
    ·have e1:(l.variant.size:Int)<=30:=by assumption
     refine csplit (fun h=> ?_) (fun h=> ?_)<;>(try rw[h])<;>(try simp only[zab]at h)<;>(try simp -dsimp only[go_sem,seval,h6])
     ·exact hno (by simp[zme];omega)
     ·refine⟨by omega,by simp -dsimp only[go_sem,seval,hw],?_⟩;rw[hall3,zaN hl (by simp[zme];omega)]
   ·have:i=x.loops.length:=by omega
    subst this;rw[za0]at hall3;rw[fewT,hall,hall2,hall3];rfl
def fewGo:Int->List Thread->Bool
 | _,[]=>true
 | n,x::r=>if n+x.steps.length>24\/(x.asserts.length:Int)>48\/(x.modules.length:Int)>48\/(x.loops.length:Int)>8\/fewT x=false then false else fewGo (n+x.steps.length) r
def zlA (m:Contract):Bool:=zb5 m.rely&&zb5 m.guar&&decide ((m.frame.length:Int)<=32)
def fewM (p:Prog):Bool:=
 decide ((p.cells.length:Int)<=32)&&decide ((p.threads.length:Int)<=4)&&decide ((p.modules.length:Int)<=6)&&decide ((p.locks.length:Int)<=4)&&
  fewGo 0 p.threads&&p.modules.all zlA&&p.locks.all fun l=>zb5 l.inv
theorem zni (p:Prog) (hb: ∀x∈p.threads,x.steps.length<2^50):Den Γ G 9 [(.agg [.t (.sl ((p).cells.map (Cell.enc))),.t (.sl ((p).modules.map (Contract.enc))),.t (.sl ((p).locks.map (Lock.enc))),.t (.sl ((p).threads.map (Thread.enc)))])]=some (vb (fewM p)):=by
 (refine den_ofY Γ9 rfl ?_;dsimp only[f9])
 simp -dsimp only[go_sem,seval]
 by_cases hl:(p.cells.length:Int)<=32/\(p.threads.length:Int)<=4/\(p.modules.length:Int)<=6/\(p.locks.length:Int)<=4
 ·obtain⟨l1,l2,l3,l4⟩:=hl;have g1: ¬(p.cells.length:Int)>32:=by omega
  have g2: ¬(p.threads.length:Int)>4:=by omega
  have g3: ¬(p.modules.length:Int)>6:=by omega
  have g4: ¬(p.locks.length:Int)>4:=by omega
  have hF:fewM p=(fewGo 0 p.threads&&p.modules.all zlA&&p.locks.all fun l=>zb5 l.inv):=by simp[fewM,l1,l2,l3,l4]
  simp -dsimp only[go_sem,seval,g1,g2,g3,g4];refine zaz 4722366482868571471932 p.threads.length (fun i f=>(f 4).v=vi i/\ ∃n:Int,0<=n/\n<=24/\(f 3).v=vi n/\fewGo 0 p.threads=fewGo n (p.threads.drop i)) rfl rfl ⟨by simp -dsimp only[go_sem,seval],0,by omega,by omega,by simp -dsimp only[go_sem,seval],rfl⟩ ?_;rintro i f u kk bb hi ⟨h4,n,n0,n1,h3,hgo⟩;have hw:=zah i (by omega);simp -dsimp only[go_sem,seval,h4];refine csplit (fun h=> ?_) (fun h=> ?_)<;>(try rw[h])<;>(try simp only[zab]at h)<;>(try simp -dsimp only[go_sem,seval,h4])
  ·obtain⟨x,hx,hxm⟩:=zaf ‹i<p.threads.length›;have hsl:=hb x hxm;have hwn:IntKind.i64.wrap (n+(x.steps.length:Int))=n+x.steps.length:=zan (by omega);rw[zba hx,fewGo]at hgo;simp -dsimp only[go_sem,seval,h4,h3,hx,hwn]
   by_cases hbad:n+x.steps.length>24\/(x.asserts.length:Int)>48\/(x.modules.length:Int)>48\/(x.loops.length:Int)>8
   ·rw[if_pos (by rcases hbad with h | h | h | h<;>simp[h])]at hgo;rw[hF,hgo,Bool.false_and,Bool.false_and]
    repeat'(refine csplit (fun h=> ?_) (fun h=> ?_)<;>(try rw[h])<;>(try simp only[zab]at h)<;>(try simp -dsimp only[go_sem,seval,h4]))
    all_goals(exfalso;omega)
   ·have k1: ¬n+(x.steps.length:Int)>24:=by omega
    have k2: ¬(x.asserts.length:Int)>48:=by omega
    have k3: ¬(x.modules.length:Int)>48:=by omega
    have k4: ¬(x.loops.length:Int)>8:=by omega
    have hfw:=zoT x (by omega) (by omega) (by omega);simp -dsimp only[go_sem,seval,k1,k2,k3,k4,hfw];refine csplit (fun h=> ?_) (fun h=> ?_)<;>(try rw[h])<;>(try simp only[zab]at h)<;>(try simp -dsimp only[go_sem,seval,h4])
    ·rw[if_pos (by simp[h])]at hgo;rw[hF,hgo,Bool.false_and,Bool.false_and]
    ·rw[if_neg (by simp[h];omega)]at hgo;exact⟨by omega,by simp -dsimp only[go_sem,seval,hw],n+x.steps.length,by omega,by omega,by simp -dsimp only[go_sem,seval],hgo⟩
  ·have:i=p.threads.length:=by omega
   subst this;rw[List.drop_length,fewGo]at hgo;rw[hgo,Bool.true_and]at hF;clear h4 hw h3 hgo;refine zaz 162259276824490996908708365074500 p.modules.length (fun i f=>(f 6).v=vi i/\p.modules.all zlA=(p.modules.drop i).all zlA) rfl rfl ⟨by simp -dsimp only[go_sem,seval],rfl⟩ ?_;rintro i f u kk bb hi ⟨h6,hall⟩;have hw:=zah i (by omega);simp -dsimp only[go_sem,seval,h6];refine csplit (fun h=> ?_) (fun h=> ?_)<;>(try rw[h])<;>(try simp only[zab]at h)<;>(try simp -dsimp only[go_sem,seval,h6])
   ·obtain⟨m,hm,_⟩:=zaf ‹i<p.modules.length›;have hg1:=zbF m.rely 60 (by omega);have hg2:=zbF m.guar 60 (by omega);have hno:zlA m=false->false=fewM p:=fun h0=>by rw[hF,hall,zaM hm h0];rfl
    simp -dsimp only[go_sem,seval,h6,hm,hg1];refine csplit (fun h=> ?_) (fun h=> ?_)<;>(try rw[h])<;>(try simp only[zab]at h)<;>(try simp -dsimp only[go_sem,seval,h6,hm,hg2])
    ·exact hno (by simp[zlA,zb5];omega)
    ·have e1:(m.rely.size:Int)<=60:=by assumption
     refine csplit (fun h=> ?_) (fun h=> ?_)<;>(try rw[h])<;>(try simp only[zab]at h)<;>(try simp -dsimp only[go_sem,seval,h6,hm])
     ·exact hno (by simp[zlA,zb5];omega)
     ·have e2:(m.guar.size:Int)<=60:=by assumption
      refine csplit (fun h=> ?_) (fun h=> ?_)<;>(try rw[h])<;>(try simp only[zab]at h)<;>(try simp -dsimp only[go_sem,seval,h6])
      ·exact hno (by simp[zlA,zb5];omega)
      ·refine⟨by omega,by simp -dsimp only[go_sem,seval,hw],?_⟩;rw[hall,zaN hm (by simp[zlA,zb5];omega)]
   ·have:i=p.modules.length:=by omega
    subst this;rw[za0]at hall;rw[hall,Bool.true_and]at hF;clear h6 hw hall;refine zaz 5316749723862834278251836663111090308 p.locks.length (fun i f=>(f 7).v=vi i/\fewM p=(p.locks.drop i).all fun l=>zb5 l.inv) rfl rfl ⟨by simp -dsimp only[go_sem,seval],hF⟩ ?_;rintro i f u kk bb hi ⟨h7,hall⟩;have hw:=zah i (by omega);simp -dsimp only[go_sem,seval,h7];refine csplit (fun h=> ?_) (fun h=> ?_)<;>(try rw[h])<;>(try simp only[zab]at h)<;>(try simp -dsimp only[go_sem,seval,h7])
    ·obtain⟨l,hl,_⟩:=zaf ‹i<p.locks.length›;have hg1:=zbF l.inv 60 (by omega);simp -dsimp only[go_sem,seval,h7,hl,hg1];refine csplit (fun h=> ?_) (fun h=> ?_)<;>(try rw[h])<;>(try simp only[zab]at h)<;>(try simp -dsimp only[go_sem,seval,h7])
     ·rw[hall,zaM hl (by simp[zb5];omega)]
     ·refine⟨by omega,by simp -dsimp only[go_sem,seval,hw],?_⟩;rw[hall,zaN hl (by simp[zb5];omega)]
    ·have:i=p.locks.length:=by omega
     subst this;rw[hall,za0]
 ·have hF:fewM p=false:=by
   cases h:fewM p
   ·rfl
   ·exfalso;simp only[fewM,zF,decide_eq_true_eq]at h;omega
  rw[hF]
  repeat'(refine csplit (fun h=> ?_) (fun h=> ?_)<;>(try rw[h])<;>(try simp only[zab]at h)<;>(try simp -dsimp only[go_sem,seval]))
  all_goals(exfalso;omega)
end Rg
end
section
-- FULL
namespace Rg
open Go
abbrev bytesT (l:List Int):T:=.sl (l.map fun n=>[.int .u8 n])
structure Prog.lite (p:Prog):Prop where
 steps: ∀x∈p.threads,x.steps.length<2^50
 cname: ∀c∈p.cells,c.name.size<2^50
 mname: ∀m∈p.modules,m.name.size<2^50/\m.owner.size<2^50
 tname: ∀t∈p.threads,t.name.size<2^50
theorem zeU {l:List Thread}: ∀{n:Int},fewGo n l=true->0<=n-> ∀x∈l,x.steps.length<=24/\x.asserts.length<=48/\x.modules.length<=48/\x.loops.length<=8/\fewT x=true:=by
 induction l with
 | nil=>intro n _ _ x hx;simp at hx
 | cons y r ih=>
   intro n h hn x hx;rw[fewGo]at h;split at h
   ·simp at h
   ·rename_i h0;simp only[not_or,Bool.not_eq_false]at h0;rcases List.mem_cons.1 hx with rfl | hx
    ·refine⟨by omega,by omega,by omega,by omega,h0.2.2.2.2⟩
    ·exact ih h (by omega) x hx
theorem few_sane {p:Prog} (hl:p.lite) (h:fewM p=true):p.sane:=by
 simp only[fewM,zF,decide_eq_true_eq,List.all_eq_true]at h;obtain⟨⟨⟨⟨⟨⟨h1,h2⟩,h3⟩,h4⟩,h5⟩,h6⟩,h7⟩:=h;have ht:=zeU h5 (by omega);refine⟨by omega,by omega,by omega,by omega,hl.cname,?_,?_,?_,?_⟩
 ·intro m hm;have:=h6 m hm;simp only[zlA,zF,decide_eq_true_eq]at this;exact⟨(hl.mname m hm).1,(hl.mname m hm).2,by omega⟩
 ·intro t hm;obtain⟨a,b,c,d,_⟩:=ht t hm;exact⟨hl.tname t hm,by omega,by omega,by omega,by omega⟩
 ·intro t hm s hs;obtain⟨_,_,_,_,e⟩:=ht t hm;simp only[fewT,zF,List.all_eq_true,zlz,decide_eq_true_eq]at e;have:=e.1.1 s hs;omega
 ·intro t hm l hll;obtain⟨_,_,_,_,e⟩:=ht t hm;simp only[fewT,zF,List.all_eq_true,zme,decide_eq_true_eq]at e;have:=e.2 l hll;omega
end Rg
end
