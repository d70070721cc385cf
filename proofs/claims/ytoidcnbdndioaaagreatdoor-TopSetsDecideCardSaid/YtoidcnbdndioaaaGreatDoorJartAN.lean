/- Part of the proof of laws of relyguardtop. No condition. -/
import Derived.Test.YtoidcnbdndioaaaGreatDoorJartAM
import Derived.Test.YtoidcnbdndioaaaGreatDoorJartAI
import Derived.Test.YtoidcnbdndioaaaGreatDoorJartAH
import Derived.ProofKit
set_option linter.unusedSimpArgs false
set_option linter.unusedVariables false
section
namespace Rg
open Go
theorem zLJ {w:Nat} (y:Nat) (hy:y<64):(w:Int).fdiv (2^min y 64)=((w/ 2^y:Nat):Int):=by
 rw[Nat.min_eq_left (by omega),Int.fdiv_eq_ediv_of_nonneg _ (Int.le_of_lt (zcn _))]
 push_cast;rfl
theorem zLM {w y:Nat}:((w/ 2^y&&& 1:Nat)=1)<->w.testBit y=true:=by
 rw[Nat.and_one_is_mod,Nat.testBit_eq_decide_div_mod_eq,decide_eq_true_eq]
def prB (ws:List Nat) (n:Nat):Bool:=(ws.getD (n/ 64) 0).testBit (n % 64)
theorem zIP (ws:List Nat) (B:Bm ws) (ky:Nat) (Inv:Nat->(Nat->Option O)->Nat->Prop) (A4: ∀n H m m',Inv n H m->m<=m'->Inv n H m')
 (Be: ∀n H m,n<4096->prB ws n=false->Inv n H m->Inv (n+1) H m)
 (K6: ∀n H m,n<4096->prB ws n=true->Inv n H m-> ∃h' n',DenY Γ G ky [vi (n/ 64:Nat),vi (n % 64:Nat)] H m=some (vb true,h',n')/\Inv (n+1) h' n') (H:Nat->Option O) (nx:Nat) (h0:Inv 0 H nx):
 ∃r h' n',DenR Γ G 588 [.yl ky,.t (.ip [bmT ws])] H nx=some (r,h',n')/\Inv 4096 h' n':=by
 have hl:=B.len;unfold bmT
 (refine zay Γ588 rfl ?_;dsimp only[zKX])
 simp -dsimp -implicitDefEqProofs only[go_sem,seval];refine zaq 1073741752 64 (fun i f h x=>(f 7).v=vi i/\Inv (64*i) h x) rfl ⟨by simp -dsimp -implicitDefEqProofs only[go_sem,seval],A4 _ _ _ _ h0 (by simp -dsimp -implicitDefEqProofs only[go_sem,seval];omega)⟩ ?_;rintro i f u h x bb hi ⟨g7,hI⟩;have hw:=zan i (by omega)
 by_cases AV:i<64
 rotate_left
 ·have DB:((i:Int)<64)=False:=eq_false (by omega);have:i=64:=by omega
  subst this;simp -dsimp -implicitDefEqProofs only[go_sem,seval,g7];exact A4 _ _ _ _ hI (by simp -dsimp -implicitDefEqProofs only[go_sem,seval];omega)
 have DB:((i:Int)<64)=True:=eq_true (by omega);obtain⟨w,IM,FP⟩:=zai (show i<ws.length by omega);have It:=B.lt w FP
 have GW:List.drop (i*1) (ws.map fun w:Nat=>T.int .u64 (w:Int))=T.int .u64 (w:Int)::List.drop (i+1) (ws.map fun w:Nat=>T.int .u64 (w:Int)):=by
  rw[Nat.mul_one];exact zdo (by rw[zJ,IM];rfl)
 simp -dsimp -implicitDefEqProofs only[go_sem,seval,g7,DB,GW];refine zaq 536862752 64 (fun j f1 h1 x1=>(f1 13).v=vi j/\Inv (64*i+j) h1 x1) rfl ⟨by simp -dsimp -implicitDefEqProofs only[go_sem,seval],A4 _ _ _ _ hI (by simp -dsimp -implicitDefEqProofs only[go_sem,seval];omega)⟩ ?_;rintro j f1 u1 h1 x1 bb1 hj ⟨g13,QZ⟩;have Cj:=zan j (by omega)
 by_cases AN:j<64
 rotate_left
 ·have Ba:((j:Int)<64)=False:=eq_false (by omega);have:j=64:=by omega
  subst this;simp -dsimp -implicitDefEqProofs only[go_sem,seval,g13,g7];exact⟨AV,by simp -dsimp -implicitDefEqProofs only[go_sem,seval,hw],A4 _ _ _ _ QZ (by simp -dsimp -implicitDefEqProofs only[go_sem,seval];omega)⟩
 have Ba:((j:Int)<64)=True:=eq_true (by omega);have d1:(64*i+j)/ 64=i:=by omega
 have d2:(64*i+j) % 64=j:=by omega
 have hp:prB ws (64*i+j)=w.testBit j:=by rw[prB,d1,d2,zK,IM];rfl
 have s0:((j:Int)<0)=False:=eq_false (by omega);have e1:=zLJ (w:=w) j AN;have SH:w/ 2^j<2^64:=Nat.lt_of_le_of_lt (Nat.div_le_self _ _) It;have e2:IntKind.u64.wrap ((BitVec.ofInt IntKind.u64.bits ((w/ 2^j:Nat):Int)&&& BitVec.ofInt IntKind.u64.bits 1).toNat:Int)=((w/ 2^j&&& 1:Nat):Int):=zJE SH (show 1<2^64 by decide);have hb:=zLM (w:=w) (y:=j);cases S5:w.testBit j
 ·rw[S5]at hb hp;have e3:(((w/ 2^j&&& 1:Nat):Int)=1)=False:=eq_false fun h=>by have:=hb.1 (by omega);cases this
  simp -dsimp -implicitDefEqProofs only[go_sem,seval,g13,Ba,s0,e1,e2,e3];exact⟨AN,by simp -dsimp -implicitDefEqProofs only[go_sem,seval,Cj],A4 _ _ _ _ (Be (64*i+j) _ _ (by omega) hp QZ) (by simp -dsimp -implicitDefEqProofs only[go_sem,seval];omega)⟩
 ·rw[S5]at hb hp;have e3:(((w/ 2^j&&& 1:Nat):Int)=1)=True:=eq_true (by have:=hb.2 rfl;omega);simp -dsimp -implicitDefEqProofs only[go_sem,seval,g13,Ba,s0,e1,e2,e3];obtain⟨h2,n2,q1,q2⟩:=K6 (64*i+j) h1 (x1+1+2+12) (by omega) hp (A4 _ _ _ _ QZ (by omega));rw[d1,d2]at q1;refine zas (P:=fun r RR n''=>r=vb true/\RR=h2/\n''=n2) ⟨_,h2,n2,q1,rfl,rfl,rfl⟩ ?_;rintro r RR n'' ⟨rfl,rfl,rfl⟩;simp -dsimp -implicitDefEqProofs only[go_sem,seval,g13];exact⟨AN,by simp -dsimp -implicitDefEqProofs only[go_sem,seval,Cj],A4 _ _ _ _ q2 (by simp -dsimp -implicitDefEqProofs only[go_sem,seval];omega)⟩
def prT (n:Nat):List T:=[ti (n/ 64:Nat),ti (n % 64:Nat)]
def rwP (L:List Nat):List (List V):=(L.map prT).map (·.map V.t)
theorem zKb (L:List Nat):(rwP L).length=L.length:=by simp[rwP]
theorem zKd (L:List Nat):((rwP L).all fun r=>decide (r.length=2))=true:=by simp[rwP,prT]
theorem zKc (L:List Nat) (n:Nat):rwP (L++[n])=rwP L++[[.t (ti (n/ 64:Nat)),.t (ti (n % 64:Nat))]]:=by simp[rwP,prT]
def zI6 (ws:List Nat) (n:Nat):List Nat:=(List.range n).filter (prB ws)
def zLP (l ws:List Int) (L:List Nat):V:=.agg [.t (ints l),.t (ints ws),.t (.sl (L.map prT))]
theorem zId (ws:List Nat):Den Γ G 578 [.t (bmT ws)]=some (.t (.fn 588 [] [.ip [bmT ws]])):=by
 unfold bmT
 (refine zag Γ578 rfl ?_;dsimp only[zK1])
 simp -dsimp -implicitDefEqProofs only[go_sem,seval]
theorem zKM {h:Nat->Option O} {x ky k7 n:Nat} {env:Nat->V} {va vb2 vL:V} {L:List Nat} (hk:h ky=some (.loop env [17,18] zHx .ready)) (e7:env 7= .mp k7 0 0) (h7:h k7=some (.rows 3 [[va,vb2,vL]] false)) (hO:zaF h x vL 2 (rwP L)) (hL:L.length<2^20) (DA:ky<x) (Tp:k7<x):
 ∃h' n',DenY Γ G ky [vi (n/ 64:Nat),vi (n % 64:Nat)] h x=some (vb true,h',n')/\h' ky=some (.loop env [17,18] zHx .ready)/\(∃vL',h' k7=some (.rows 3 [[va,vb2,vL']] false)/\zaF h' n' vL' 2 (rwP (L++[n]))/\ ∀j,j<x->zbg vL' j)/\x<=n'/\ ∀j,j<x->j≠k7->zbg vL j->h' j=h j:=by
 have n7:k7≠ky:=by rintro rfl;rw[hk]at h7;cases h7
 have:=zjy (Γ:=Γ) (G:=G) (vs:=[vi (n/ 64:Nat),vi (n % 64:Nat)]) (n:=x) (P:=fun ex h' n'=>ex= .normal/\h' ky=some (.loop env [17,18] zHx .busy)/\(∃vL',h' k7=some (.rows 3 [[va,vb2,vL']] false)/\zaF h' n' vL' 2 (rwP (L++[n]))/\ ∀j,j<x->zbg vL' j)/\x<=n'/\ ∀j,j<x->j≠ky->j≠k7->zbg vL j->h' j=h j) hk rfl (fun ex h' n' hP=>⟨_,_,_,hP.2.1⟩) (by
  have u1:(ky=x+1+1+5)=False:=eq_false (by omega);have u2:(x+1+1+5=k7)=False:=eq_false (by omega);have u3:(k7=x+1+1+5)=False:=eq_false (by omega);have y1:=hO.valOf
  have OZ:zbg vL ky:=by
   rcases hO with⟨rfl,_⟩ | ⟨q,rfl,_,hq⟩
   ·intro i n e;cases e
   ·exact za3 (by rintro rfl;rw[hk]at hq;cases hq) _ _
  have Te:zbg vL k7:=by
   rcases hO with⟨rfl,_⟩ | ⟨q,rfl,_,hq⟩
   ·intro i n e;cases e
   ·exact za3 (by rintro rfl;rw[h7]at hq;cases hq) _ _
  have o1: ∀a1 a2 b,zaF (updC (updC (updC h ky a1) ky a2) (x+1+1+5) b) (x+1+1+5+1) vL 2 (rwP L):=fun a1 a2 b=>hO.keep (by omega) fun q q1 q2=>by
   have:q≠ky:=by rintro rfl;exact q2 OZ
   rw[zaa,if_neg (by omega),zaa,if_neg this,zaa,if_neg this]
  have r1:=fun a1 a2 b=>(o1 a1 a2 b).rowsS
  simp -dsimp -implicitDefEqProofs only[go_sem,seval,e7,h7,n7,y1,u1,u2,u3,r1];refine zav (o1 _ _ _) (by omega) (by rw[zKb];omega) (by decide) rfl (zKd _) ?_;intro v hp hP Bp Aq;have z1:=hP.valOf;have z2:=hP.cells;unfold V.cells at z2;have q7:=Aq k7 (by omega) Te;rw[zaa,if_neg (by omega),zaa,if_neg n7,zaa,if_neg n7,h7]at q7;have qy:=Aq ky (by omega) OZ;rw[zaa,if_neg (by omega),zaa,if_pos rfl]at qy;simp -dsimp -implicitDefEqProofs only[go_sem,seval,e7,z1,z2,q7];refine⟨rfl,?_,⟨v,?_,?_,fun j hj=>Bp j (by omega)⟩,by simp -dsimp -implicitDefEqProofs only[go_sem,seval];omega,fun j hj j1 j2 j3=> ?_⟩
  ·simp only[zaC,zaA];rw[zaa,if_neg (Ne.symm n7)];exact qy
  ·simp only[zaC,zaA];rw[zaa,if_pos rfl]
  ·simp only[zaC,zaA];rw[zKc];refine hP.keep (by simp -dsimp -implicitDefEqProofs only[go_sem,seval];omega) fun q q1 q2=> ?_
   have:q≠k7:=by rintro rfl;exact q2 (Bp q (by omega))
   rw[zaa,if_neg this]
  ·simp only[zaC,zaA]
   rw[zaa,if_neg j2,Aq j (by omega) j3,zaa,if_neg (by omega),zaa,if_neg j1,zaa,if_neg j1])
 obtain⟨ex,h',n',⟨rfl,q1,⟨vL',q2,q3,q4⟩,q5,q6⟩,env',ps',bd',q7,q8⟩:=this;rw[q1]at q7;simp only[zA,O.loop.injEq]at q7;obtain⟨rfl,rfl,rfl,_⟩:=q7;have SL:zbg vL' ky:=q4 ky DA;refine⟨_,n',q8,by rw[zaa,if_pos rfl];rfl,⟨vL',by rw[zaa,if_neg n7];exact q2,q3.keep (Nat.le_refl _) fun q z1 z2=> ?_,q4⟩,q5,fun j hj j2 j3=> ?_⟩
 ·have:q≠ky:=by rintro rfl;exact z2 SL
  rw[zaa,if_neg this]
 ·rw[zaa];split
  ·rename_i e;subst e;exact hk.symm
  ·exact q6 j hj ‹_› j2 j3
theorem zKj {env:Nat->V} {H:Nat->Option O} {ky k7:Nat} {va vb2:V} {m:List Nat} {C:Ex->(Nat->Option O)->Nat->Prop} {w:WK C} (B:Bm m) (hk:H ky=some (.loop env [17,18] zHx .ready)) (e7:env 7= .mp k7 0 0) (h7:H k7=some (.rows 3 [[va,vb2,.t .nils]] false)) (bd:k7<ky)
 (hC: ∀h' n' vL,h' k7=some (.rows 3 [[va,vb2,vL]] false)->zaF h' n' vL 2 (rwP (zI6 m 4096))->(∀j,j<=ky->zbg vL j)->(∀j,j<ky->j≠k7->h' j=H j)->C .normal (updC h' ky (some .dead)) n'):
 zBm (DenR Γ G 588 [.yl ky,.t (.ip [bmT m])] H (ky+1)) ky C w:=by
 have BL: ∀n,(zI6 m n).length<=n:=fun n=>by
  have:=List.length_filter_le (prB m) (List.range n);rwa[List.length_range]at this
 obtain⟨r,h',n',q1,q2,vL,q3,q4,q5,q6,q7⟩:=zIP m B ky (fun n h x=>h ky=some (.loop env [17,18] zHx .ready)/\ ∃vL,h k7=some (.rows 3 [[va,vb2,vL]] false)/\zaF h x vL 2 (rwP (zI6 m n))/\(∀j,j<=ky->zbg vL j)/\(∀j,j<ky->j≠k7->h j=H j)/\ky+1<=x)
  (fun n h x y ⟨a,vL,b,c,d,e,f⟩ BW=>⟨a,vL,b,c.le BW,d,e,by omega⟩)
  (fun n h x hn hb ⟨a,vL,b,c,d,e,f⟩=>⟨a,vL,b,by
    rw[zI6,List.range_succ,List.filter_append,List.filter_cons,if_neg (by rw[hb];simp),List.filter_nil,List.append_nil];exact c,d,e,f⟩)
  (fun n h x hn hb ⟨a,vL,b,c,d,e,f⟩=>by
    obtain⟨h',n',z1,z2,⟨vL',z3,z4,z5⟩,z6,z7⟩:=zKM (n:=n) a e7 b c (by have:=BL n;omega) (by omega) (by omega);refine⟨h',n',z1,z2,vL',z3,?_,fun j hj=>z5 j (by omega),fun j hj j2=> ?_,by omega⟩
    ·rw[zI6,List.range_succ,List.filter_append,List.filter_cons,if_pos hb,List.filter_nil];exact z4
    ·rw[z7 j (by omega) j2 (d j (by omega))];exact e j hj j2)
  H (ky+1) ⟨hk,.t .nils,h7,.inl ⟨rfl,rfl⟩,(fun j _ i n e=>by simp at e),(fun j _ _=>rfl),Nat.le_refl _⟩
 refine znN (P:=fun e h n=>e= .normal/\h=h'/\n=n') ⟨r,h',n',q1,_,_,_,_,_,q2,rfl,rfl,rfl,rfl⟩ ?_;rintro _ _ _ ⟨rfl,rfl,rfl⟩;exact hC _ _ vL q3 q4 q5 q6
theorem zHS (l ws:List Int) (hl:l.length<2^40) (Fy:ws.length<2^40) (m:List Nat) (B:Bm m):Den Γ G 536 [.t (ints l),.t (ints ws),.t (bmT m)]=some (zLP l ws (zI6 m 4096)):=by
 have pm:=zId m;unfold bmT at pm
 have BL: ∀n,n<=4096->(zI6 m n).length<=4096:=fun n hn=>by
  have:=List.length_filter_le (prB m) (List.range n);rw[List.length_range]at this;exact Nat.le_trans this hn
 unfold bmT
 (refine zag Γ536 rfl ?_;dsimp only[zLm])
 simp -dsimp -implicitDefEqProofs only[go_sem,seval];refine zni hl ?_;rintro v hp hO hf Bn ⟨hv,hc⟩;simp -dsimp -implicitDefEqProofs only[go_sem,seval,hv,hc];refine zni Fy ?_;rintro v2 D0 Cz Cv Jp ⟨DT,CG⟩;unfold V.cells at hc CG;simp -dsimp -implicitDefEqProofs only[go_sem,seval,hv,hc,DT,CG];simp -dsimp -implicitDefEqProofs only[go_sem,seval,pm];refine zKj (k7:=6) (va:=v) (vb2:=v2) (m:=m) B (by rw[zaa,if_pos rfl]) (by simp -dsimp -implicitDefEqProofs only[go_sem,seval]) (by rw[zaa,if_neg (by omega),zaa,if_pos rfl]) (by omega) ?_;intro h' n' vL q1 q2 q3 q4;have y1:=q2.valOf;have y2:=q2.cells;unfold V.cells at y2
 have o1:zB1 (updC h' 10 (some .dead)) 3 v (zae l):=hO.keep fun j hj=>by
  rw[zaa,if_neg (by omega),q4 j (by omega) (by omega),zaa,if_neg (by omega),zaa,if_neg (by omega),zaa,if_neg (by omega),Cv j (by omega)]
 have o2:zB1 (updC h' 10 (some .dead)) 5 v2 (zae ws):=Cz.keep fun j hj=>by
  rw[zaa,if_neg (by omega),q4 j (by omega) (by omega),zaa,if_neg (by omega),zaa,if_neg (by omega),zaa,if_neg (by omega)]
 have o3:zaF (updC h' 10 (some .dead)) n' vL 2 (rwP (zI6 m 4096)):=q2.keep (Nat.le_refl _) fun j z1 z2=>by
  have:j≠10:=by rintro rfl;exact z2 (q3 10 (by omega))
  rw[zaa,if_neg this]
 have t1:=zGW o1;have t2:=zGW o2
 have t3:toT (updC h' 10 (some .dead)) 1000 vL=some (.sl ((zI6 m 4096).map prT)):=zcc (es:=(zI6 m 4096).map prT) o3 (by
  intro e he t ht;obtain⟨n,_,rfl⟩:=List.mem_map.1 he;simp only[prT,List.mem_cons,List.not_mem_nil,or_false]at ht
  rcases ht with rfl | rfl<;>rfl)
 unfold zLP;simp -dsimp -implicitDefEqProofs only[go_sem,seval,q1,hv,DT,y1,hc,CG,y2];rw[t1,t2,t3];rfl
end Rg
end
section
namespace Rg
open Go
def cwS (l:List Cell):Int:=zGv (l.map fun c=>min (max c.w 0) 9)
theorem zNB (l:List Cell) (c:Cell):cwS (l++[c])=cwS l+min (max c.w 0) 9:=by rw[cwS,List.map_append];exact zGN _ _
theorem zNC (l:List Cell): ∀i,0<=cwS (l.take i)/\cwS (l.take i)<=9*i:=by
 intro i
 induction i with
 | zero=>simp[cwS,zGv]
 | succ i ih=>
   by_cases hi:i<l.length
   ·obtain⟨c,hc,_⟩:=zai hi;rw[zaf hc,zNB];omega
   ·rw[List.take_of_length_le (by omega)]at ih⊢;omega
theorem zJD (cells:List Cell):wsC cells (zGi cells.length)=cells.map Cell.w:=by
 refine List.ext_getElem (by simp[wsC,zGq]) fun i h1 h2=> ?_
 have hi:i<cells.length:=by simpa using h2
 simp only[wsC,List.getElem_map,zGi,List.getElem_range,Int.toNat_natCast];rw[zK,zI hi];rfl
theorem zND {cells:List Cell} (h: ∀n∈wsC cells (zGi cells.length),0<=n/\n<=8):cwS cells=zGv (wsC cells (zGi cells.length)):=by
 rw[zJD]at h⊢;rw[cwS]
 congr 1
 refine List.map_congr_left fun c hc=> ?_
 have:=h c.w (List.mem_map.2 ⟨c,hc,rfl⟩);omega
theorem zIh (hd:Den Γ G 516 []=some (vb true)) (cells:List Cell) (By:cells.length<2^48) (a b:Expr):Den Γ G 502 [.t (.sl (cells.map Cell.enc)),(.agg [.t (ti (a).op),.t (ti (a).w),.t (ti (a).n),.t (.sl ((a).kids.map (Expr.enc)))]),(.agg [.t (ti (b).op),.t (ti (b).w),.t (ti (b).n),.t (.sl ((b).kids.map (Expr.enc)))])]=some (vb true):=by
 have sa:=zdX a 30 (by omega);have sb:=zdX b 30 (by omega);have Bb:(cells.map Cell.enc).length=cells.length:=by simp
 (refine zag Γ502 rfl ?_;dsimp only[zLD])
 by_cases c1:(cells.length:Int)>6
 ·have c1':=eq_true c1;simp -dsimp -implicitDefEqProofs only[go_sem,seval,hd,Bb,c1']
 have c1':=eq_false c1
 by_cases c2:a.size<=30
 rotate_left
 ·have c2':((a.size:Int)<=30)=False:=eq_false (by omega);simp -dsimp -implicitDefEqProofs only[go_sem,seval,hd,Bb,c1',sa,c2']
 have c2':((a.size:Int)<=30)=True:=eq_true (by omega)
 by_cases c3:b.size<=30
 rotate_left
 ·have c3':((b.size:Int)<=30)=False:=eq_false (by omega);simp -dsimp -implicitDefEqProofs only[go_sem,seval,hd,Bb,c1',sa,c2',sb,c3']
 have c3':((b.size:Int)<=30)=True:=eq_true (by omega);simp -dsimp -implicitDefEqProofs only[go_sem,seval,hd,Bb,c1',sa,c2',sb,c3'];refine zaq 72057456598976256 cells.length (fun i f h x=>(f 10).v=vi i/\(f 8).v=vi (cwS (cells.take i))/\ ∃k,(f 9).v= .ms k 0 i/\k<x/\h k=some (.rows 1 (zae (zGi i)) false)) rfl ⟨by simp -dsimp -implicitDefEqProofs only[go_sem,seval],by(try simp -dsimp -implicitDefEqProofs only[go_sem,seval]);(try rfl),19,by simp -dsimp -implicitDefEqProofs only[go_sem,seval],by(try simp -dsimp -implicitDefEqProofs only[go_sem,seval]);(try omega),?_⟩ ?_
 ·simp only[zaC,zaA];rw[zaa,if_pos rfl];rfl
 rintro i f u h x bb hi ⟨g10,g8,k,g9,ND,hk⟩;have hw:=zan i (by omega)
 by_cases AV:i<cells.length
 ·have DB:=eq_true AV;obtain⟨y,hy,_⟩:=zai AV;have q1:(if(0:Int)>y.w then(0:Int)else y.w)=max y.w 0:=by omega
  have q2:(if(9:Int)<max y.w 0 then(9:Int)else max y.w 0)=min (max y.w 0) 9:=by omega
  have zb:=zNC cells i;have q3:IntKind.i64.wrap (cwS (cells.take i)+min (max y.w 0) 9)=cwS (cells.take (i+1)):=by rw[zaf hy,zNB];exact zaH (by omega)
  have hO:zaF h x (.ms k 0 i) 1 (zae (zGi i)):=.inr ⟨k,by rw[zab,zGq],ND,hk⟩;have v2:=hO.r2;have v3:=hO.r3;have v4:=hO.r4;have v5:=hO.r5;simp -dsimp -implicitDefEqProofs only[go_sem,seval,g10,g8,g9,DB,hy,Bb,q1,q2,q3,v2,v3,v4,v5];refine zav (hO.upd (by omega) _) (by omega) (by rw[zab,zGq];omega) (by decide) rfl (zaQ _) ?_;intro v hp hP _ _;rcases hP with⟨_,e0⟩ | ⟨k2,rfl,AF,Cl⟩
  ·simp at e0
  rw[zM,zab,zGq]at *;simp -dsimp -implicitDefEqProofs only[go_sem,seval,g10];refine⟨AV,by simp -dsimp -implicitDefEqProofs only[go_sem,seval,hw],by simp -dsimp -implicitDefEqProofs only[go_sem,seval],k2,by simp -dsimp -implicitDefEqProofs only[go_sem,seval],by simp -dsimp -implicitDefEqProofs only[go_sem,seval];omega,?_⟩;simp -dsimp -implicitDefEqProofs only[go_sem,seval];rw[Cl,zIW,za4]
 have DB:=eq_false AV;have:i=cells.length:=by omega
 subst this;rw[List.take_length]at g8
 by_cases c4:cwS cells>9
 ·have c4':=eq_true c4;simp -dsimp -implicitDefEqProofs only[go_sem,seval,g10,g8,g9,DB,Bb,c4']
 have c4':=eq_false c4;have hR:=zJJ cells.length;have Mv: ∀c∈zGi cells.length,0<=c/\c<cells.length:=fun c hc=>zGo.1 hc
 have K1:(zGi cells.length).length<2^20:=by rw[zGq];omega
 have G2: ∀{e:Expr} {pair:Bool},e.valid cells pair=true-> ∀op,op=2\/op=3-> ∀c∈e.sup op,c∈zGi cells.length:=fun{e pair} he op Ao c hc=>by
  obtain⟨h0,y,hy,_⟩:=zGy he Ao c hc;have:=(zH.1 hy).1;exact zGo.2 ⟨h0,by omega⟩
 have oa:=zIt cells (zGi cells.length) a hR K1 Mv fun he=>G2 he 2 (.inl rfl)
 have ob:=zIt cells (zGi cells.length) b hR K1 Mv fun he=>G2 he 2 (.inl rfl)
 have tl: ∀{h':Nat->Option O} {fz:Bool},h' k=some (.rows 1 (zae (zGi cells.length)) fz)->toT1 h' (.ms k 0 cells.length)=some (.t (ints (zGi cells.length))):=fun{h' fz} Ah=>zp6 Ah (zGq _).symm
 have t1:=tl hk;unfold ofR at oa ob;simp only[zGs]at oa ob
 by_cases b1:zG1 (zGi cells.length) (wsC cells (zGi cells.length))=false
 ·rw[if_pos b1]at oa ob;simp -dsimp -implicitDefEqProofs only[go_sem,seval,g10,g8,g9,DB,Bb,c4',↓t1,oa];refine zGr (fun _=>True) (fun _ _=>trivial) fun h1 _ H6=> ?_
  obtain⟨fz1,A3⟩:=H6 _ _ _ _ hk;have t2:=tl A3;simp -dsimp -implicitDefEqProofs only[go_sem,seval,g9,↓t2,ob];refine zGr (fun _=>True) (fun _ _=>trivial) fun h2 _ _=> ?_
  simp -dsimp -implicitDefEqProofs only[go_sem,seval]
 rw[if_neg b1]at oa ob;have b1':zG1 (zGi cells.length) (wsC cells (zGi cells.length))=true:=by simpa using b1
 have IY:zGv (wsC cells (zGi cells.length))=(zcD (pC cells) (zGi cells.length):Int):=by rw[zGZ Mv b1',zHm]
 by_cases b2:zGv (wsC cells (zGi cells.length))>12
 ·rw[if_pos b2]at oa ob;simp -dsimp -implicitDefEqProofs only[go_sem,seval,g10,g8,g9,DB,Bb,c4',↓t1,oa];refine zGr (fun _=>True) (fun _ _=>trivial) fun h1 _ H6=> ?_
  obtain⟨fz1,A3⟩:=H6 _ _ _ _ hk;have t2:=tl A3;simp -dsimp -implicitDefEqProofs only[go_sem,seval,g9,↓t2,ob];refine zGr (fun _=>True) (fun _ _=>trivial) fun h2 _ _=> ?_
  simp -dsimp -implicitDefEqProofs only[go_sem,seval]
 rw[if_neg b2]at oa ob;have S:=zJY hR Mv b1' (by omega)
 -- what follows the first set
 by_cases b3:(a.valid cells false&&decide (a.w=1))=false
 ·rw[if_pos b3]at oa
  have ob': ∃A B C z,Den Γ G 509 [.t (.sl (cells.map Cell.enc)),.t (ints (zGi cells.length)),(.agg [.t (ti (b).op),.t (ti (b).w),.t (ti (b).n),.t (.sl ((b).kids.map (Expr.enc)))])]=some (.tup [.agg [.t (ints A),.t (ints B),.t (ints C)],vi z]):=by
   split at ob
   ·exact⟨_,_,_,_,ob⟩
   ·exact⟨_,_,_,_,ob⟩
  obtain⟨A,B,C,z,ob'⟩:=ob';simp -dsimp -implicitDefEqProofs only[go_sem,seval,g10,g8,g9,DB,Bb,c4',↓t1,oa];refine zGr (fun _=>True) (fun _ _=>trivial) fun h1 _ H6=> ?_
  obtain⟨fz1,A3⟩:=H6 _ _ _ _ hk;have t2:=tl A3;simp -dsimp -implicitDefEqProofs only[go_sem,seval,g9,↓t2,ob'];refine zGr (fun _=>True) (fun _ _=>trivial) fun h2 _ _=> ?_
  simp -dsimp -implicitDefEqProofs only[go_sem,seval]
 rw[if_neg b3]at oa;have b3':a.valid cells false=true/\a.w=1:=by simpa using b3
 by_cases b4:(b.valid cells false&&decide (b.w=1))=false
 ·rw[if_pos b4]at ob;simp -dsimp -implicitDefEqProofs only[go_sem,seval,g10,g8,g9,DB,Bb,c4',↓t1,oa];refine zGr (fun _=>True) (fun _ _=>trivial) fun h1 _ H6=> ?_
  obtain⟨fz1,A3⟩:=H6 _ _ _ _ hk;have t2:=tl A3;simp -dsimp -implicitDefEqProofs only[go_sem,seval,g9,↓t2,ob];refine zGr (fun _=>True) (fun _ _=>trivial) fun h2 _ _=> ?_
  simp -dsimp -implicitDefEqProofs only[go_sem,seval]
 rw[if_neg b4]at ob;have b4':b.valid cells false=true/\b.w=1:=by simpa using b4
 simp -dsimp -implicitDefEqProofs only[go_sem,seval,g10,g8,g9,DB,Bb,c4',↓t1,oa];refine zGr (fun _=>True) (fun _ _=>trivial) fun h1 _ H6=> ?_
 obtain⟨fz1,A3⟩:=H6 _ _ _ _ hk;have t2:=tl A3;simp -dsimp -implicitDefEqProofs only[go_sem,seval,g9,↓t2,ob];refine zGr (fun _=>True) (fun _ _=>trivial) fun h2 _ Cv=> ?_
 obtain⟨fz2,AF⟩:=Cv _ _ _ _ A3;have t3:=tl AF;have FP:=zGZ Mv b1';have Tj:cells.length<=6:=by omega
 have LP:zcD (pC cells) (zGi cells.length)<=9:=by
  have h3:=zND (cells:=cells) (by rw[FP];exact S.w);omega
 rw[FP]at oa ob;obtain⟨va,wa⟩:=b3';obtain⟨vb1,wb⟩:=b4';have EA:=zH0 (cells:=cells) (e:=a) S;have EB:=zH0 (cells:=cells) (e:=b) S;have fa:a.formed=true:=by simp only[Expr.valid,zF]at va;exact va.1
 have fb:b.formed=true:=by simp only[Expr.valid,zF]at vb1;exact vb1.1
 have L3:=zKx (zJU fa fb wa wb c2 c3);have hX: ∀m,(zHi [a,b]).eval m m=1<->a.eval m m=1/\b.eval m m=1:=fun m=>by rw[L3.eval];simp
 have vX:(zHi [a,b]).valid cells false=true:=L3.valid cells false fun e he=>by
  simp only[List.mem_cons,List.not_mem_nil,or_false]at he;rcases he with rfl | rfl<;>assumption
 have oX:=zIt cells (zGi cells.length) (zHi [a,b]) hR K1 Mv fun he=>G2 he 2 (.inl rfl)
 unfold ofR at oX;rw[if_neg b1,if_neg b2,if_neg (by rw[vX,L3.w];simp),zKo hX,FP]at oX;have mn:=zIe S EA EB;have mt:=zGF S EA EB
 have sm:=zIK (zGi cells.length) (wsM (pC cells) (zGi cells.length)) (nI ((inL (pC cells) (zGi cells.length) zGl a).filter fun n=>(inL (pC cells) (zGi cells.length) zGl b).contains n)) (by rw[zGq];omega) (by rw[S.wl,zGq];omega) (by
  have h3:=(EA.filter fun n=>(inL (pC cells) (zGi cells.length) zGl b).contains n).len S
  simp only[List.length_map];omega)
 have SD: ∀c∈unL (a.sup 2) (b.sup 2),c∈zGi cells.length:=fun c hc=>by
  rw[unL,ziF,List.mem_append]at hc;exact hc.elim (G2 va 2 (.inl rfl) c) (G2 vb1 2 (.inl rfl) c)
 have SV:(unL (a.sup 2) (b.sup 2)).Pairwise (· < ·):=zjV _;have Ts:=zJQ (pC cells) SV hR SD
 have hD:unL (a.sup 3) (b.sup 3)=[]:=by
  rw[zHk va,zHk vb1,unL,List.append_nil,zhp,List.mergeSort_nil];rfl
 have Co:zcD (pC cells) []+zcD (pC cells) (unL (a.sup 2) (b.sup 2))=zcD (pC cells) (unL (a.sup 2) (b.sup 2)):=by simp[zcD]
 have dd:=zHt cells (by omega) a b (zHl va) (zHl vb1) wa wb (by rw[hD,Co];omega);unfold zLI at dd;rw[hD]at dd;have Fv: ∀n,zHd cells [] n=List.replicate cells.length 0:=fun n=>rfl
 have Tl: ∀n,zGY cells [] (unL (a.sup 2) (b.sup 2)) n=stM (pC cells) (unL (a.sup 2) (b.sup 2)) (n:Int) (List.replicate cells.length 0):=fun n=>by
  rw[zGY];simp[zcD]
 simp only[Fv,Tl,Co]at dd;have SW:Cells (pC cells) (zGi cells.length) zGl.length:=⟨hR.imp_of_mem fun{x y} hx hy h=>by have:=zGo.1 hx;have:=zGo.1 hy;omega,fun c hc=>by have:=zGo.1 hc;rw[show zGl.length=32 from rfl];omega⟩
 have Tn:Cells (pC cells) (unL (a.sup 2) (b.sup 2)) (List.replicate cells.length (0:Int)).length:=⟨SV.imp_of_mem fun{x y} hx hy h=>by have:=zGo.1 (SD _ hx);have:=zGo.1 (SD _ hy);omega,fun c hc=>by have:=zGo.1 (SD c hc);rw[List.length_replicate];omega⟩
 have SC: ∀c∈a.sup 2,c∈unL (a.sup 2) (b.sup 2):=fun c hc=>by rw[unL,ziF];exact List.mem_append_left _ hc
 have SB: ∀c∈b.sup 2,c∈unL (a.sup 2) (b.sup 2):=fun c hc=>by rw[unL,ziF];exact List.mem_append_right _ hc
 have Ho:=zJj (p:=pC cells) va vb1 wb (List.replicate cells.length 0) SW Tn (G2 va 2 (.inl rfl)) (G2 vb1 2 (.inl rfl)) SC SB;have SO:=fun n=>zHu (p:=pC cells) (n:=n) va vb1 (List.replicate cells.length 0) (d:=unL (a.sup 2) (b.sup 2)) (z:=List.replicate cells.length 0) SW (G2 va 2 (.inl rfl)) (G2 vb1 2 (.inl rfl))
 have cts:=fun n=>zHh (pC cells) (zGi cells.length) (stM (pC cells) (unL (a.sup 2) (b.sup 2)) (n:Int) (List.replicate cells.length 0)) S (EA.filter fun n=> !(inL (pC cells) (zGi cells.length) zGl b).contains n)
  (fun c hc=>by rw[zlf,List.length_replicate];have:=zGo.1 hc;omega) (by rw[zlf,List.length_replicate];omega)
 have ad:=zKw [a,b] (by simp);simp only[List.map_cons,List.map_nil,Expr.enc_eq]at ad;simp only[zGs,<- FP]at mn mt sm oX cts;unfold zKB at dd
 generalize zHi [a,b]=X at *
 generalize hN:unL (a.sup 2) (b.sup 2)=N at *
 have e1:((true==true) != true)=false:=rfl;have e2:((false==false) != true)=false:=rfl;cases D3:(List.range (2^zcD (pC cells) N)).find? fun n:Nat=>zGx a b (List.replicate cells.length 0) (stM (pC cells) N (n:Int) (List.replicate cells.length 0))
 case' none=>
  rw[D3]at dd
  have ES:=Ho.1 fun n hn=>by
   have:=List.find?_eq_none.1 D3 n (List.mem_range.2 hn);simpa[zGK,zGx]using this
  rw[ES]at mn;simp -dsimp -implicitDefEqProofs only[go_sem,seval,g9,mn,dd,e1,ad]
 case' some n=>
  rw[D3]at dd;obtain⟨d1,d2,d3⟩:=List.find?_range_eq_some.1 D3;obtain⟨k1,k2⟩:=SO n (by simpa[zGK,zGx]using d1);have ct:=cts n;rw[List.contains_iff_mem.2 (List.mem_filter.2 ⟨k1,by simpa using k2⟩)]at ct
  have Az:((((inL (pC cells) (zGi cells.length) zGl a).filter fun n=> !(inL (pC cells) (zGi cells.length) zGl b).contains n).length:Int)=0)=False:=by
   refine eq_false fun h=> ?_
   have:=List.length_pos_of_mem (List.mem_filter.2 ⟨k1,by simpa using k2⟩:_∈(inL (pC cells) (zGi cells.length) zGl a).filter fun n=> !(inL (pC cells) (zGi cells.length) zGl b).contains n);omega
  simp -dsimp -implicitDefEqProofs only[go_sem,seval,g9,mn,dd,e2,Az,ct,ad]
 all_goals
  refine zGr (fun _=>True) (fun _ _=>trivial) fun h3 _ QD=> ?_
  obtain⟨fz3,Sw⟩:=QD k _ _ fz2 (by rw[zaa,if_neg (by omega)];exact AF);have t5:=tl Sw;simp -dsimp -implicitDefEqProofs only[go_sem,seval,g9,↓t5,oX];refine zGr (fun _=>True) (fun _ _=>trivial) fun h4 _ Tq=> ?_
  simp -dsimp -implicitDefEqProofs only[go_sem,seval,mt,sm]
end Rg
end
section
namespace Rg
open Go
inductive Tr (α:Type)where
 | nil
 | node (v:Option α) (l r:Tr α)
namespace Tr
variable {α:Type}
noncomputable def get (t:Tr α):Nat->Option α:=
 Tr.rec (motive:=fun _=>Nat->Option α) (fun _=>none) (fun v _ _ a b n=>Nat.rec v (fun m _=>Nat.rec (a (Nat.div m 2)) (fun _ _=>b (Nat.div m 2)) (Nat.mod m 2)) n) t
noncomputable def node1 (ih:Tr α->Nat->α->Tr α) (v:Option α) (l r:Tr α) (n:Nat) (x:α):Tr α:=
 Nat.rec (.node (some x) l r) (fun m _=>Nat.rec (.node v (ih l (Nat.div m 2) x) r) (fun _ _=> .node v l (ih r (Nat.div m 2) x)) (Nat.mod m 2)) n
noncomputable def put (f:Nat):Tr α->Nat->α->Tr α:=
 Nat.rec (fun t _ _=>t) (fun _ ih t=>Tr.rec (motive:=fun _=>Nat->α->Tr α) (node1 ih none .nil .nil) (fun v l r _ _=>node1 ih v l r) t) f
theorem zGP (v:Option α) (l r:Tr α) (m:Nat):(Tr.node v l r).get (m+1)=if m % 2=0 then l.get (m/ 2)else r.get (m/ 2):=by
 show Nat.rec (motive:=fun _=>Option α) (l.get (m/ 2)) (fun _ _=>r.get (m/ 2)) (m % 2)=_;cases m % 2<;>rfl
theorem zIT (ih:Tr α->Nat->α->Tr α) (v:Option α) (l r:Tr α) (m:Nat) (x:α):node1 ih v l r (m+1) x=if m % 2=0 then .node v (ih l (m/ 2) x) r else .node v l (ih r (m/ 2) x):=by
 show Nat.rec (motive:=fun _=>Tr α) (.node v (ih l (m/ 2) x) r) (fun _ _=> .node v l (ih r (m/ 2) x)) (m % 2)=_;cases m % 2<;>rfl
theorem zH1 (ih:Tr α->Nat->α->Tr α) (n:Nat) (x:α) (hi: ∀m,m<n-> ∀t j,(ih t m x).get j=if j=m then some x else t.get j) (v:Option α) (l r:Tr α) (j:Nat):
 (node1 ih v l r n x).get j=if j=n then some x else(Tr.node v l r).get j:=by
 cases n with
 | zero=>cases j<;>rfl
 | succ m=>
   rw[zIT]
   by_cases h:m % 2=0
   ·rw[if_pos h]
    cases j with
    | zero=>rfl
    | succ j=>
      rw[zGP,zGP]
      by_cases h2:j % 2=0
      ·rw[if_pos h2,if_pos h2,hi _ (by omega)]
       by_cases h3:j=m
       ·rw[if_pos (by rw[h3]),if_pos (by rw[h3])]
       ·rw[if_neg (by omega),if_neg (by omega)]
      ·rw[if_neg h2,if_neg h2,if_neg (by omega)]
   ·rw[if_neg h]
    cases j with
    | zero=>rfl
    | succ j=>
      rw[zGP,zGP]
      by_cases h2:j % 2=0
      ·rw[if_pos h2,if_pos h2,if_neg (by omega)]
      ·rw[if_neg h2,if_neg h2,hi _ (by omega)]
       by_cases h3:j=m
       ·rw[if_pos (by rw[h3]),if_pos (by rw[h3])]
       ·rw[if_neg (by omega),if_neg (by omega)]
theorem get_put: ∀(f:Nat) (t:Tr α) (n:Nat) (x:α),n<f-> ∀j,(put f t n x).get j=if j=n then some x else t.get j:=by
 intro f
 induction f with
 | zero=>intro t n x h;omega
 | succ f ih=>
   intro t n x h j;have hi: ∀m,m<n-> ∀t j,(put f t m x).get j=if j=m then some x else t.get j:=fun m hm t j=>ih t m x (by omega) j
   cases t with
   | nil=>
     show(node1 (put f) none .nil .nil n x).get j=_;rw[zH1 _ n x hi]
     have : ∀k,(Tr.node none .nil .nil:Tr α).get k=(Tr.nil:Tr α).get k:=by
      intro k
      cases k with
      | zero=>rfl
      | succ k=>rw[zGP];split<;>rfl
     rw[this]
   | node v l r=>exact zH1 _ n x hi v l r j
end Tr
structure Fn (α:Type)where
 base:Nat->α
 ov:Tr α
namespace Fn
variable {α:Type}
noncomputable def app (f:Fn α) (k:Nat):α:=match f.ov.get k with
 | some v=>v
 | none=>f.base k
noncomputable def set (f:Fn α) (k:Nat) (v:α):Fn α:=Fn.rec (fun b o=>⟨b,o.put (k+1) k v⟩) f
def of (f:Nat->α):Fn α:=⟨f,.nil⟩
theorem app_set (f:Fn α) (k:Nat) (v:α):(f.set k v).app=upd f.app k v:=by
 funext j
 unfold app set upd;simp only;rw[Tr.get_put (k+1) f.ov k v (by omega)]
 by_cases h:j=k
 ·rw[if_pos h,if_pos h]
 ·rw[if_neg h,if_neg h]
end Fn
structure E where
 env:Fn V
 loc:Fn (Option (List V))
 adr:Fn (Option (Nat×Nat))
 used:Fn Bool
 heap:Fn (Option O)
 nxt:Nat
 bas:Nat
namespace E
noncomputable def st (e:E):St:=⟨e.env.app,e.loc.app,e.adr.app,e.used.app,e.heap.app,e.nxt,e.bas⟩
def begin (e:E) (n:Nat):E:={ e with adr:=.of fun _=>none,used:=.of fun _=>false,bas:=e.nxt,nxt:=e.nxt+n }
noncomputable def hpSet (h:Fn (Option O)):List (Nat×O)->Fn (Option O)
 | []=>h
 | (k,o)::r=>hpSet (h.set k (some o)) r
theorem hpSet_app (h:Fn (Option O)) (l:List (Nat×O)):(hpSet h l).app=zbf h.app l:=by
 induction l generalizing h with
 | nil=>rfl
 | cons a l ih=>rw[hpSet,zbf,ih,Fn.app_set]
noncomputable def apply(s:E) (dst:Option Nat) (e:Eff):E:=
 { s with
   env:=match dst with | some d=>s.env.set d e.val | none=>s.env
   adr:=match dst with | some d=>s.adr.set d e.adr | none=>s.adr
   loc:=match dst with
    | some d=>(match e.wloc with | some (b,cs)=>s.loc.set b (some cs) | none=>s.loc).set d e.loc
    | none=>match e.wloc with | some (b,cs)=>s.loc.set b (some cs) | none=>s.loc
   used:=match e.adr with | some (b,_)=>s.used.set b true | none=>s.used
   heap:=hpSet s.heap e.hp }
theorem apply_st (s:E) (dst:Option Nat) (e:Eff):(s.apply dst e).st=s.st.apply dst e:=by
 unfold apply st St.apply;rcases dst with _ | d<;>rcases e with⟨val,adr,loc,wloc,hp⟩<;>rcases wloc with _ | ⟨b,cs⟩<;>rcases adr with _ | ⟨a1,a2⟩<;>simp only[Fn.app_set,hpSet_app]
def init (args:List V) (h:Fn (Option O)) (n:Nat):E:=⟨.of (zfz args),.of fun _=>none,.of fun _=>none,.of fun _=>false,h,n,n⟩
noncomputable def fill:Fn V->List Nat->List V->Fn V
 | env,t::ts,v::vs=>fill (env.set t v) ts vs
 | env,_,_=>env
theorem zJN (f:Fn V) (ts:List Nat) (vs:List V):(fill f ts vs).app=zhB f.app ts vs:=by
 induction ts generalizing f vs with
 | nil=>cases vs<;>rfl
 | cons t ts ih=>cases vs with
   | nil=>rfl
   | cons v vs=>rw[fill,zhB,ih,Fn.app_set]
noncomputable def round (h:Fn (Option O)) (n k:Nat) (env:Nat->V) (ps:List Nat) (bd:C) (vs:List V):E:=
 ⟨fill (.of env) ps vs,.of fun _=>none,.of fun _=>none,.of fun _=>false,h.set k (some (.loop env ps bd .enter)),n,n⟩
theorem round_st (h:Fn (Option O)) (n k:Nat) (env:Nat->V) (ps:List Nat) (bd:C) (vs:List V):(round h n k env ps bd vs).st=zht h.app n k env ps bd vs:=by
 unfold round st zht;simp only[zJN,Fn.app_set];rfl
noncomputable def freeB (s:E) (dst:Option Nat) (e:Eff):Bool:=match dst with
 | none=>true
 | some d=> !s.used.app d&&match e.adr with
   | some (b,_)=> !decide (b=d)
   | none=>true
theorem free_of {s:E} {dst:Option Nat} {e:Eff} (h:s.freeB dst e=true):s.st.free dst e:=by
 intro d hd;subst hd;unfold freeB at h;simp only[zF,Bool.not_eq_true']at h;refine⟨h.1,fun b o hb=> ?_⟩;rw[hb]at h;simpa using h.2
end E
inductive ET where
 | code (c:C) (s:E)
 | loop (b:C) (s:E)
 | ops (draw:Bool) (p:Nat) (l:List ROp) (s:E)
 | pcall (f:Nat) (args:List V)
 | rcall (f:Nat) (args:List V) (h:Fn (Option O)) (n:Nat)
inductive EO where
 | code (e:Ex) (s:E)
 | ops (s:E)
 | val (v:V)
 | vals (v:V) (h:Fn (Option O)) (n:Nat)
noncomputable def ET.task:ET->Task
 | .code c s=> .code c s.st
 | .loop b s=> .loop b s.st
 | .ops d p l s=> .ops d p l s.st
 | .pcall f a=> .pcall f a
 | .rcall f a h n=> .rcall f a h.app n
noncomputable def EO.out:EO->Out
 | .code e s=> .code e s.st
 | .ops s=> .ops s.st
 | .val v=> .val v
 | .vals v h n=> .vals v h.app n
def zJa:Ex->Bool
 | .exit _=>false
 | _=>true
theorem zHW {e:Ex} (h:zJa e=true): ∀id,e≠ .exit id:=by
 rintro id rfl;cases h
def zGt:Option EO->Option (Ex×E)
 | some (.code e s)=>some (e,s)
 | _=>none
def zJy:Option EO->Option E
 | some (.ops s)=>some s
 | _=>none
def zJS:Option EO->Option V
 | some (.val v)=>some v
 | _=>none
def zIb:Option EO->Option (V×Fn (Option O)×Nat)
 | some (.vals v h n)=>some (v,h,n)
 | _=>none
theorem zGk {x:Option EO} {e:Ex} {s:E} (h:zGt x=some (e,s)):x=some (.code e s):=by
 unfold zGt at h;split at h
 ·cases h;rfl
 ·cases h
theorem zHO {x:Option EO} {s:E} (h:zJy x=some s):x=some (.ops s):=by
 unfold zJy at h;split at h
 ·cases h;rfl
 ·cases h
theorem zIG {x:Option EO} {v:V} (h:zJS x=some v):x=some (.val v):=by
 unfold zJS at h;split at h
 ·cases h;rfl
 ·cases h
theorem zHf {x:Option EO} {v:V} {hp:Fn (Option O)} {n:Nat} (h:zIb x=some (v,hp,n)):x=some (.vals v hp n):=by
 unfold zIb at h;split at h
 ·cases h;rfl
 ·cases h
noncomputable def loopAt (h:Fn (Option O)) (k:Nat):Option ((Nat->V)×List Nat×C×LSt):=match h.app k with
 | some (.loop env ps b st)=>some (env,ps,b,st)
 | _=>none
theorem zGO {h:Fn (Option O)} {k:Nat} {env:Nat->V} {ps:List Nat} {b:C} {st:LSt} (e:loopAt h k=some (env,ps,b,st)):h.app k=some (.loop env ps b st):=by
 unfold loopAt at e;split at e
 ·rename_i h0;cases e;exact h0
 ·cases e
def LSt.isReady:LSt->Bool
 | .ready=>true
 | _=>false
def LSt.isEnter:LSt->Bool
 | .enter=>true
 | _=>false
def LSt.isBusy:LSt->Bool
 | .busy=>true
 | _=>false
def roundOf:C->Option (C×C)
 | .round a b=>some (a,b)
 | _=>none
def zKr:C->Option Ext
 | .ext e=>some e
 | _=>none
def zMk:V->Option Nat
 | .yl k=>some k
 | _=>none
def zJ5:AOp->Option (Bool×Opd×List Opd)
 | .call r f a=>some (r,f,a)
 | _=>none
def zJo:AOp->Option (Opd×List Opd)
 | .fcall f a=>some (f,a)
 | _=>none
def ask (b:Bool):Option Unit:=if b then some ()else none
theorem zGp {b:Bool} {u:Unit} (h:ask b=some u):b=true:=by
 unfold ask at h;split at h
 ·assumption
 ·cases h
section
variable (Γ:Nat->Option F) (G:Nat->List T) (R:ET->Option EO)
noncomputable def evCode (s:E):C->Option EO
 | .skip=>some (.code .normal s)
 | .ret=>some (.code .ret s)
 | .exit id=>some (.code (.exit id) s)
 | .region d l=>(zJy (R (.ops d 0 l (s.begin l.length)))).bind fun s'=>some (.code .normal s')
 | .regionD ck l=>(zJy (R (.ops true 0 l (s.begin l.length)))).bind fun s'=>(ask (zgO G s'.st l ck)).bind fun _=>some (.code .normal s')
 | .seq a b=>(zGt (R (.code a s))).bind fun q=>match q with
   | (.normal,s1)=>(zGt (R (.code b s1))).bind fun q=>some (.code q.1 q.2)
   | (e,s1)=>some (.code e s1)
 | .cond c a b=>(zd5 G s.st c).bind fun t=>(zGt (R (.code (if t then a else b) s))).bind fun q=>some (.code q.1 q.2)
 | .block id b=>(zGt (R (.code b s))).bind fun q=>some (.code (if q.1= .exit id then .normal else q.1) q.2)
 | .loop b=>(zGt (R (.loop b s))).bind fun q=>some (.code q.1 q.2)
 | .rangeF x ps bd=>(evl G s.st x).bind fun fv=>(zfC fv).bind fun g=>(Γ g.1).bind fun fn=>(ask fn.raw).bind fun _=>
   (zIb (R (.rcall g.1 (g.2.1++[.yl s.nxt]++g.2.2) (s.heap.set s.nxt (some (.loop s.env.app ps bd .ready))) (s.nxt+1)))).bind fun r=>
   (loopAt r.2.1 s.nxt).bind fun q=>(LSt.ends q.2.2.2).bind fun e=>some (.code e { s with heap:=r.2.1.set s.nxt (some .dead),nxt:=r.2.2 })
 | .ext _=>none
 | .round _ _=>none
noncomputable def evRest (d:Bool) (p:Nat) (o:ROp) (l:List ROp) (s:E) (e:Eff):Option EO:=
 (zJy (R (.ops d (p+1) l (s.apply o.dst e)))).bind fun s'=>some (.ops s')
noncomputable def evYield (d:Bool) (p:Nat) (o:ROp) (l:List ROp) (s:E) (k:Nat) (vs:List V):Option EO:=
 (loopAt s.heap k).bind fun q=>(ask (LSt.isReady q.2.2.2)).bind fun _=>(roundOf q.2.2.1).bind fun c=>(ask (decide (vs.length=q.2.1.length))).bind fun _=>
 (zGt (R (.code c.1 (.round s.heap s.nxt k q.1 q.2.1 (.round c.1 c.2) vs)))).bind fun r1=>(ask (decide (r1.1= .normal))).bind fun _=>
 (loopAt r1.2.heap k).bind fun q1=>(ask (LSt.isEnter q1.2.2.2)).bind fun _=>
 (zGt (R (.code c.2 { r1.2 with heap:=r1.2.heap.set k (some (.loop q1.1 q1.2.1 q1.2.2.1 .busy)) }))).bind fun r2=>
 (loopAt r2.2.heap k).bind fun q2=>(ask (LSt.isBusy q2.2.2.2)).bind fun _=>
 evRest R d p o l { s with heap:=r2.2.heap.set k (some (.loop q2.1 q2.2.1 q2.2.2.1 r2.1.toL)),nxt:=r2.2.nxt } { val:=.t (.bool (decide (r2.1=Ex.normal))) }
noncomputable def evOp (d:Bool) (p:Nat) (o:ROp) (l:List ROp) (s:E):Option EO:=match zJ5 o.op with
 | some (raw,f,args)=>(ask (s.freeB o.dst {})).bind fun _=>(evl G s.st f).bind fun fv=>(zgE G s.st args).bind fun vs=>match zMk fv with
   | some k=>(ask raw).bind fun _=>evYield R d p o l s k vs
   | none=>(zfC fv).bind fun g=>(Γ g.1).bind fun fn=>if raw then
      (zIb (R (.rcall g.1 (g.2.1++vs++g.2.2) s.heap s.nxt))).bind fun r=>evRest R d p o l { s with heap:=r.2.1,nxt:=r.2.2 } { val:=r.1 }
     else(ask (!fn.raw)).bind fun _=>((g.2.1++vs++g.2.2).mapM (toT1 s.st.heap)).bind fun rs=>(zJS (R (.pcall g.1 rs))).bind fun r=>
      (ask (!d||r.scalar||((g.2.1++vs++g.2.2).flatMap (zba s.st.heap)).isEmpty)).bind fun _=>
      evRest R d p o l s { val:=r,hp:=if r.scalar then []else freezes s.st.heap ((g.2.1++vs++g.2.2).flatMap (zba s.st.heap)) }
 | none=>match zJo o.op with
   | some (f,args)=>(ask (s.freeB o.dst {})).bind fun _=>(evl G s.st f).bind fun fv=>(zgE G s.st args).bind fun vs=>(zfC fv).bind fun g=>(Γ g.1).bind fun fn=>(ask fn.raw).bind fun _=>
     ((g.2.1++vs++g.2.2).mapM (toT1 s.st.heap)).bind fun rs=>(ask ((g.2.1++vs++g.2.2).flatMap (zba s.st.heap)).isEmpty).bind fun _=>
     (zIb (R (.rcall g.1 rs (.of fun _=>none) 0))).bind fun r=>(zqm (s.bas+p) r.1 r.2.1.app).bind fun e=>evRest R d p o l s e
   | none=>(zaj G p s.st o.op).bind fun e=>(ask (s.freeB o.dst e)).bind fun _=>evRest R d p o l s e
noncomputable def evStep:ET->Option EO
 | .code c s=>evCode Γ G R s c
 | .loop b s=>(zGt (R (.code b s))).bind fun q=>match q with
   | (.normal,s1)=>(zGt (R (.loop b s1))).bind fun q=>some (.code q.1 q.2)
   | (e,s1)=>some (.code e s1)
 | .ops _ _ [] s=>some (.ops s)
 | .ops d p (o::l) s=>(zcs s.st o.guard).bind fun w=>if w then evOp Γ G R d p o l s else(ask (s.freeB o.dst {})).bind fun _=>evRest R d p o l s {}
 | .pcall g args=>(Γ g).bind fun fn=>(ask (!fn.raw)).bind fun _=>match zKr fn.body with
   | some e=>(zev e args).bind fun r=>some (.val r)
   | none=>(zGt (R (.code fn.body (.init args (.of fun _=>none) 0)))).bind fun q=>(ask (zJa q.1)).bind fun _=>(zeM q.2.st fn.results).bind fun v=>(reify q.2.st.heap v).bind fun r=>some (.val r)
 | .rcall g args h m=>(Γ g).bind fun fn=>if fn.raw=false then(args.mapM (toT1 h.app)).bind fun rs=>(zJS (R (.pcall g rs))).bind fun r=>some (.vals r (E.hpSet h (if r.scalar then []else freezes h.app (args.flatMap (zba h.app)))) m)else(ask fn.raw).bind fun _=>match zKr fn.body with
   | some e=>(zd3 e args h.app m).bind fun r=>some (.vals r.1 (.of r.2.1) r.2.2)
   | none=>(zGt (R (.code fn.body (.init args h m)))).bind fun q=>(ask (zJa q.1)).bind fun _=>(zeM q.2.st fn.results).bind fun v=>some (.vals v q.2.heap q.2.nxt)
end
noncomputable def ev (Γ:Nat->Option F) (G:Nat->List T):Nat->ET->Option EO
 | 0=>fun _=>none
 | n+1=>evStep Γ G (ev Γ G n)
section
variable {Γ:Nat->Option F} {G:Nat->List T} {R:ET->Option EO}
def zGM (Γ:Nat->Option F) (G:Nat->List T) (R:ET->Option EO):Prop:= ∀t o,R t=some o->Big Γ G t.task o.out
theorem bind_some {α β:Type} {x:Option α} {f:α->Option β} {b:β} (h:x.bind f=some b): ∃a,x=some a/\f a=some b:=by
 cases x with
 | none=>cases h
 | some a=>exact⟨a,rfl,h⟩
theorem zH4 (hR:zGM Γ G R) {s:E} {c:C} {o:EO} (h:evCode Γ G R s c=some o):Big Γ G (.code c s.st) o.out:=by
 cases c with
 | skip=>simp only[evCode,zA]at h;subst h;exact .skip
 | ret=>simp only[evCode,zA]at h;subst h;exact .ret
 | exit id=>simp only[evCode,zA]at h;subst h;exact .exit
 | region d l=>
   simp only[evCode]at h;obtain⟨s',h1,h⟩:=bind_some h;simp only[zA]at h;subst h
   exact .region (hR _ _ (zHO h1))
 | regionD ck l=>
   simp only[evCode]at h;obtain⟨s',h1,h⟩:=bind_some h;obtain⟨u,h2,h⟩:=bind_some h;simp only[zA]at h;subst h
   exact .regionD (hR _ _ (zHO h1)) (zGp h2)
 | seq a b=>
   simp only[evCode]at h;obtain⟨⟨e,s1⟩,h1,h⟩:=bind_some h;have g1:=hR _ _ (zGk h1)
   cases e with
   | normal=>
     obtain⟨⟨e2,s2⟩,h2,h⟩:=bind_some h;simp only[zA]at h;subst h
     exact .seqN g1 (hR _ _ (zGk h2))
   | exit id=>simp only[zA]at h;subst h;exact .seqX g1 (by intro h;cases h)
   | ret=>simp only[zA]at h;subst h;exact .seqX g1 (by intro h;cases h)
 | cond c a b=>
   simp only[evCode]at h;obtain⟨t,ht,h⟩:=bind_some h;obtain⟨⟨e,s1⟩,h1,h⟩:=bind_some h;simp only[zA]at h;subst h
   exact .cond ht (hR _ _ (zGk h1))
 | block id b=>
   simp only[evCode]at h;obtain⟨⟨e,s1⟩,h1,h⟩:=bind_some h;simp only[zA]at h;subst h
   exact .block (hR _ _ (zGk h1))
 | loop b=>
   simp only[evCode]at h;obtain⟨⟨e,s1⟩,h1,h⟩:=bind_some h;simp only[zA]at h;subst h
   exact .loop (hR _ _ (zGk h1))
 | rangeF x ps bd=>
   simp only[evCode]at h;obtain⟨fv,As,h⟩:=bind_some h;obtain⟨⟨g,a,b⟩,Ax,h⟩:=bind_some h;obtain⟨fn,hg,h⟩:=bind_some h;obtain⟨_,hr,h⟩:=bind_some h;obtain⟨⟨r,h',n'⟩,hc,h⟩:=bind_some h;obtain⟨⟨env',ps',bd',st⟩,hl,h⟩:=bind_some h;obtain⟨e,he,h⟩:=bind_some h;simp only[zA]at h;subst h;have g1:=hR _ _ (zHf hc);simp only[ET.task,EO.out,Fn.app_set]at g1;have:=Big.rangeF (s:=s.st) (ps:=ps) (bd:=bd) As Ax hg trivial g1 (zGO hl) he
   simpa only[EO.out,E.st,Fn.app_set]using this
 | ext e=>simp[evCode]at h
 | round a b=>simp[evCode]at h
theorem zGn (hR:zGM Γ G R) {d:Bool} {p:Nat} {ro:ROp} {l:List ROp} {s:E} {e:Eff} {o:EO} (h:evRest R d p ro l s e=some o): ∃s',o= .ops s'/\Big Γ G (.ops d (p+1) l (s.st.apply ro.dst e)) (.ops s'.st):=by
 obtain⟨s',h1,h⟩:=bind_some h;simp only[zA]at h;subst h;have:=hR _ _ (zHO h1);simp only[ET.task,EO.out,E.apply_st]at this;exact⟨s',rfl,this⟩
theorem zIU {st:LSt} (h:st.isReady=true):st= .ready:=by cases st<;>first | rfl | cases h
theorem zIV {st:LSt} (h:st.isEnter=true):st= .enter:=by cases st<;>first | rfl | cases h
theorem zJi {st:LSt} (h:st.isBusy=true):st= .busy:=by cases st<;>first | rfl | cases h
theorem zIN {c a b:C} (h:roundOf c=some (a,b)):c= .round a b:=by cases c<;>first | (cases h;rfl) | cases h
theorem zIA {c:C} {e:Ext} (h:zKr c=some e):c= .ext e:=by cases c<;>first | (cases h;rfl) | cases h
theorem zJ7 {v:V} {k:Nat} (h:zMk v=some k):v= .yl k:=by cases v<;>first | (cases h;rfl) | cases h
theorem zJx {o:AOp} {r:Bool} {f:Opd} {a:List Opd} (h:zJ5 o=some (r,f,a)):o= .call r f a:=by cases o<;>first | (cases h;rfl) | cases h
theorem zIX {o:AOp} {f:Opd} {a:List Opd} (h:zJo o=some (f,a)):o= .fcall f a:=by cases o<;>first | (cases h;rfl) | cases h
theorem zHJ (hR:zGM Γ G R) {d:Bool} {p:Nat} {ro:ROp} {l:List ROp} {s:E} {k:Nat} {vs:List V} {o:EO} {f:Opd} {args:List Opd} (hw:zcs s.st ro.guard=some true) (hf:s.st.free ro.dst {}) (ho:ro.op= .call true f args)
 (As:evl G s.st f=some (.yl k)) (Au:zgE G s.st args=some vs) (h:evYield R d p ro l s k vs=some o):Big Γ G (.ops d p (ro::l) s.st) o.out:=by
 unfold evYield at h;obtain⟨⟨env,ps,bd,st⟩,hk,z1⟩:=bind_some h;obtain⟨_,AE,z2⟩:=bind_some z1;obtain⟨⟨ca,cb⟩,hc,z3⟩:=bind_some z2;obtain⟨_,Ac,z4⟩:=bind_some z3;obtain⟨⟨e1,s1⟩,h1,z5⟩:=bind_some z4;obtain⟨_,Oa,z6⟩:=bind_some z5;obtain⟨⟨env1,ps1,bd1,st1⟩,A3,z7⟩:=bind_some z6;obtain⟨_,Nc,z8⟩:=bind_some z7;obtain⟨⟨e2,s2⟩,h2,z9⟩:=bind_some z8;obtain⟨⟨env',ps',bd',st2⟩,AF,z10⟩:=bind_some z9;obtain⟨_,Gs,z11⟩:=bind_some z10;have q1:=zIU (zGp AE);have q2:=zIV (zGp Nc);have q3:=zJi (zGp Gs);have q4:=zIN hc;have q5:=of_decide_eq_true (zGp Oa);have q6:=of_decide_eq_true (zGp Ac);simp only at q1 q2 q3 q4 q5 q6 h1 h2 hk A3 AF z11;subst q1 q2 q3 q4 q5;obtain⟨s',rfl,hb⟩:=zGn hR z11;have g1:=hR _ _ (zGk h1);have g2:=hR _ _ (zGk h2);simp only[ET.task,EO.out,E.round_st]at g1 g2;refine .opsYield (s:=s.st) (s1:=s1.st) (s2:=s2.st) (e:=e2) hw hf ho As (zGO hk) Au q6 g1 (zGO A3) ?_ (zGO AF) ?_
 ·simpa only[E.st,Fn.app_set]using g2
 ·simpa only[E.st,Fn.app_set]using hb
theorem zIY (hR:zGM Γ G R) {d:Bool} {p:Nat} {ro:ROp} {l:List ROp} {s:E} {o:EO} (hw:zcs s.st ro.guard=some true) (h:evOp Γ G R d p ro l s=some o):Big Γ G (.ops d p (ro::l) s.st) o.out:=by
 unfold evOp at h;split at h
 ·rename_i raw f args Da;have ho:=zJx Da;obtain⟨_,hf,h⟩:=bind_some h;obtain⟨fv,As,h⟩:=bind_some h;obtain⟨vs,Au,h⟩:=bind_some h;have Bd:=E.free_of (zGp hf);split at h
  ·rename_i k hk;obtain⟨_,hr,h⟩:=bind_some h;have Ah:=zJ7 hk;rw[Ah]at As;rw[zGp hr]at ho;exact zHJ hR hw Bd ho As Au h
  ·obtain⟨⟨g,a,b⟩,Ax,h⟩:=bind_some h;obtain⟨fn,hg,h⟩:=bind_some h;split at h
   ·rename_i Ct;rw[Ct]at ho;obtain⟨⟨r,h',n'⟩,hc,h⟩:=bind_some h;obtain⟨s',rfl,hb⟩:=zGn hR h;have g1:=hR _ _ (zHf hc);exact .opsRaw hw Bd ho As Ax hg trivial Au g1 hb
   ·rename_i Ct;have Ct:raw=false:=by simpa using Ct
    rw[Ct]at ho;obtain⟨_,hr,h⟩:=bind_some h;obtain⟨rs,AD,h⟩:=bind_some h;obtain⟨r,hc,h⟩:=bind_some h;obtain⟨_,hd,h⟩:=bind_some h;obtain⟨s',rfl,hb⟩:=zGn hR h;have g1:=hR _ _ (zIG hc);have Dz:fn.raw=false:=by simpa using zGp hr
    have JS:=zGp hd;simp only[Bool.or_eq_true,Bool.not_eq_true',List.isEmpty_iff]at JS;refine .opsPure hw Bd ho As Ax hg Dz Au AD g1 (fun h0=> ?_) hb;rcases JS with(JS | JS) | JS
    ·rw[JS]at h0;cases h0
    ·exact .inl JS
    ·exact .inr JS
 ·split at h
  ·rename_i f args Da;have ho:=zIX Da;obtain⟨_,hf,h⟩:=bind_some h;obtain⟨fv,As,h⟩:=bind_some h;obtain⟨vs,Au,h⟩:=bind_some h;obtain⟨⟨g,a,b⟩,Ax,h⟩:=bind_some h;obtain⟨fn,hg,h⟩:=bind_some h;obtain⟨_,hr,h⟩:=bind_some h;obtain⟨rs,AD,h⟩:=bind_some h;obtain⟨_,hd,h⟩:=bind_some h;obtain⟨⟨r,h',n'⟩,hc,h⟩:=bind_some h;obtain⟨e,he,h⟩:=bind_some h;obtain⟨s',rfl,hb⟩:=zGn hR h;have g1:=hR _ _ (zHf hc);exact .opsFresh hw (E.free_of (zGp hf)) ho As Ax hg trivial Au AD (List.isEmpty_iff.1 (zGp hd)) g1 he hb
  ·obtain⟨e,he,h⟩:=bind_some h;obtain⟨_,hf,h⟩:=bind_some h;obtain⟨s',rfl,hb⟩:=zGn hR h;exact .opsEff hw (E.free_of (zGp hf)) he hb
theorem zGU (hR:zGM Γ G R):zGM Γ G (evStep Γ G R):=by
 intro t o h
 cases t with
 | code c s=>exact zH4 hR h
 | loop b s=>
   simp only[evStep]at h;obtain⟨⟨e,s1⟩,h1,h⟩:=bind_some h;have g1:=hR _ _ (zGk h1)
   cases e with
   | normal=>
     obtain⟨⟨e2,s2⟩,h2,h⟩:=bind_some h;simp only[zA]at h;subst h
     exact .loopN g1 (hR _ _ (zGk h2))
   | exit id=>simp only[zA]at h;subst h;exact .loopX g1 (by intro h;cases h)
   | ret=>simp only[zA]at h;subst h;exact .loopX g1 (by intro h;cases h)
 | ops d p l s=>
   cases l with
   | nil=>simp only[evStep,zA]at h;subst h;exact .opsNil
   | cons ro l=>
     simp only[evStep]at h;obtain⟨w,hw,h⟩:=bind_some h
     cases w with
     | true=>exact zIY hR hw h
     | false=>
       simp only[zG,if_false]at h;obtain⟨_,hf,h⟩:=bind_some h;obtain⟨s',rfl,hb⟩:=zGn hR h
       exact .opsSkip hw (E.free_of (zGp hf)) hb
 | pcall g args=>
   simp only[evStep]at h;obtain⟨fn,hg,h⟩:=bind_some h;obtain⟨_,hr,h⟩:=bind_some h;have Dz:fn.raw=false:=by simpa using zGp hr
   split at h
   ·rename_i e he;obtain⟨r,hx,h⟩:=bind_some h;simp only[zA]at h;subst h;exact .pext hg Dz (zIA he) hx
   ·obtain⟨⟨e,s1⟩,h1,h⟩:=bind_some h;obtain⟨_,hn,h⟩:=bind_some h;obtain⟨v,hv,h⟩:=bind_some h;obtain⟨r,Bh,h⟩:=bind_some h;simp only[zA]at h;subst h
    exact .pcall hg Dz (hR _ _ (zGk h1)) (zHW (zGp hn)) hv Bh
 | rcall g args hp m=>
   simp only[evStep]at h;obtain⟨fn,hg,h⟩:=bind_some h;split at h
   ·rename_i hr;obtain⟨rs,AD,h⟩:=bind_some h;obtain⟨r,hc,h⟩:=bind_some h;simp only[zA]at h;subst h;have:=Big.rpure (n:=m) hg hr AD (hR _ _ (zIG hc));rw[<- E.hpSet_app]at this;exact this
   obtain⟨_,hr,h⟩:=bind_some h;split at h
   ·rename_i e he;obtain⟨⟨r,h',n'⟩,hx,h⟩:=bind_some h;simp only[zA]at h;subst h;exact .rext hg (zGp hr) (zIA he) hx
   ·obtain⟨⟨e,s1⟩,h1,h⟩:=bind_some h;obtain⟨_,hn,h⟩:=bind_some h;obtain⟨v,hv,h⟩:=bind_some h;simp only[zA]at h;subst h;exact .rcall hg (zGp hr) (hR _ _ (zGk h1)) (zHW (zGp hn)) hv
noncomputable def evO (Γ:Nat->Option F) (G:Nat->List T) (K:Nat->List V->Option V):Nat->ET->Option EO
 | 0=>fun _=>none
 | n+1=>fun t=>match t with
   | .pcall g args=>(match K g args with
     | some r=>some (.val r)
     | none=>evStep Γ G (evO Γ G K n) (.pcall g args))
   | t=>evStep Γ G (evO Γ G K n) t
theorem zHa {K:Nat->List V->Option V} (hK: ∀g args r,K g args=some r->Den Γ G g args=some r): ∀n,zGM Γ G (evO Γ G K n)
 | 0=>fun _ _ h=>by cases h
 | n+1=>by
   intro t o h
   cases t with
   | pcall g args=>
     simp only[evO]at h;split at h
     ·rename_i r hr;simp only[zA]at h;subst h;exact zhC.1 (hK g args r hr)
     ·exact zGU (zHa hK n) _ _ h
   | _=>exact zGU (zHa hK n) _ _ h
theorem zKt {K:Nat->List V->Option V} (hK: ∀g args r,K g args=some r->Den Γ G g args=some r) (n:Nat) {g:Nat} {args:List V} {r:V}
 (h:evO Γ G K n (.pcall g args)=some (.val r)):Den Γ G g args=some r:=zhC.2 (zHa hK n _ _ h)
end
/-! The same evaluator in a form that the kernel runs with less room. -/
end Rg
end
section
set_option maxRecDepth 100000
namespace Rg
open Go
mutual
def eqT:T->T->Bool
 | .int k a,.int l b=>decide (k=l)&&decide (a=b)
 | .bool a,.bool b=>decide (a=b)
 | .str a,.str b=>decide (a.data.toList=b.data.toList)
 | .sl a,.sl b=>zKA a b
 | .ip a,.ip b=>eqR a b
 | _,_=>false
def eqR:List T->List T->Bool
 | [],[]=>true
 | x::a,y::b=>eqT x y&&eqR a b
 | _,_=>false
def zKA:List (List T)->List (List T)->Bool
 | [],[]=>true
 | x::a,y::b=>eqR x y&&zKA a b
 | _,_=>false
end
mutual
theorem zJ4: ∀{a b:T},eqT a b=true->a=b
 | .int k a,b,h=>by
   cases b<;>simp only[eqT,zF,decide_eq_true_eq,zG]at h
   rw[h.1,h.2]
 | .bool a,b,h=>by
   cases b<;>simp only[eqT,decide_eq_true_eq,zG]at h
   rw[h]
 | .str a,b,h=>by
   cases b<;>simp only[eqT,decide_eq_true_eq,zG]at h
   rename_i b
   have:a=b:=by
    cases a;cases b
    congr
    exact Array.toList_inj.1 h
   rw[this]
 | .sl a,b,h=>by
   cases b<;>simp only[eqT,zG]at h
   rw[zJr h]
 | .nilp,b,h=>by simp[eqT]at h
 | .nils,b,h=>by simp[eqT]at h
 | .nilm,b,h=>by simp[eqT]at h
 | .nilf,b,h=>by simp[eqT]at h
 | .nili,b,h=>by simp[eqT]at h
 | .ip a,b,h=>by
   cases b<;>simp only[eqT,zG]at h
   rw[zIC h]
 | .fn _ _ _,b,h=>by simp[eqT]at h
 | .fa _ _,b,h=>by simp[eqT]at h
 | .opq,b,h=>by simp[eqT]at h
 | .slc _,b,h=>by simp[eqT]at h
theorem zIC: ∀{a b:List T},eqR a b=true->a=b
 | [],[],_=>rfl
 | [],_::_,h=>by simp[eqR]at h
 | _::_,[],h=>by simp[eqR]at h
 | x::a,y::b,h=>by
   simp only[eqR,zF]at h;rw[zJ4 h.1,zIC h.2]
theorem zJr: ∀{a b:List (List T)},zKA a b=true->a=b
 | [],[],_=>rfl
 | [],_::_,h=>by simp[zKA]at h
 | _::_,[],h=>by simp[zKA]at h
 | x::a,y::b,h=>by
   simp only[zKA,zF]at h;rw[zIC h.1,zJr h.2]
end
def zH7:List V->Option (List T)
 | []=>some []
 | .t x::r=>(zH7 r).map (x:: ·)
 | _=>none
theorem zHc: ∀{l:List V} {r:List T},zH7 l=some r->l=r.map V.t
 | [],r,h=>by cases h;rfl
 | .t x::l,r,h=>by
   simp only[zH7,zE]at h;obtain⟨y,hy,rfl⟩:=h
   rw[zHc hy];rfl
 | .ms _ _ _::_,_,h=>by cases h
 | .mp _ _ _::_,_,h=>by cases h
 | .mm _::_,_,h=>by cases h
 | .yl _::_,_,h=>by cases h
 | .ifc _ _::_,_,h=>by cases h
 | .fn _ _ _::_,_,h=>by cases h
 | .agg _::_,_,h=>by cases h
 | .tup _::_,_,h=>by cases h
 | .undef::_,_,h=>by cases h
 | .lb::_,_,h=>by cases h
def eqV:V->V->Bool
 | .t a,.t b=>eqT a b
 | .agg a,.agg b=>match zH7 a,zH7 b with
   | some x,some y=>eqR x y
   | _,_=>false
 | _,_=>false
theorem zKS {a b:V} (h:eqV a b=true):a=b:=by
 unfold eqV at h;split at h
 ·rw[zJ4 h]
 ·split at h
  ·rename_i h1 h2;rw[zHc h1,zHc h2,zIC h]
  ·cases h
 ·cases h
def zKz:List V->List V->Bool
 | [],[]=>true
 | x::a,y::b=>eqV x y&&zKz a b
 | _,_=>false
theorem zJp: ∀{a b:List V},zKz a b=true->a=b
 | [],[],_=>rfl
 | [],_::_,h=>by simp[zKz]at h
 | _::_,[],h=>by simp[zKz]at h
 | x::a,y::b,h=>by
   simp only[zKz,zF]at h;rw[zKS h.1,zJp h.2]
def zMl (l:List (Nat×List V×V)) (g:Nat) (args:List V):Option V:=(l.find? fun e=>e.1==g&&zKz e.2.1 args).map (·.2.2)
theorem zKl {l:List (Nat×List V×V)} (h: ∀e∈l,Den Γ G e.1 e.2.1=some e.2.2): ∀g args r,zMl l g args=some r->Den Γ G g args=some r:=by
 intro g args r hr;unfold zMl at hr;rw[zE]at hr;obtain⟨e,he,rfl⟩:=hr;have h1:=List.find?_some he;simp only[zF,beq_iff_eq]at h1;rw[<- h1.1,<- zJp h1.2];exact h e (List.mem_of_find?_eq_some he)
end Rg
end
section
set_option maxRecDepth 100000
namespace Rg
open Go
def cX:Cell:=⟨bs [120],2,0,-1,false,0⟩
def xE:Expr:=.mk 2 2 0 []
def geE:Expr:=.mk 13 1 0 [.mk 1 2 2 [],xE]
def leE:Expr:=.mk 13 1 0 [xE,.mk 1 2 2 []]
def zLO:Expr:=.mk 13 1 0 [.mk 3 2 0 [],xE]
def tE (x:Expr):Expr:=.mk 14 1 0 [.mk 13 1 0 [x,.mk 1 2 1 []],.mk 1 1 0 [],.mk 1 1 1 []]
def mx4:List Nat:=[15,14,12,8]++List.replicate 60 0
def zKp:Expr:=.mk 5 1 0 [tE (.mk 3 2 0 []),zLO]
theorem S4:Shp [0] [2]:=⟨by decide,by decide,by decide+kernel,by decide,by decide⟩
theorem el4 {s:List Nat} (h:s.Pairwise (· < ·)) (h2: ∀n∈s,n<4):Elems [2] s:=⟨h,fun n hn=>by
 have:=h2 n hn
 exact this⟩
theorem zG3 (e:Expr) (s:List Nat) (h1:(e.valid [cX] false&&decide (e.w=1))=true) (h2: ∀c∈e.sup 2,c∈[(0:Int)]) (h3:inL (pC [cX]) [0] zGl e=s):
 Den Γ G 509 [.t (.sl ([cX].map Cell.enc)),.t (ints [0]),(.agg [.t (ti (e).op),.t (ti (e).w),.t (ti (e).n),.t (.sl ((e).kids.map (Expr.enc)))])]=some (.tup [zGs [0] [2] (nI s),vi 0]):=by
 have:=zIt [cX] [0] e (by simp) (by simp) (fun c hc=>by simp at hc;subst hc;simp) (fun _=>h2);rw[this];unfold ofR;rw[if_neg (by decide+kernel),if_neg (by decide+kernel),if_neg (by rw[h1];simp),h3];rfl
theorem B4:Bm mx4:=⟨by decide,by decide+kernel⟩
theorem zKF {a b c:List Int} (hc:c.Pairwise (· < ·)) (h: ∀x,x∈a++b<->x∈c):unL a b=c:=by
 refine List.Perm.eq_of_pairwise (le:=(· < ·)) (fun a b _ _ h1 h2=>by omega) (zjV _) hc ((List.perm_ext_iff_of_nodup ((zjV _).imp fun h=>by omega) (hc.imp fun h=>by omega)).2 fun x=> ?_);rw[ziF];exact h x
abbrev zKs (e:Expr):V:=(.agg [.t (ti (e).op),.t (ti (e).w),.t (ti (e).n),.t (.sl ((e).kids.map (Expr.enc)))])
def zJ2:List (Nat×List V×V):=
 [(536,[.t (ints [0]),.t (ints [2]),.t (bmT mx4)],zLP [0] [2] (zI6 mx4 4096)),
  (520,[zGs [0] [2] [],zGs [0] [2] []],.tup [zGs [0] [2] [],vi 0]),(520,[zGs [0] [2] [2,3],zGs [0] [2] [2,3]],.tup [zGs [0] [2] [2,3],vi 0]),(520,[zGs [0] [2] [0,1,2],zGs [0] [2] [0,1,2]],.tup [zGs [0] [2] [0,1,2],vi 0]),
  (509,[.t (.sl ([cX].map Cell.enc)),.t (ints [0]),zKs geE],.tup [zGs [0] [2] [2,3],vi 0]),(509,[.t (.sl ([cX].map Cell.enc)),.t (ints [0]),zKs leE],.tup [zGs [0] [2] [0,1,2],vi 0]),
  (509,[.t (.sl ([cX].map Cell.enc)),.t (ints [0]),zKs (.mk 1 1 0 [])],.tup [zGs [0] [2] [],vi 0]),
  (518,[.t (.sl ([cX].map Cell.enc)),zKB zKp (tE xE)],.tup [vi 1,.t (ints []),.t (ints []),vi 0])]
theorem zJg: ∀e∈zJ2,Den Γ G e.1 e.2.1=some e.2.2:=by
 intro e he;simp only[zJ2,List.mem_cons,List.not_mem_nil,or_false]at he;rcases he with rfl | rfl | rfl | rfl | rfl | rfl | rfl | rfl
 ·exact zHS [0] [2] (by decide) (by decide) mx4 B4
 ·exact zGF S4 (s:=[]) (t:=[]) (el4 (by decide) (by decide)) (el4 (by decide) (by decide))
 ·exact zGF S4 (s:=[2,3]) (t:=[2,3]) (el4 (by decide) (by decide)) (el4 (by decide) (by decide))
 ·exact zGF S4 (s:=[0,1,2]) (t:=[0,1,2]) (el4 (by decide) (by decide)) (el4 (by decide) (by decide))
 ·exact zG3 geE [2,3] (by decide+kernel) (by decide+kernel) (by decide+kernel)
 ·exact zG3 leE [0,1,2] (by decide+kernel) (by decide+kernel) (by decide+kernel)
 ·exact zG3 (.mk 1 1 0 []) [] (by decide+kernel) (by decide+kernel) (by decide+kernel)
 ·have e1:unL (zKp.sup 3) ((tE xE).sup 3)=[0]:=zKF (by decide) (by rw[show zKp.sup 3=[0]by decide+kernel,show(tE xE).sup 3=[]by decide+kernel];simp);have e2:unL (zKp.sup 2) ((tE xE).sup 2)=[0]:=zKF (by decide) (by rw[show zKp.sup 2=[0]by decide+kernel,show(tE xE).sup 2=[0]by decide+kernel];simp);have:=zHt [cX] (by decide) zKp (tE xE) (by decide+kernel) (by decide+kernel) (by decide+kernel) (by decide+kernel) (by rw[e1,e2];decide+kernel);unfold zLI at this;rw[e1,e2,show(List.range (2^(zcD (pC [cX]) [0]+zcD (pC [cX]) [0]))).find? (fun n=>zGx zKp (tE xE) (zHd [cX] [0] n) (zGY [cX] [0] [0] n))=none by decide+kernel]at this;exact this
theorem zJk:Den Γ G 516 []=some (vb true):=zKt (zKl zJg) 3000 (by kernel_rfl)
theorem zGT (cells:List Cell) (By:cells.length<2^48) (a b:Expr):Den Γ G 502 [.t (.sl (cells.map Cell.enc)),(.agg [.t (ti (a).op),.t (ti (a).w),.t (ti (a).n),.t (.sl ((a).kids.map (Expr.enc)))]),(.agg [.t (ti (b).op),.t (ti (b).w),.t (ti (b).n),.t (.sl ((b).kids.map (Expr.enc)))])]=some (vb true):=zIh zJk cells By a b
#print axioms zGT
end Rg
end
