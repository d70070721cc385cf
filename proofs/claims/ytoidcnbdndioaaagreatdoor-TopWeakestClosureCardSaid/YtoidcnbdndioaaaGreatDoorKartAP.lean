/- Part of the proof of laws of relyguardtop. No condition. -/
import Derived.Test.YtoidcnbdndioaaaGreatDoorKartAO
set_option linter.unusedSimpArgs false
set_option linter.unusedVariables false
section
namespace Rg
open Go
theorem zOu {w:Nat} (y:Nat) (hy:y<64):(w:Int).fdiv (2^min y 64)=((w/ 2^y:Nat):Int):=by
 rw[Nat.min_eq_left (by omega),Int.fdiv_eq_ediv_of_nonneg _ (Int.le_of_lt (zcn _))]
 push_cast;rfl
theorem zOw {w y:Nat}:((w/ 2^y&&& 1:Nat)=1)<->w.testBit y=true:=by
 rw[Nat.and_one_is_mod,Nat.testBit_eq_decide_div_mod_eq,decide_eq_true_eq]
def prB (ws:List Nat) (n:Nat):Bool:=(ws.getD (n/ 64) 0).testBit (n % 64)
theorem zLV (ws:List Nat) (B:Bm ws) (ky:Nat) (Inv:Nat->(Nat->Option O)->Nat->Prop) (FX: ∀n H m m',Inv n H m->m<=m'->Inv n H m')
 (Be: ∀n H m,n<4096->prB ws n=false->Inv n H m->Inv (n+1) H m)
 (K6: ∀n H m,n<4096->prB ws n=true->Inv n H m-> ∃h' n',DenY Γ G ky [vi (n/ 64:Nat),vi (n % 64:Nat)] H m=some (vb true,h',n')/\Inv (n+1) h' n') (H:Nat->Option O) (nx:Nat) (h0:Inv 0 H nx):
 ∃r h' n',DenR Γ G 588 [.yl ky,.t (.ip [bmT ws])] H nx=some (r,h',n')/\Inv 4096 h' n':=by
 have hl:=B.len;unfold bmT
 (refine zay Γ588 rfl ?_;dsimp only[zPS])
 simp -dsimp -implicitDefEqProofs only[go_sem,seval];refine zaq 1073741752 64 (fun i f h x=>(f 7).v=vi i/\Inv (64*i) h x) rfl ⟨by simp -dsimp -implicitDefEqProofs only[go_sem,seval],FX _ _ _ _ h0 (by simp -dsimp -implicitDefEqProofs only[go_sem,seval];omega)⟩ ?_;rintro i f u h x bb hi ⟨g7,hI⟩;have hw:=zan i (by omega)
 by_cases AV:i<64
 rotate_left
 ·have DB:((i:Int)<64)=False:=eq_false (by omega);have:i=64:=by omega
  subst this;simp -dsimp -implicitDefEqProofs only[go_sem,seval,g7];exact FX _ _ _ _ hI (by simp -dsimp -implicitDefEqProofs only[go_sem,seval];omega)
 have DB:((i:Int)<64)=True:=eq_true (by omega);obtain⟨w,Ho,FP⟩:=zai (show i<ws.length by omega);have G1:=B.lt w FP
 have GW:List.drop (i*1) (ws.map fun w:Nat=>T.int .u64 (w:Int))=T.int .u64 (w:Int)::List.drop (i+1) (ws.map fun w:Nat=>T.int .u64 (w:Int)):=by
  rw[Nat.mul_one];exact zdo (by rw[zJ,Ho];rfl)
 simp -dsimp -implicitDefEqProofs only[go_sem,seval,g7,DB,GW];refine zaq 536862752 64 (fun j f1 h1 x1=>(f1 13).v=vi j/\Inv (64*i+j) h1 x1) rfl ⟨by simp -dsimp -implicitDefEqProofs only[go_sem,seval],FX _ _ _ _ hI (by simp -dsimp -implicitDefEqProofs only[go_sem,seval];omega)⟩ ?_;rintro j f1 u1 h1 x1 bb1 hj ⟨g13,QZ⟩;have Cj:=zan j (by omega)
 by_cases AN:j<64
 rotate_left
 ·have Ba:((j:Int)<64)=False:=eq_false (by omega);have:j=64:=by omega
  subst this;simp -dsimp -implicitDefEqProofs only[go_sem,seval,g13,g7];exact⟨AV,by simp -dsimp -implicitDefEqProofs only[go_sem,seval,hw],FX _ _ _ _ QZ (by simp -dsimp -implicitDefEqProofs only[go_sem,seval];omega)⟩
 have Ba:((j:Int)<64)=True:=eq_true (by omega);have d1:(64*i+j)/ 64=i:=by omega
 have d2:(64*i+j) % 64=j:=by omega
 have hp:prB ws (64*i+j)=w.testBit j:=by rw[prB,d1,d2,zK,Ho];rfl
 have s0:((j:Int)<0)=False:=eq_false (by omega);have e1:=zOu (w:=w) j AN;have SD:w/ 2^j<2^64:=Nat.lt_of_le_of_lt (Nat.div_le_self _ _) G1;have e2:IntKind.u64.wrap ((BitVec.ofInt IntKind.u64.bits ((w/ 2^j:Nat):Int)&&& BitVec.ofInt IntKind.u64.bits 1).toNat:Int)=((w/ 2^j&&& 1:Nat):Int):=zLI SD (show 1<2^64 by decide);have hb:=zOw (w:=w) (y:=j);cases K1:w.testBit j
 ·rw[K1]at hb hp;have e3:(((w/ 2^j&&& 1:Nat):Int)=1)=False:=eq_false fun h=>by have:=hb.1 (by omega);cases this
  simp -dsimp -implicitDefEqProofs only[go_sem,seval,g13,Ba,s0,e1,e2,e3];exact⟨AN,by simp -dsimp -implicitDefEqProofs only[go_sem,seval,Cj],FX _ _ _ _ (Be (64*i+j) _ _ (by omega) hp QZ) (by simp -dsimp -implicitDefEqProofs only[go_sem,seval];omega)⟩
 ·rw[K1]at hb hp;have e3:(((w/ 2^j&&& 1:Nat):Int)=1)=True:=eq_true (by have:=hb.2 rfl;omega);simp -dsimp -implicitDefEqProofs only[go_sem,seval,g13,Ba,s0,e1,e2,e3];obtain⟨h2,n2,q1,q2⟩:=K6 (64*i+j) h1 (x1+1+2+12) (by omega) hp (FX _ _ _ _ QZ (by omega));rw[d1,d2]at q1;refine zas (P:=fun r RR n''=>r=vb true/\RR=h2/\n''=n2) ⟨_,h2,n2,q1,rfl,rfl,rfl⟩ ?_;rintro r RR n'' ⟨rfl,rfl,rfl⟩;simp -dsimp -implicitDefEqProofs only[go_sem,seval,g13];exact⟨AN,by simp -dsimp -implicitDefEqProofs only[go_sem,seval,Cj],FX _ _ _ _ q2 (by simp -dsimp -implicitDefEqProofs only[go_sem,seval];omega)⟩
def prT (n:Nat):List T:=[ti (n/ 64:Nat),ti (n % 64:Nat)]
def rwP (L:List Nat):List (List V):=(L.map prT).map (·.map V.t)
theorem zMr (L:List Nat):(rwP L).length=L.length:=by simp[rwP]
theorem zMt (L:List Nat):((rwP L).all fun r=>decide (r.length=2))=true:=by simp[rwP,prT]
theorem zMs (L:List Nat) (n:Nat):rwP (L++[n])=rwP L++[[.t (ti (n/ 64:Nat)),.t (ti (n % 64:Nat))]]:=by simp[rwP,prT]
def zLh (ws:List Nat) (n:Nat):List Nat:=(List.range n).filter (prB ws)
def zHy (l ws:List Int) (L:List Nat):V:=.agg [.t (ints l),.t (ints ws),.t (.sl (L.map prT))]
theorem zKE (ws:List Nat):Den Γ G 578 [.t (bmT ws)]=some (.t (.fn 588 [] [.ip [bmT ws]])):=by
 unfold bmT
 (refine zag Γ578 rfl ?_;dsimp only[zPY])
 simp -dsimp -implicitDefEqProofs only[go_sem,seval]
theorem zPt {h:Nat->Option O} {x ky k7 n:Nat} {env:Nat->V} {va vb2 vL:V} {L:List Nat} (hk:h ky=some (.loop env [17,18] zJc .ready)) (e7:env 7= .mp k7 0 0) (h7:h k7=some (.rows 3 [[va,vb2,vL]] false)) (hO:zaF h x vL 2 (rwP L)) (hL:L.length<2^20) (hky:ky<x) (Vw:k7<x):
 ∃h' n',DenY Γ G ky [vi (n/ 64:Nat),vi (n % 64:Nat)] h x=some (vb true,h',n')/\h' ky=some (.loop env [17,18] zJc .ready)/\(∃vL',h' k7=some (.rows 3 [[va,vb2,vL']] false)/\zaF h' n' vL' 2 (rwP (L++[n]))/\ ∀j,j<x->zbg vL' j)/\x<=n'/\ ∀j,j<x->j≠k7->zbg vL j->h' j=h j:=by
 have n7:k7≠ky:=by rintro rfl;rw[hk]at h7;cases h7
 have:=zjy (Γ:=Γ) (G:=G) (vs:=[vi (n/ 64:Nat),vi (n % 64:Nat)]) (n:=x) (P:=fun ex h' n'=>ex= .normal/\h' ky=some (.loop env [17,18] zJc .busy)/\(∃vL',h' k7=some (.rows 3 [[va,vb2,vL']] false)/\zaF h' n' vL' 2 (rwP (L++[n]))/\ ∀j,j<x->zbg vL' j)/\x<=n'/\ ∀j,j<x->j≠ky->j≠k7->zbg vL j->h' j=h j) hk rfl (fun ex h' n' hP=>⟨_,_,_,hP.2.1⟩) (by
  have u1:(ky=x+1+1+5)=False:=eq_false (by omega);have u2:(x+1+1+5=k7)=False:=eq_false (by omega);have u3:(k7=x+1+1+5)=False:=eq_false (by omega);have y1:=hO.valOf
  have OZ:zbg vL ky:=by
   rcases hO with⟨rfl,_⟩ | ⟨q,rfl,_,hq⟩
   ·intro i n e;cases e
   ·exact za3 (by rintro rfl;rw[hk]at hq;cases hq) _ _
  have UY:zbg vL k7:=by
   rcases hO with⟨rfl,_⟩ | ⟨q,rfl,_,hq⟩
   ·intro i n e;cases e
   ·exact za3 (by rintro rfl;rw[h7]at hq;cases hq) _ _
  have o1: ∀a1 a2 b,zaF (updC (updC (updC h ky a1) ky a2) (x+1+1+5) b) (x+1+1+5+1) vL 2 (rwP L):=fun a1 a2 b=>hO.keep (by omega) fun q q1 q2=>by
   have:q≠ky:=by rintro rfl;exact q2 OZ
   rw[zaa,if_neg (by omega),zaa,if_neg this,zaa,if_neg this]
  have r1:=fun a1 a2 b=>(o1 a1 a2 b).rowsS
  simp -dsimp -implicitDefEqProofs only[go_sem,seval,e7,h7,n7,y1,u1,u2,u3,r1];refine zav (o1 _ _ _) (by omega) (by rw[zMr];omega) (by decide) rfl (zMt _) ?_;intro v hp hP Bp Aq;have z1:=hP.valOf;have z2:=hP.cells;unfold V.cells at z2;have q7:=Aq k7 (by omega) UY;rw[zaa,if_neg (by omega),zaa,if_neg n7,zaa,if_neg n7,h7]at q7;have qy:=Aq ky (by omega) OZ;rw[zaa,if_neg (by omega),zaa,if_pos rfl]at qy;simp -dsimp -implicitDefEqProofs only[go_sem,seval,e7,z1,z2,q7];refine⟨rfl,?_,⟨v,?_,?_,fun j hj=>Bp j (by omega)⟩,by simp -dsimp -implicitDefEqProofs only[go_sem,seval];omega,fun j hj j1 j2 j3=> ?_⟩
  ·simp only[zaC,zaA];rw[zaa,if_neg (Ne.symm n7)];exact qy
  ·simp only[zaC,zaA];rw[zaa,if_pos rfl]
  ·simp only[zaC,zaA];rw[zMs];refine hP.keep (by simp -dsimp -implicitDefEqProofs only[go_sem,seval];omega) fun q q1 q2=> ?_
   have:q≠k7:=by rintro rfl;exact q2 (Bp q (by omega))
   rw[zaa,if_neg this]
  ·simp only[zaC,zaA]
   rw[zaa,if_neg j2,Aq j (by omega) j3,zaa,if_neg (by omega),zaa,if_neg j1,zaa,if_neg j1])
 obtain⟨ex,h',n',⟨rfl,q1,⟨vL',q2,q3,q4⟩,q5,q6⟩,env',ps',bd',q7,q8⟩:=this;rw[q1]at q7;simp only[zA,O.loop.injEq]at q7;obtain⟨rfl,rfl,rfl,_⟩:=q7;have Tk:zbg vL' ky:=q4 ky hky;refine⟨_,n',q8,by rw[zaa,if_pos rfl];rfl,⟨vL',by rw[zaa,if_neg n7];exact q2,q3.keep (Nat.le_refl _) fun q z1 z2=> ?_,q4⟩,q5,fun j hj j2 j3=> ?_⟩
 ·have:q≠ky:=by rintro rfl;exact z2 Tk
  rw[zaa,if_neg this]
 ·rw[zaa];split
  ·rename_i e;subst e;exact hk.symm
  ·exact q6 j hj ‹_› j2 j3
theorem zOJ {env:Nat->V} {H:Nat->Option O} {ky k7:Nat} {va vb2:V} {m:List Nat} {C:Ex->(Nat->Option O)->Nat->Prop} {w:WK C} (B:Bm m) (hk:H ky=some (.loop env [17,18] zJc .ready)) (e7:env 7= .mp k7 0 0) (h7:H k7=some (.rows 3 [[va,vb2,.t .nils]] false)) (bd:k7<ky)
 (hC: ∀h' n' vL,h' k7=some (.rows 3 [[va,vb2,vL]] false)->zaF h' n' vL 2 (rwP (zLh m 4096))->(∀j,j<=ky->zbg vL j)->(∀j,j<ky->j≠k7->h' j=H j)->C .normal (updC h' ky (some .dead)) n'):
 zBm (DenR Γ G 588 [.yl ky,.t (.ip [bmT m])] H (ky+1)) ky C w:=by
 have BL: ∀n,(zLh m n).length<=n:=fun n=>by
  have:=List.length_filter_le (prB m) (List.range n);rwa[List.length_range]at this
 obtain⟨r,h',n',q1,q2,vL,q3,q4,q5,q6,q7⟩:=zLV m B ky (fun n h x=>h ky=some (.loop env [17,18] zJc .ready)/\ ∃vL,h k7=some (.rows 3 [[va,vb2,vL]] false)/\zaF h x vL 2 (rwP (zLh m n))/\(∀j,j<=ky->zbg vL j)/\(∀j,j<ky->j≠k7->h j=H j)/\ky+1<=x)
  (fun n h x y ⟨a,vL,b,c,d,e,f⟩ BW=>⟨a,vL,b,c.le BW,d,e,by omega⟩)
  (fun n h x hn hb ⟨a,vL,b,c,d,e,f⟩=>⟨a,vL,b,by
    rw[zLh,List.range_succ,List.filter_append,List.filter_cons,if_neg (by rw[hb];simp),List.filter_nil,List.append_nil];exact c,d,e,f⟩)
  (fun n h x hn hb ⟨a,vL,b,c,d,e,f⟩=>by
    obtain⟨h',n',z1,z2,⟨vL',z3,z4,z5⟩,z6,z7⟩:=zPt (n:=n) a e7 b c (by have:=BL n;omega) (by omega) (by omega);refine⟨h',n',z1,z2,vL',z3,?_,fun j hj=>z5 j (by omega),fun j hj j2=> ?_,by omega⟩
    ·rw[zLh,List.range_succ,List.filter_append,List.filter_cons,if_pos hb,List.filter_nil];exact z4
    ·rw[z7 j (by omega) j2 (d j (by omega))];exact e j hj j2)
  H (ky+1) ⟨hk,.t .nils,h7,.inl ⟨rfl,rfl⟩,(fun j _ i n e=>by simp at e),(fun j _ _=>rfl),Nat.le_refl _⟩
 refine znN (P:=fun e h n=>e= .normal/\h=h'/\n=n') ⟨r,h',n',q1,_,_,_,_,_,q2,rfl,rfl,rfl,rfl⟩ ?_;rintro _ _ _ ⟨rfl,rfl,rfl⟩;exact hC _ _ vL q3 q4 q5 q6
theorem zHj (l ws:List Int) (hl:l.length<2^40) (Fy:ws.length<2^40) (m:List Nat) (B:Bm m):Den Γ G 536 [.t (ints l),.t (ints ws),.t (bmT m)]=some (zHy l ws (zLh m 4096)):=by
 have pm:=zKE m;unfold bmT at pm
 have BL: ∀n,n<=4096->(zLh m n).length<=4096:=fun n hn=>by
  have:=List.length_filter_le (prB m) (List.range n);rw[List.length_range]at this;exact Nat.le_trans this hn
 unfold bmT
 (refine zag Γ536 rfl ?_;dsimp only[zQt])
 simp -dsimp -implicitDefEqProofs only[go_sem,seval];refine zni hl ?_;rintro v hp hO hf Bn ⟨hv,hc⟩;simp -dsimp -implicitDefEqProofs only[go_sem,seval,hv,hc];refine zni Fy ?_;rintro v2 D0 Cz Cv Jp ⟨DT,CG⟩;unfold V.cells at hc CG;simp -dsimp -implicitDefEqProofs only[go_sem,seval,hv,hc,DT,CG];simp -dsimp -implicitDefEqProofs only[go_sem,seval,pm];refine zOJ (k7:=6) (va:=v) (vb2:=v2) (m:=m) B (by rw[zaa,if_pos rfl]) (by simp -dsimp -implicitDefEqProofs only[go_sem,seval]) (by rw[zaa,if_neg (by omega),zaa,if_pos rfl]) (by omega) ?_;intro h' n' vL q1 q2 q3 q4;have y1:=q2.valOf;have y2:=q2.cells;unfold V.cells at y2
 have o1:zB1 (updC h' 10 (some .dead)) 3 v (zae l):=hO.keep fun j hj=>by
  rw[zaa,if_neg (by omega),q4 j (by omega) (by omega),zaa,if_neg (by omega),zaa,if_neg (by omega),zaa,if_neg (by omega),Cv j (by omega)]
 have o2:zB1 (updC h' 10 (some .dead)) 5 v2 (zae ws):=Cz.keep fun j hj=>by
  rw[zaa,if_neg (by omega),q4 j (by omega) (by omega),zaa,if_neg (by omega),zaa,if_neg (by omega),zaa,if_neg (by omega)]
 have o3:zaF (updC h' 10 (some .dead)) n' vL 2 (rwP (zLh m 4096)):=q2.keep (Nat.le_refl _) fun j z1 z2=>by
  have:j≠10:=by rintro rfl;exact z2 (q3 10 (by omega))
  rw[zaa,if_neg this]
 have t1:=zHt o1;have t2:=zHt o2
 have t3:toT (updC h' 10 (some .dead)) 1000 vL=some (.sl ((zLh m 4096).map prT)):=zcc (es:=(zLh m 4096).map prT) o3 (by
  intro e he t ht;obtain⟨n,_,rfl⟩:=List.mem_map.1 he;simp only[prT,List.mem_cons,List.not_mem_nil,or_false]at ht
  rcases ht with rfl | rfl<;>rfl)
 unfold zHy;simp -dsimp -implicitDefEqProofs only[go_sem,seval,q1,hv,DT,y1,hc,CG,y2];rw[t1,t2,t3];rfl
end Rg
end
section
namespace Rg
open Go
theorem zHK (l:List Int) (h: ∀n∈l,0<=n/\n<=8) (hl:l.length<=2^20):Den Γ G 535 [.t (ints l)]=some (vi (zGp l)):=by
 have hb: ∀i,0<=zGp (l.take i)/\zGp (l.take i)<=8*i:=by
  intro i
  induction i with
  | zero=>simp[zGp]
  | succ i ih=>
    by_cases hi:i<l.length
    ·obtain⟨n,hn,hm⟩:=zai hi;have:=h n hm;rw[zaf hn,zGM];omega
    ·rw[List.take_of_length_le (by omega)]at ih⊢;omega
 (refine zag Γ535 rfl ?_;dsimp only[zQu])
 simp -dsimp -implicitDefEqProofs only[go_sem,seval];refine zaT 65320 l.length (fun i f=>(f 8).v=vi i/\(f 3).v=vi (zGp (l.take i))) rfl rfl ⟨by simp -dsimp -implicitDefEqProofs only[go_sem,seval],by simp -dsimp -implicitDefEqProofs only[go_sem,seval];rfl⟩ ?_;rintro i f u x bs hi ⟨h4,h3⟩;have hw:=zan i (by omega);simp -dsimp -implicitDefEqProofs only[go_sem,seval,h4];refine zac (fun h=> ?_) (fun h=> ?_)<;>(try rw[h])<;>(try simp only[zah]at h)<;>(try simp -dsimp -implicitDefEqProofs only[go_sem,seval,h4])
 ·obtain⟨n,hn,hm⟩:=zai ‹i<l.length›;have h1:=hb i;have h2:=hb (i+1);rw[zaf hn,zGM]at h2;have Ht:IntKind.i64.wrap (zGp (l.take i)+n)=zGp (l.take i)+n:=zaH (by omega);simp -dsimp -implicitDefEqProofs only[go_sem,seval,h4,h3,hn,Ht];refine⟨by omega,by simp -dsimp -implicitDefEqProofs only[go_sem,seval,hw],by simp -dsimp -implicitDefEqProofs only[go_sem,seval,zaf hn,zGM]⟩
 ·have:i=l.length:=by omega
  subst this;rw[List.take_length]at h3;simp -dsimp -implicitDefEqProofs only[go_sem,seval,h3]
def shR (cells:List Cell) (l:List Int):V:=
 if zHi l (wsC cells l)=false then .tup [zGj [] [] [],vi 1]else
 if zGp (wsC cells l)>6 then .tup [zGj [] [] [],vi 2]else
 .tup [zGj l (wsC cells l) [],vi 0]
theorem zKZ (cells:List Cell):(Expr.mk 1 1 0 []).valid cells false=true:=rfl
theorem zMW (p:Prog) (l b:List Int):inL p l b (.mk 1 1 0 [])=[]:=by
 unfold inL;rw[List.filter_eq_nil_iff];intro n _;exact Bool.false_ne_true
theorem zMm (cells:List Cell) (l:List Int) (hR:l.Pairwise (· < ·)) (hl:l.length<2^20) (Mv: ∀c∈l,0<=c/\c<cells.length):
 Den Γ G 534 [.t (.sl (cells.map Cell.enc)),.t (ints l)]=some (shR cells l):=by
 have a1:=zIs cells l (.mk 1 1 0 []) hR hl Mv (fun _ c hc=>by cases hc);have a0:Den Γ G 509 [.t (.sl (cells.map Cell.enc)),.t (ints l),.agg [vi 1,vi 1,vi 0,.t (.sl [])]]=_:=a1
 have Fy:zHi l (wsC cells l)=true-> ∀n∈wsC cells l,0<=n/\n<=8:=fun h' n hn=>by
  simp only[zHi,zF,zN,decide_eq_true_eq]at h';obtain⟨i,hi,rfl⟩:=List.getElem_of_mem hn;have AV:i<l.length:=by simpa[wsC]using hi
  have h2:=h'.2 (l[i],(wsC cells l)[i]) (zL (i:=i) (by rw[List.getElem?_zip_eq_some];exact⟨zI AV,zI hi⟩));simp only at h2;omega
 unfold ofR at a0;rw[zMW,zKZ]at a0;unfold shR
 (refine zag Γ534 rfl ?_;dsimp only[zQv])
 by_cases b1:zHi l (wsC cells l)=true
 rotate_left
 ·have b1':zHi l (wsC cells l)=false:=by simpa using b1
  rw[if_pos b1']at a0⊢;unfold zGj at a0;simp -dsimp -implicitDefEqProofs only[go_sem,seval,a0];rfl
 have a3:=zG3 (wsC cells l) (Fy b1) (by simp[wsC];omega);rw[if_neg (by rw[b1];simp)]at a0⊢
 by_cases b2:zGp (wsC cells l)>12
 ·rw[if_pos b2]at a0;rw[if_pos (by omega)];unfold zGj at a0;simp -dsimp -implicitDefEqProofs only[go_sem,seval,a0];rfl
 rw[if_neg b2,if_neg (by simp[Expr.w])]at a0;unfold zGj at a0
 by_cases b3:zGp (wsC cells l)>6
 ·rw[if_pos b3];have b3':=eq_true b3;have a4:Den Γ G 535 [.t (ints (wsC cells l))]=some (vi (zGp (wsC cells l))):=zHK _ (Fy b1) (by simp[wsC];omega);simp -dsimp -implicitDefEqProofs only[go_sem,seval,a0,a4,b3'];rfl
 ·rw[if_neg b3];have b3':=eq_false b3;have a4:Den Γ G 535 [.t (ints (wsC cells l))]=some (vi (zGp (wsC cells l))):=zHK _ (Fy b1) (by simp[wsC];omega);simp -dsimp -implicitDefEqProofs only[go_sem,seval,a0,a4,b3'];rfl
def rpB (cells:List Cell) (l:List Int) (e:Expr) (n:Nat):Bool:=
 decide (n/ 64<2^zcD (pC cells) l)&&decide (n % 64<2^zcD (pC cells) l)&&decide (e.eval (stM (pC cells) l ((n/ 64:Nat):Int) zGi) (stM (pC cells) l ((n % 64:Nat):Int) zGi)=1)
def rpL (cells:List Cell) (l:List Int) (e:Expr) (n:Nat):List Nat:=(List.range n).filter (rpB cells l e)
theorem zMv {cells:List Cell} {l:List Int} {e:Expr} {n i:Nat} (hn:n<=4096) (h:i∈rpL cells l e n):i<4096:=by
 have:=List.mem_range.1 (List.mem_filter.1 h).1;omega
theorem zOg {cells:List Cell} {l:List Int} {e:Expr} {n:Nat} (hn:n<=4096):Bm (zGt (rpL cells l e n)):=zGB fun _ h=>zMv hn h
theorem zJV {cells:List Cell} {l:List Int} {e:Expr} {n:Nat}:(rpL cells l e n).Pairwise (· < ·):=List.Pairwise.filter _ List.pairwise_lt_range
theorem zNM {L:List Nat} (hL:L.Pairwise (· < ·)) (h: ∀n∈L,n<4096):zLh (zGt L) 4096=L:=
 zHk hL h fun n _=>by
  have:=zHP h n;unfold zIO at this;unfold prB;rw[this,List.contains_iff_mem]
theorem zH8 {cells:List Cell} {l:List Int} {e:Expr} {n:Nat}:rpL cells l e (n+1)=if rpB cells l e n=true then rpL cells l e n++[n]else rpL cells l e n:=by
 unfold rpL;rw[List.range_succ,List.filter_append,List.filter_cons,List.filter_nil];split
 ·rfl
 ·rw[List.append_nil]
theorem zNE {cells:List Cell} {l:List Int} {e:Expr} {x:Nat}: ∀{j:Nat},2^zcD (pC cells) l<=j->j<=64->rpL cells l e (64*x+j)=rpL cells l e (64*x+2^zcD (pC cells) l):=by
 intro j
 induction j with
 | zero=>intro h;have:=Nat.two_pow_pos (zcD (pC cells) l);omega
 | succ j ih=>
   intro h1 h2
   by_cases hj:2^zcD (pC cells) l=j+1
   ·rw[hj]
   ·rw[<- Nat.add_assoc,zH8,if_neg,ih (by omega) (by omega)];unfold rpB;rw[show(64*x+j) % 64=j by omega];have:decide (j<2^zcD (pC cells) l)=false:=decide_eq_false (by omega);rw[this];simp
theorem zOG {cells:List Cell} {l:List Int} {e:Expr}: ∀{j:Nat},64*2^zcD (pC cells) l<=j->rpL cells l e j=rpL cells l e (64*2^zcD (pC cells) l):=by
 intro j
 induction j with
 | zero=>intro h;have:=Nat.two_pow_pos (zcD (pC cells) l);omega
 | succ j ih=>
   intro h1
   by_cases hj:64*2^zcD (pC cells) l=j+1
   ·rw[hj]
   ·rw[zH8,if_neg,ih (by omega)];unfold rpB;have:decide (j/ 64<2^zcD (pC cells) l)=false:=decide_eq_false (by omega);rw[this];simp
def zPv (cells:List Cell) (l:List Int) (e:Expr):V:=
 if zHi l (wsC cells l)=false then .tup [zHy [] [] [],vi 1]else
 if zGp (wsC cells l)>6 then .tup [zHy [] [] [],vi 2]else
 if(e.valid cells true&&decide (e.w=1))=false then .tup [zHy [] [] [],vi 60]else
 .tup [zHy l (wsC cells l) (rpL cells l e 4096),vi 0]
def zGZ (cells:List Cell) (l:List Int) (i:Nat):List (List V):=(List.range i).map fun n:Nat=>[.t (ints (stM (pC cells) l (n:Int) zGi))]
theorem zKx {cells:List Cell} {l:List Int} {i:Nat}:zGZ cells l (i+1)=zGZ cells l i++[[.t (ints (stM (pC cells) l (i:Int) zGi))]]:=by
 unfold zGZ;rw[List.range_succ,List.map_append];rfl
theorem zGP {cells:List Cell} {l:List Int} {i:Nat}:(zGZ cells l i).length=i:=by simp[zGZ]
theorem zLO {cells:List Cell} {l:List Int} {i:Nat}:((zGZ cells l i).all fun r=>decide (r.length=1))=true:=by simp[zGZ]
theorem zIY {cells:List Cell} {l:List Int} {i j:Nat} (h:j<i):(zGZ cells l i)[j]? =some [.t (ints (stM (pC cells) l (j:Int) zGi))]:=by
 unfold zGZ;rw[zJ,List.getElem?_range h];rfl
theorem zIo (cells:List Cell) (l:List Int) (e:Expr) (hR:l.Pairwise (· < ·)) (hl:l.length<2^20) (Mv: ∀c∈l,0<=c/\c<cells.length) (hs:e.valid cells true=true-> ∀c∈e.sup 3++e.sup 2,c∈l):
 Den Γ G 510 [.t (.sl (cells.map Cell.enc)),.t (ints l),(.agg [.t (ti (e).op),.t (ti (e).w),.t (ti (e).n),.t (.sl ((e).kids.map (Expr.enc)))])]=some (zPv cells l e):=by
 have a1:=zMm cells l hR hl Mv;have a2:=zfS e cells true;unfold shR at a1;unfold zPv zHy
 (refine zag Γ510 rfl ?_;dsimp only[zQK])
 by_cases b1:zHi l (wsC cells l)=true
 rotate_left
 ·have b1':zHi l (wsC cells l)=false:=by simpa using b1
  rw[if_pos b1']at a1⊢;unfold zGj at a1;simp -dsimp -implicitDefEqProofs only[go_sem,seval,a1];rfl
 rw[if_neg (by rw[b1];simp)]at a1⊢
 have Fy: ∀n∈wsC cells l,0<=n/\n<=8:=fun n hn=>by
  have h':=b1;simp only[zHi,zF,zN,decide_eq_true_eq]at h';obtain⟨i,hi,rfl⟩:=List.getElem_of_mem hn;have AV:i<l.length:=by simpa[wsC]using hi
  have h2:=h'.2 (l[i],(wsC cells l)[i]) (zL (i:=i) (by rw[List.getElem?_zip_eq_some];exact⟨zI AV,zI hi⟩));simp only at h2;omega
 have a3:=zHK (wsC cells l) Fy (by simp[wsC];omega);have IY:zGp (wsC cells l)=(zcD (pC cells) l:Int):=by rw[zGw Mv b1,zHb]
 rw[IY]at a1 a3⊢
 by_cases b2:(zcD (pC cells) l:Int)>6
 ·have b2':=eq_true b2;rw[if_pos b2]at a1⊢;unfold zGj at a1;simp -dsimp -implicitDefEqProofs only[go_sem,seval,a1];rfl
 have b2':=eq_false b2;rw[if_neg b2]at a1⊢;unfold zGj at a1;have S:=zLb hR Mv b1 (by rw[IY];omega)
 cases b3:e.valid cells true with
 | false=>
   rw[b3]at a2;rw[if_pos (by simp)];simp -dsimp -implicitDefEqProofs only[go_sem,seval,a1,a2]
   rfl
 | true=>
 rw[b3]at a2
 by_cases b4:e.w=1
 rotate_left
 ·have b4':=eq_false b4;rw[if_pos (by simp[b4])];simp -dsimp -implicitDefEqProofs only[go_sem,seval,a1,a2,b4'];rfl
 have b4':=eq_true b4;rw[if_neg (by simp[b4])];simp -dsimp -implicitDefEqProofs only[go_sem,seval,a1,a2,b4'];refine zas (zfo e _ _) ?_;rintro r h' n' ⟨v3,v2,rfl,o3,o2,hn,hk⟩;have y1:=o2.valOf;have y3:=o3.valOf;have z1:=o2.cells;have z3:=o3.cells;unfold V.cells at z1 z3;simp -dsimp -implicitDefEqProofs only[go_sem,seval,y1,y3,z1,z3];refine zas (zIG (e.sup 3) (e.sup 2) (by have:=zfp 3 e;omega) (by have:=zfp 2 e;omega) _ _ (n'+2) v3 v2 (by rw[zaa,if_pos rfl]) (by omega) ((o3.upd (q:=n'+2) (by omega) _).le (by omega)).see ((o2.upd (q:=n'+2) (by omega) _).le (by omega)).see) ?_;rintro rc h2 n2 oc;have y5:=oc.valOf;have y6:=oc.lenS;rw[zab]at y6;simp -dsimp -implicitDefEqProofs only[go_sem,seval,y5,y6];have By:(e.sup 3++e.sup 2).length<=64:=by have:=zfp 3 e;have:=zfp 2 e;rw[zM];omega
 refine zaq 1151795604700012736 (e.sup 3++e.sup 2).length (fun i f h x=>(f 50).v=vi i/\h=h2/\n2<=x/\(f 6).v= .lb/\(f 6).box=some [.t .nils,.t .nils,.t .nils]) rfl ⟨by simp -dsimp -implicitDefEqProofs only[go_sem,seval],rfl,by(try simp -dsimp -implicitDefEqProofs only[go_sem,seval]);(try omega),by simp -dsimp -implicitDefEqProofs only[go_sem,seval],by simp -dsimp -implicitDefEqProofs only[go_sem,seval]⟩ ?_;rintro i f u h x bb hi ⟨g50,rfl,hx,g6,g6b⟩;have hw:=zan i (by omega)
 by_cases AV:i<(e.sup 3++e.sup 2).length
 ·have DB:=eq_true AV;obtain⟨c,hc,BI⟩:=zai AV;have Ez:=zff l (e.sup 3++e.sup 2)[i] (by omega);rw[show l.contains (e.sup 3++e.sup 2)[i]=true from List.contains_iff_mem.2 (hs b3 _ (List.getElem_mem AV))]at Ez;rcases oc with⟨rfl,e0⟩ | ⟨k2,rfl,AF,Cl⟩
  ·have:=congrArg List.length e0;rw[zab,List.length_nil]at this;omega
  ·rw[zab]at *;have B5:=zud AV;simp -dsimp -implicitDefEqProofs only[go_sem,seval,g50,DB,Cl,B5,hc,Ez];exact⟨AV,by simp -dsimp -implicitDefEqProofs only[go_sem,seval,hw],rfl,by simp -dsimp -implicitDefEqProofs only[go_sem,seval];omega,by simp -dsimp -implicitDefEqProofs only[go_sem,seval,g6],by simp -dsimp -implicitDefEqProofs only[go_sem,seval,g6b]⟩
 have DB:=eq_false AV;have hB:zcD (pC cells) l<=6:=by omega
 have s0:((zcD (pC cells) l:Int)<0)=False:=eq_false (by omega);have S7:(2:Nat)^zcD (pC cells) l<=2^6:=Nat.pow_le_pow_right (by omega) hB
 have s1:IntKind.i64.wrap (1*2^min (zcD (pC cells) l) 64)=((2^zcD (pC cells) l:Nat):Int):=by
  have h4:(1*2^min (zcD (pC cells) l) 64:Int)=((2^zcD (pC cells) l:Nat):Int):=by
   rw[Nat.min_eq_left (by omega)];push_cast;omega
  rw[h4]
  generalize(2:Nat)^zcD (pC cells) l=q at S7⊢
  exact zaH (by omega)
 simp -dsimp -implicitDefEqProofs only[go_sem,seval,g50,DB,a3,s0,s1];refine zaq 75520970237766904414208 (2^zcD (pC cells) l) (fun i f h y=>(f 65).v=vi i/\(∃fz,h (x+1+0)=some (.rows 1 (zae zGi) fz))/\zaF h y (f 15).v 1 (zGZ cells l i)/\zbg (f 15).v (x+1+0)/\x+2<=y) rfl ⟨by simp -dsimp -implicitDefEqProofs only[go_sem,seval],⟨false,?_⟩,.inl ⟨by simp -dsimp -implicitDefEqProofs only[go_sem,seval],rfl⟩,?_,by simp -dsimp -implicitDefEqProofs only[go_sem,seval];omega⟩ ?_
 ·simp -dsimp -implicitDefEqProofs only[go_sem,seval];rfl
 ·simp -dsimp -implicitDefEqProofs only[go_sem,seval];intro i n e;cases e
 rintro i f u h2 y bb Cq ⟨g65,⟨fz,hb⟩,hO,HP,hy⟩;have BO:=zan i (by omega)
 by_cases A4:i<2^zcD (pC cells) l
 ·have LF:(i<2^zcD (pC cells) l)=True:=eq_true A4;have lz:LsF h2 (· =x+1+0) (.ms (x+1+0) 0 32) zGi:=.inr ⟨_,fz,rfl,rfl,hb⟩;have t3:=lz.toT;have st:=zIX (pC cells) l [] S i (by omega) zGi rfl;rw[<- zGw Mv b1]at st;unfold zGj at st;have v1:=hO.valOf;simp -dsimp -implicitDefEqProofs only[go_sem,seval,g65,LF,v1,↓t3,st];refine zGs (· =x+1+0) ?_ ?_
  ·intro j hj;simp only[List.flatMap_cons,List.flatMap_nil,zba,List.mem_append,List.append_nil]at hj;rcases hj with hj | hj | hj
   ·simp[reach]at hj
   ·simp[reach]at hj
   ·exact lz.reach j hj
  intro h3 SH AG;obtain⟨fz3,H9⟩:=AG _ _ _ _ hb;have Hl:zaF h3 y (f 15).v 1 (zGZ cells l i):=hO.keep (Nat.le_refl _) fun k hk Be=>SH k (by rintro rfl;exact Be HP)
  have v2:=Hl.r2;have v3:=Hl.r3;have v4:=Hl.r4;have v5:=Hl.r5;simp -dsimp -implicitDefEqProofs only[go_sem,seval,v1,v2,v3,v4,v5];refine zav (Hl.upd (by omega) _) (by omega) (by rw[zGP];omega) (by decide) rfl zLO ?_;intro v hp hP Bp Aq;have z1:=hP.valOf;have k1:=Aq (x+1+0) (by omega) HP;rw[zaa,if_neg (by omega),H9]at k1;simp -dsimp -implicitDefEqProofs only[go_sem,seval,z1,g65];refine⟨A4,by simp -dsimp -implicitDefEqProofs only[go_sem,seval,BO],⟨fz3,?_⟩,?_,?_,by simp -dsimp -implicitDefEqProofs only[go_sem,seval];omega⟩
  ·simp -dsimp -implicitDefEqProofs only[go_sem,seval];exact k1
  ·simp -dsimp -implicitDefEqProofs only[go_sem,seval];rw[zKx];exact hP.le (by omega)
  ·simp -dsimp -implicitDefEqProofs only[go_sem,seval];exact Bp _ (by omega)
 have LF:(i<2^zcD (pC cells) l)=False:=eq_false A4;have:i=2^zcD (pC cells) l:=by omega
 subst this;have Kl:=Nat.two_pow_pos (zcD (pC cells) l);rcases hO with⟨e15,e0⟩ | ⟨ka,e15,Ew,NQ⟩
 ·have:=congrArg List.length e0;rw[zGP,List.length_nil]at this;omega
 rw[zGP]at e15;have u1:(ka=y+1+1)=False:=eq_false (by omega);simp -dsimp -implicitDefEqProofs only[go_sem,seval,g65,LF,e15,NQ,u1,zGP];refine zaq 2596148428058487994650618990690304 (2^zcD (pC cells) l) (fun i f h x=>(f 80).v=vi i/\h ka=some (.rows 1 (zGZ cells l (2^zcD (pC cells) l)) false)/\h (y+1+1)=some (.rows 64 [bmV (zGt (rpL cells l e (64*i)))] false)/\y+3<=x) rfl ⟨by simp -dsimp -implicitDefEqProofs only[go_sem,seval],?_,?_,by simp -dsimp -implicitDefEqProofs only[go_sem,seval];omega⟩ ?_
 ·simp only[zaC,zaA];rw[zaa,if_neg (by omega)];exact NQ
 ·simp only[zaC,zaA];rw[zaa,if_pos rfl];rfl
 rintro i f1 u h3 x3 bb C8 ⟨g80,ha,hm,Ty⟩;have Gl:=zan i (by omega)
 by_cases EI:i<2^zcD (pC cells) l
 rotate_left
 ·have S8:(i<2^zcD (pC cells) l)=False:=eq_false EI;have:i=2^zcD (pC cells) l:=by omega
  subst this;rw[<- zOG (j:=4096) (by omega)]at hm;have Bb:=zHj l (wsC cells l) (by omega) (by simp[wsC];omega) _ (zOg (cells:=cells) (l:=l) (e:=e) (n:=4096) (Nat.le_refl _));rw[zNM (L:=rpL cells l e 4096) zJV fun n hn=>zMv (Nat.le_refl _) hn]at Bb;unfold bmT zHy at Bb;have bt:=zLC h3 999 (zGt (rpL cells l e 4096));simp -dsimp -implicitDefEqProofs only[go_sem,seval,g80,S8,hm,bt,Bb];refine zGs (fun _=>True) (fun _ _=>trivial) fun h5 _ hf=> ?_
  simp -dsimp -implicitDefEqProofs only[go_sem,seval,g6,g6b]
  (try rfl)
 have S8:(i<2^zcD (pC cells) l)=True:=eq_true EI;simp -dsimp -implicitDefEqProofs only[go_sem,seval,g80,S8,e15,ha,zGP];refine zaq 1298074175948080679464490492231680 (2^zcD (pC cells) l) (fun j f h x=>(f 85).v=vi j/\h ka=some (.rows 1 (zGZ cells l (2^zcD (pC cells) l)) false)/\h (y+1+1)=some (.rows 64 [bmV (zGt (rpL cells l e (64*i+j)))] false)/\y+3<=x) rfl ⟨by simp -dsimp -implicitDefEqProofs only[go_sem,seval],ha,hm,by simp -dsimp -implicitDefEqProofs only[go_sem,seval];omega⟩ ?_;rintro j f2 u h4 x4 bb Mz ⟨g85,TS,N5,Vs⟩;have Kd:=zan j (by omega)
 by_cases Su:j<2^zcD (pC cells) l
 rotate_left
 ·have SI:(j<2^zcD (pC cells) l)=False:=eq_false Su;have:j=2^zcD (pC cells) l:=by omega
  subst this;simp -dsimp -implicitDefEqProofs only[go_sem,seval,g85,SI,g80];refine⟨EI,by simp -dsimp -implicitDefEqProofs only[go_sem,seval,Gl],TS,?_,by simp -dsimp -implicitDefEqProofs only[go_sem,seval];omega⟩;rw[show 64*(i+1)=64*i+64 by omega,zNE (j:=64) (by omega) (by omega)];exact N5
 have SI:(j<2^zcD (pC cells) l)=True:=eq_true Su;have ev:=zd4 e (stM (pC cells) l i zGi) (stM (pC cells) l j zGi);have t1:=zIY (cells:=cells) (l:=l) EI;have t2:=zIY (cells:=cells) (l:=l) Su;simp -dsimp -implicitDefEqProofs only[go_sem,seval,g85,SI,S8,e15,TS,zGP,t1,t2,ev];have Hn:=zOg (cells:=cells) (l:=l) (e:=e) (n:=64*i+j) (by omega)
 by_cases hp:e.eval (stM (pC cells) l (i:Int) zGi) (stM (pC cells) l (j:Int) zGi)=1
 ·have c1:=eq_true hp;have d1:(64*i+j)/ 64=i:=by omega
  have d2:(64*i+j) % 64=j:=by omega
  have T0:rpB cells l e (64*i+j)=true:=by
   unfold rpB;rw[d1,d2];simp[EI,Su,hp]
  obtain⟨w,Ho,FP⟩:=zai (show i<(zGt (rpL cells l e (64*i+j))).length by rw[Hn.len];omega);have G1:=Hn.lt w FP
  have e3:IntKind.u64.wrap (1*2^min j 64)=((1<<< j:Nat):Int):=by
   have:(1*2^min j 64:Int)=((1<<< j:Nat):Int):=by
    rw[Nat.min_eq_left (by omega),Nat.one_shiftLeft];push_cast;omega
   rw[this];exact zH2 (by rw[Nat.one_shiftLeft];exact Nat.pow_lt_pow_right (by omega) (by omega))
  have e4:=zOv G1 (show 1<<< j<2^64 by rw[Nat.one_shiftLeft];exact Nat.pow_lt_pow_right (by omega) (by omega));have F8:(bmV (zGt (rpL cells l e (64*i+j)))).length=64:=by simp[bmV,Hn.len]
  have b1:((i:Int)<64)=True:=eq_true (by omega);have b2:(i*1+1<=(bmV (zGt (rpL cells l e (64*i+j)))).length)=True:=eq_true (by rw[F8];omega)
  have BK:List.take 1 (List.drop (i*1) (bmV (zGt (rpL cells l e (64*i+j)))))=[vw w]:=by
   rw[Nat.mul_one,zdo (l:=bmV (zGt (rpL cells l e (64*i+j)))) (x:=vw w) (by rw[bmV,zJ,Ho];rfl)];rfl
  have Mn:List.take (i*1) (bmV (zGt (rpL cells l e (64*i+j))))++[vw (w ||| 1<<< j)]++List.drop (i*1+1) (bmV (zGt (rpL cells l e (64*i+j))))=bmV (zGt (rpL cells l e (64*i+(j+1)))):=by
   rw[<- Nat.add_assoc (64*i),zH8,if_pos T0,zHO,Nat.mul_one]
   generalize zGt (rpL cells l e (64*i+j))=ws at Ho
   have T4:i<ws.length:=(zH.1 Ho).1;rw[bmV,zKt,d1,d2,zK,Ho,Option.getD_some,bmV,List.map_set,List.set_eq_take_append_cons_drop,if_pos (by simp;omega)];simp
  have b4:((j:Int)<0)=False:=eq_false (by omega);simp -dsimp -implicitDefEqProofs only[go_sem,seval,c1,N5,b1,b2,b4,BK,e3,e4,Mn,g85];refine⟨Su,by simp -dsimp -implicitDefEqProofs only[go_sem,seval,Kd],?_,?_,by simp -dsimp -implicitDefEqProofs only[go_sem,seval];omega⟩
  ·simp only[zaC,zaA];rw[zaa,if_neg (by omega)];exact TS
  ·simp only[zaC,zaA];rw[zaa,if_pos rfl]
 ·have c1:=eq_false hp
  have T0: ¬rpB cells l e (64*i+j)=true:=by
   unfold rpB;rw[show(64*i+j)/ 64=i by omega,show(64*i+j) % 64=j by omega];simp[hp]
  simp -dsimp -implicitDefEqProofs only[go_sem,seval,c1,g85];refine⟨Su,by simp -dsimp -implicitDefEqProofs only[go_sem,seval,Kd],TS,?_,by simp -dsimp -implicitDefEqProofs only[go_sem,seval];omega⟩;rw[<- Nat.add_assoc (64*i),zH8,if_neg T0];exact N5
def wdN (s:List Nat):Nat:=s.foldl (fun w n=>w ||| 1<<< n) 0
theorem zLa (s:List Nat) (n:Nat):wdN (s++[n])=wdN s ||| 1<<< n:=by simp[wdN]
theorem zI3 {n:Nat} (h:n<64):1<<< n<2^64:=by rw[Nat.one_shiftLeft];exact Nat.pow_lt_pow_right (by omega) h
theorem zOa: ∀(s:List Nat) (w:Nat),w<2^64->(∀n∈s,n<64)->s.foldl (fun w n=>w ||| 1<<< n) w<2^64
 | [],w,h,_=>h
 | n::s,w,h,hs=>zOa s _ (Nat.or_lt_two_pow h (zI3 (hs n (by simp)))) fun x hx=>hs x (by simp[hx])
theorem zJM {s:List Nat} (hs: ∀n∈s,n<64):wdN s<2^64:=zOa s 0 (by decide) hs
theorem zMd (j:Nat): ∀(s:List Nat) (w:Nat),(s.foldl (fun w n=>w ||| 1<<< n) w).testBit j=(w.testBit j||s.contains j)
 | [],w=>by simp
 | n::s,w=>by
   rw[List.foldl_cons,zMd j s,Nat.testBit_or,Nat.one_shiftLeft,Nat.testBit_two_pow,List.contains_cons,Bool.or_assoc]
   congr 2
   rw[Bool.eq_iff_iff,decide_eq_true_eq,beq_iff_eq];exact eq_comm
theorem zKv (s:List Nat) (j:Nat):(wdN s).testBit j=s.contains j:=by rw[wdN,zMd];simp
theorem zNr {n:Nat} (h:n<64):IntKind.u64.wrap (1*2^min n 64)=((1<<< n:Nat):Int):=by
 have:(1*2^min n 64:Int)=((1<<< n:Nat):Int):=by
  rw[Nat.min_eq_left (by omega),Nat.one_shiftLeft];push_cast;omega
 rw[this];exact zH2 (zI3 h)
theorem zLH (l ws:List Int) (s:List Nat) (hs: ∀n∈s,n<64) (hl:s.length<2^20):Den Γ G 544 [zGj l ws (nI s)]=some (vw (wdN s)):=by
 have Hx:(nI s).length=s.length:=by simp
 unfold zGj
 (refine zag Γ544 rfl ?_;dsimp only[zQl])
 simp -dsimp -implicitDefEqProofs only[go_sem,seval,Hx];refine zaT 261672 s.length (fun i f=>(f 9).v=vi i/\(f 3).v=vw (wdN (s.take i))) rfl rfl ⟨by simp -dsimp -implicitDefEqProofs only[go_sem,seval],by simp -dsimp -implicitDefEqProofs only[go_sem,seval];rfl⟩ ?_;rintro i f u x bs hi ⟨g9,g3⟩;have hw:=zan i (by omega)
 by_cases AV:i<s.length
 ·have DB:=eq_true AV;obtain⟨n,hn,hm⟩:=zai AV;have SR:(nI s)[i]? =some (n:Int):=by rw[zJ,hn];rfl
  have HC:=hs n hm;have e1:=zNr HC;have e2:=zOv (zJM (s:=s.take i) fun n hn=>hs n (List.mem_of_mem_take hn)) (zI3 HC);have e0:((n:Int)<0)=False:=eq_false (by omega);simp -dsimp -implicitDefEqProofs only[go_sem,seval,g9,g3,DB,SR,e0,e1,e2];exact⟨AV,by simp -dsimp -implicitDefEqProofs only[go_sem,seval,hw],by simp -dsimp -implicitDefEqProofs only[go_sem,seval,zaf hn,zLa]⟩
 ·have DB:=eq_false AV;have:i=s.length:=by omega
  subst this;rw[List.take_length]at g3;simp -dsimp -implicitDefEqProofs only[go_sem,seval,g9,g3,DB]
def btN (w n:Nat):List Nat:=(List.range n).filter fun j=>w.testBit j
theorem zLB (w n:Nat):btN w (n+1)=if w.testBit n=true then btN w n++[n]else btN w n:=by
 unfold btN;rw[List.range_succ,List.filter_append,List.filter_cons,List.filter_nil];split
 ·rfl
 ·rw[List.append_nil]
theorem zO5 (w n:Nat):(btN w n).length<=n:=by
 have:=List.length_filter_le (fun j=>w.testBit j) (List.range n);rwa[List.length_range]at this
theorem zNx (l ws x:List Int) (hl:l.length<2^20) (Fy:ws.length<2^20) (w:Nat) (G1:w<2^64):Den Γ G 545 [zGj l ws x,vw w]=some (zGj l ws (nI (btN w 64))):=by
 unfold zGj
 (refine zag Γ545 rfl ?_;dsimp only[zQk])
 simp -dsimp -implicitDefEqProofs only[go_sem,seval];refine zni (by omega) ?_;rintro v hp hO hf Bn ⟨hv,hc⟩;simp -dsimp -implicitDefEqProofs only[go_sem,seval,hv,hc];refine zni (by omega) ?_;rintro v2 D0 Cz Cv Jp ⟨DT,CG⟩;unfold V.cells at hc CG;simp -dsimp -implicitDefEqProofs only[go_sem,seval,hv,hc,DT,CG];have M0: ∀j,j<5->At (At (fun _=>none) hp) D0 j=At (fun _=>none) hp j:=fun j hj=>Cv j (by omega)
 refine zaq 536854624 64 (fun i f h x=>(f 14).v=vi i/\(f 5).v= .lb/\ ∃vL,(f 5).box=some [v,v2,vL]/\zaF h x vL 1 (zae (nI (btN w i)))/\(∀j,j<9->zbg vL j)/\(∀j,j<9->h j=At (At (fun _=>none) hp) D0 j)/\9<=x) rfl ⟨by simp -dsimp -implicitDefEqProofs only[go_sem,seval],by simp -dsimp -implicitDefEqProofs only[go_sem,seval],.t .nils,by simp -dsimp -implicitDefEqProofs only[go_sem,seval],.inl ⟨rfl,rfl⟩,(fun j _ i n e=>by cases e),(fun j _=>rfl),by(try simp -dsimp -implicitDefEqProofs only[go_sem,seval]);(try omega)⟩ ?_;rintro i f u h x bb hi ⟨g14,g5,vL,g5b,Hl,SV,A8,hx⟩;have hw:=zan i (by omega)
 by_cases AV:i<64
 rotate_left
 ·have DB:((i:Int)<64)=False:=eq_false (by omega);have:i=64:=by omega
  subst this;have o1:zB1 h 5 v (zae l):=hO.keep fun j hj=>by rw[A8 j (by omega),M0 j (by omega)]
  have o2:zB1 h 8 v2 (zae ws):=Cz.keep fun j hj=>A8 j (by omega)
  have t1:=zHt o1;have t2:=zHt o2;have t3:toT h 1000 vL=some (ints (nI (btN w 64))):=zcc (es:=(nI (btN w 64)).map fun n=>[ti n]) Hl (zbP _);have y1:=Hl.valOf;have y2:=Hl.cells;unfold V.cells at y2;simp -dsimp -implicitDefEqProofs only[go_sem,seval,g14,DB,g5,g5b,hv,DT,y1,hc,CG,y2];rw[t1,t2,t3];rfl
 have DB:((i:Int)<64)=True:=eq_true (by omega);have s0:((i:Int)<0)=False:=eq_false (by omega);have e1:=zOu (w:=w) i AV;have SD:w/ 2^i<2^64:=Nat.lt_of_le_of_lt (Nat.div_le_self _ _) G1;have e2:IntKind.u64.wrap ((BitVec.ofInt IntKind.u64.bits ((w/ 2^i:Nat):Int)&&& BitVec.ofInt IntKind.u64.bits 1).toNat:Int)=((w/ 2^i&&& 1:Nat):Int):=zLI SD (show 1<2^64 by decide);have hb:=zOw (w:=w) (y:=i);cases K1:w.testBit i
 ·rw[K1]at hb;have e3:(((w/ 2^i&&& 1:Nat):Int)=1)=False:=eq_false fun h=>by have:=hb.1 (by omega);cases this
  simp -dsimp -implicitDefEqProofs only[go_sem,seval,g14,DB,s0,e1,e2,e3];refine⟨AV,by simp -dsimp -implicitDefEqProofs only[go_sem,seval,hw],by simp -dsimp -implicitDefEqProofs only[go_sem,seval,g5],vL,by simp -dsimp -implicitDefEqProofs only[go_sem,seval,g5b],?_,SV,A8,by(try simp -dsimp -implicitDefEqProofs only[go_sem,seval]);(try omega)⟩;rw[zLB,K1,if_neg (by simp)];exact Hl.le (by simp -dsimp -implicitDefEqProofs only[go_sem,seval];omega)
 ·rw[K1]at hb;have e3:(((w/ 2^i&&& 1:Nat):Int)=1)=True:=eq_true (by have:=hb.2 rfl;omega);have y1:=Hl.valOf;have r2:=Hl.r2;have r3:=Hl.r3;have r4:=Hl.r4;have r5:=Hl.r5;simp -dsimp -implicitDefEqProofs only[go_sem,seval,g14,DB,s0,e1,e2,e3,g5,g5b,y1,r2,r3,r4,r5];refine zav (Hl.upd (by omega) _) (by omega) (by rw[zab];have:=zO5 w i;simp only[List.length_map];omega) (by decide) rfl (zaQ _) ?_;intro v3 Qi hP Bp Aq;have z1:=hP.valOf;have z2:=hP.cells;unfold V.cells at z2;simp -dsimp -implicitDefEqProofs only[go_sem,seval,g14,g5,g5b,z1,z2];refine⟨AV,by simp -dsimp -implicitDefEqProofs only[go_sem,seval,hw],by simp -dsimp -implicitDefEqProofs only[go_sem,seval,g5],v3,by simp -dsimp -implicitDefEqProofs only[go_sem,seval,g5b],?_,fun j hj=>Bp j (by omega),fun j hj=> ?_,by(try simp -dsimp -implicitDefEqProofs only[go_sem,seval]);(try omega)⟩
  ·simp -dsimp -implicitDefEqProofs only[go_sem,seval];rw[zLB,K1,if_pos rfl,show nI (btN w i++[i])=nI (btN w i)++[(i:Int)]by simp,za4];exact hP.le (by omega)
  ·simp -dsimp -implicitDefEqProofs only[go_sem,seval];rw[Aq j (by omega) (SV j hj),zaa,if_neg (by omega),A8 j hj]
structure Prs (b:Nat) (L:List Nat):Prop where
 inc:L.Pairwise (· < ·)
 lt: ∀n∈L,n/ 64<2^b/\n % 64<2^b
theorem Prs.lt4 {b:Nat} {L:List Nat} (P:Prs b L) (hb:b<=6): ∀n∈L,n<4096:=fun n hn=>by
 have:=(P.lt n hn).1;have h6:(2:Nat)^b<=2^6:=Nat.pow_le_pow_right (by omega) hb;omega
theorem zHn: ∀{N:Nat} {L:List Nat},L.Pairwise (· < ·)->(∀n∈L,n<N)->L.length<=N:=by
 intro N L h1 h2
 have:=zgX N (L.map fun n:Nat=>(n:Int)) (by
  refine List.pairwise_map.2 (h1.imp fun h=>by omega)) (fun k hk=>by
  obtain⟨n,hn,rfl⟩:=List.mem_map.1 hk;have:=h2 n hn
  omega)
 rwa[List.length_map]at this
theorem zJo {L:List Nat} {i n:Nat} (h:L[i]? =some n):(L.map prT)[i]? =some [ti (n/ 64:Nat),ti (n % 64:Nat)]:=by rw[zJ,h];rfl
theorem zMw (l ws:List Int) (L:List Nat) (hL: ∀n∈L,n<4096) (Ac:L.length<=4096) (H:Nat->Option O) (nx:Nat):
 ∃r h' n',DenR Γ G 540 [zHy l ws L] H nx=some (r,h',n')/\ ∃k,r= .mp k 0 0/\h' k=some (.rows 64 [bmV (zGt L)] false):=by
 have Hx:(L.map prT).length=L.length:=by simp
 unfold zHy
 (refine zay Γ540 rfl ?_;dsimp only[zQp])
 simp -dsimp -implicitDefEqProofs only[go_sem,seval,Hx];refine zaq 268433440 L.length (fun i f h x=>(f 11).v=vi i/\h (nx+2+1)=some (.rows 64 [bmV (zGt (L.take i))] false)/\nx+4<=x) rfl ⟨by simp -dsimp -implicitDefEqProofs only[go_sem,seval],?_,by simp -dsimp -implicitDefEqProofs only[go_sem,seval];omega⟩ ?_
 ·simp only[zaC,zaA];rw[zaa,if_pos rfl];rfl
 rintro i f u h x bb hi ⟨g11,hm,hx⟩;have hw:=zan i (by omega);have Hn:=zGB (l:=L.take i) fun n hn=>hL n (List.mem_of_mem_take hn)
 by_cases AV:i<L.length
 rotate_left
 ·have DB:(i<L.length)=False:=eq_false AV;have:i=L.length:=by omega
  subst this;rw[List.take_length]at hm;simp -dsimp -implicitDefEqProofs only[go_sem,seval,g11,DB];exact⟨_,rfl,hm⟩
 have DB:(i<L.length)=True:=eq_true AV;obtain⟨n,hn,GE⟩:=zai AV;have Qt:=hL n GE;have hg:=zJo hn
 have Mn:List.take (n/ 64*1) (bmV (zGt (L.take i)))++[vw ((zGt (L.take i)).getD (n/ 64) 0 ||| 1<<< (n % 64))]++List.drop (n/ 64*1+1) (bmV (zGt (L.take i)))=bmV (zGt (L.take (i+1))):=by
  rw[zaf hn,zHO,Nat.mul_one];have T4:n/ 64<(zGt (L.take i)).length:=by rw[Hn.len];omega
  generalize zGt (L.take i)=ms at T4
  rw[bmV,zKt,bmV,List.map_set,List.set_eq_take_append_cons_drop,if_pos (by simp;omega)];simp
 obtain⟨w,Ho,FP⟩:=zai (show n/ 64<(zGt (L.take i)).length by rw[Hn.len];omega);rw[zK,Ho,Option.getD_some]at Mn;have G1:=Hn.lt w FP;have e3:=zNr (show n % 64<64 by omega);have e4:=zOv G1 (zI3 (show n % 64<64 by omega));have F8:(bmV (zGt (L.take i))).length=64:=by simp[bmV,Hn.len]
 have b1:(((n/ 64:Nat):Int)<64)=True:=eq_true (by omega);have b2:(n/ 64*1+1<=(bmV (zGt (L.take i))).length)=True:=eq_true (by rw[F8];omega)
 have BK:List.take 1 (List.drop (n/ 64*1) (bmV (zGt (L.take i))))=[vw w]:=by
  rw[Nat.mul_one,zdo (l:=bmV (zGt (L.take i))) (x:=vw w) (by rw[bmV,zJ,Ho];rfl)];rfl
 have b4:(((n % 64:Nat):Int)<0)=False:=eq_false (by omega);simp -dsimp -implicitDefEqProofs only[go_sem,seval,g11,DB,Hx,hg,hm,b1,b2,b4,BK,e3,e4,Mn];refine⟨AV,by simp -dsimp -implicitDefEqProofs only[go_sem,seval,hw],?_,by simp -dsimp -implicitDefEqProofs only[go_sem,seval];omega⟩;simp only[zaC,zaA];rw[zaa,if_pos rfl]
theorem zPr {l ws:List Int} {L:List Nat} (hL: ∀n∈L,n<4096) (Ac:L.length<=4096) {h:Nat->Option O} {key:Nat} {vs:List V} {K:V->List (Nat×O)->Prop} {w:WK K}
 (Au:vs.flatMap (zba h)=[]/\vs.mapM (toT1 h)=some [zHy l ws L])
 (hK: ∀hp,At h hp key=some (.rows 64 [bmV (zGt L)] false)->(∀j,j≠key->At h hp j=h j)->K (.mp key 0 0) hp):zyL (Γ:=Γ) (G:=G) false h key 540 vs K w:=by
 obtain⟨r,h',n',hd,k,rfl,hk⟩:=zMw l ws L hL Ac (fun _=>none) 0;refine⟨rfl,Au.1,_,Au.2,_,_,_,hd,{ val:=.mp key 0 0,hp:=[(key,.rows 64 [bmV (zGt L)] false)] },?_,hK _ (by simp[zaC,zaA,zaa]) (fun j hj=>by simp[zaC,zaA,zaa,hj])⟩;have Aa:([bmV (zGt L)].all fun row=>row.all V.isTr)=true:=by simp[bmV,V.isTr]
 simp only[zqm,hk];rw[if_pos ⟨trivial,trivial,Aa⟩]
theorem zHJ {l ws:List Int} (S:Shp l ws) (h6:zGp ws<=6) {L:List Nat} (P:Prs (zGp ws).toNat L):Den Γ G 538 [zHy l ws L]=some (vb true):=by
 have a1:=zGR S (s:=[]) (t:=[]) ⟨List.Pairwise.nil,fun n hn=>by cases hn⟩ ⟨List.Pairwise.nil,fun n hn=>by cases hn⟩;have a2:=zHK ws S.w (by have:=S.wl;have:=S.len;omega);have h0:=S.sum.1;have SS:(zGp ws).toNat<=6:=by omega
 have Hx:(L.map prT).length=L.length:=by simp
 have Ac:=zHn P.inc (P.lt4 SS);obtain⟨b,hb⟩: ∃b:Nat,zGp ws=b:=⟨(zGp ws).toNat,by omega⟩
 rw[hb]at a2 h6 P;rw[Int.toNat_natCast]at P;have S7:(2:Nat)^b<=2^6:=Nat.pow_le_pow_right (by omega) (by omega);have s0:((b:Int)<0)=False:=eq_false (by omega)
 have s1:IntKind.i64.wrap (1*2^min b 64)=((2^b:Nat):Int):=by
  have h4:(1*2^min b 64:Int)=((2^b:Nat):Int):=by
   rw[Nat.min_eq_left (by omega)];push_cast;omega
  rw[h4]
  generalize(2:Nat)^b=q at S7⊢
  exact zaH (by omega)
 have c6:((b:Int)>6)=False:=eq_false (by omega);have a0:Den Γ G 520 [.agg [.t (ints l),.t (ints ws),.t (.sl [])],.agg [.t (ints l),.t (ints ws),.t (.sl [])]]=some (.tup [.agg [.t (ints l),.t (ints ws),.t (.sl [])],vi 0]):=a1;unfold zHy
 (refine zag Γ538 rfl ?_;dsimp only[zQr])
 simp -dsimp -implicitDefEqProofs only[go_sem,seval,a0,a2,c6,s0,s1,Hx];refine zaT 633825300114114700713991864708 L.length (fun i f=>(f 35).v=vi i) rfl rfl (by simp -dsimp -implicitDefEqProofs only[go_sem,seval]) ?_;rintro i f u x bs hi g35;have hw:=zan i (by omega)
 by_cases AV:i<L.length
 rotate_left
 ·have DB:(i<L.length)=False:=eq_false AV;simp -dsimp -implicitDefEqProofs only[go_sem,seval,g35,DB]
 have DB:(i<L.length)=True:=eq_true AV;obtain⟨n,hn,GE⟩:=zai AV;have hg:=zJo hn;have q:=P.lt n GE;have d1:(((n/ 64:Nat):Int)<0)=False:=eq_false (by omega);have d2:(((n % 64:Nat):Int)<0)=False:=eq_false (by omega);have d3:(((n/ 64:Nat):Int)>=((2^b:Nat):Int))=False:=eq_false (by omega);have d4:(((n % 64:Nat):Int)>=((2^b:Nat):Int))=False:=eq_false (by omega)
 cases i with
 | zero=>
   have Ur:((0:Int)<(L.length:Int))=True:=eq_true (by omega);simp -dsimp -implicitDefEqProofs only[go_sem,seval,g35,DB,Ur,Hx,hg,d1,d2,d3,d4]
   exact⟨AV,by simp -dsimp -implicitDefEqProofs only[go_sem,seval,hw]⟩
 | succ i=>
   have i0:(((i+1:Nat):Int)>0)=True:=eq_true (by omega);have Cj:IntKind.i64.wrap (((i+1:Nat):Int)-1)=(i:Int):=by rw[show((i+1:Nat):Int)-1=i by omega];exact zaH (by omega)
   obtain⟨m,hm,D8⟩:=zai (show i<L.length by omega);have Ku:=zJo hm
   have Ad:m<n:=(List.pairwise_iff_getElem.1 P.inc) i (i+1) (by omega) AV (by omega) |>fun h=>by
    have e1:=(zH.1 hm).2;have e2:=(zH.1 hn).2;omega
   by_cases hq:m/ 64<n/ 64
   ·have f1:(((n/ 64:Nat):Int)<((m/ 64:Nat):Int))=False:=eq_false (by omega);have f2:(((n/ 64:Nat):Int)=((m/ 64:Nat):Int))=False:=eq_false (by omega);simp -dsimp -implicitDefEqProofs only[go_sem,seval,g35,DB,Hx,hg,d1,d2,d3,d4,i0,Cj,Ku,f1,f2];exact⟨AV,by simp -dsimp -implicitDefEqProofs only[go_sem,seval,hw]⟩
   ·have f1:(((n/ 64:Nat):Int)<((m/ 64:Nat):Int))=False:=eq_false (by omega);have f2:(((n/ 64:Nat):Int)=((m/ 64:Nat):Int))=True:=eq_true (by omega);have f3:(((n % 64:Nat):Int)<=((m % 64:Nat):Int))=False:=eq_false (by omega);simp -dsimp -implicitDefEqProofs only[go_sem,seval,g35,DB,Hx,hg,d1,d2,d3,d4,i0,Cj,Ku,f1,f2,f3];exact⟨AV,by simp -dsimp -implicitDefEqProofs only[go_sem,seval,hw]⟩
def zHe (L s:List Nat):List Nat:=s.filter fun x=>L.all fun n=> !decide (n/ 64=x)||s.contains (n % 64)
theorem zKB {L:List Nat} (hL: ∀n∈L,n<4096) {x j:Nat} (hj:j<64):((zGt L).getD x 0).testBit j=L.contains (64*x+j):=by
 have:=zHP hL (64*x+j);rw[zIO,show(64*x+j)/ 64=x by omega,show(64*x+j) % 64=j by omega]at this;exact this
theorem zN5 {a b:Nat} (ha:a<2^64) (hb:b<2^64):(a&&& (2^64-1-b)=0)<-> ∀j,j<64->a.testBit j=true->b.testBit j=true:=by
 have tb: ∀j,(2^64-1-b).testBit j=(decide (j<64)&& !b.testBit j):=fun j=>by
  have:=Nat.testBit_two_pow_sub_succ hb j;rwa[show 2^64-(b+1)=2^64-1-b by omega]at this
 constructor
 ·intro h j hj hA;have:(a&&& (2^64-1-b)).testBit j=false:=by rw[h,Nat.zero_testBit]
  rw[Nat.testBit_and,hA,tb,Bool.true_and]at this;simpa[hj]using this
 ·intro h;refine Nat.eq_of_testBit_eq fun j=> ?_
  rw[Nat.zero_testBit,Nat.testBit_and,tb]
  by_cases hj:j<64
  ·cases hA:a.testBit j
   ·simp
   ·rw[h j hj hA];simp
  ·simp[hj]
theorem zPs {L s:List Nat} (hL: ∀n∈L,n<4096) (hs: ∀n∈s,n<64) {x w:Nat} (hw:(zGt L)[x]? =some w) (G1:w<2^64):(w&&& (2^64-1-wdN s)=0)<->(L.all fun n=> !decide (n/ 64=x)||s.contains (n % 64))=true:=by
 have hg:(zGt L).getD x 0=w:=by rw[zK,hw];rfl
 rw[zN5 G1 (zJM hs),zN];constructor
 ·intro h n hn
  by_cases hx:n/ 64=x
  ·have h1:=zKB hL (x:=x) (j:=n % 64) (by omega);rw[show 64*x+n % 64=n by omega,hg,List.contains_iff_mem.2 hn]at h1;have:=h (n % 64) (by omega) h1;rw[zKv]at this;rw[this];simp
  ·simp[hx]
 ·intro h j hj hb;have h1:=zKB hL (x:=x) hj;rw[hg,hb]at h1;have:=h _ (List.contains_iff_mem.1 h1.symm);rw[show(64*x+j)/ 64=x by omega,show(64*x+j) % 64=j by omega]at this;rw[zKv];simpa using this
theorem zMU {L s:List Nat} {i x:Nat} (hx:s[i]? =some x):(s.take (i+1)).filter (fun x=>L.all fun n=> !decide (n/ 64=x)||s.contains (n % 64))=
 if(L.all fun n=> !decide (n/ 64=x)||s.contains (n % 64))=true then(s.take i).filter (fun x=>L.all fun n=> !decide (n/ 64=x)||s.contains (n % 64))++[x]else(s.take i).filter (fun x=>L.all fun n=> !decide (n/ 64=x)||s.contains (n % 64)):=by
 rw[zaf hx,List.filter_append,List.filter_cons,List.filter_nil];split
 ·rfl
 ·rw[List.append_nil]
theorem zRh {s:List Nat} (h:s.Pairwise (· < ·)) (hs: ∀n∈s,n<64):btN (wdN s) 64=s:=
 zHk h hs fun n hn=>by rw[zKv,List.contains_iff_mem]
theorem zK3 {l ws:List Int} (S:Shp l ws) (h6:zGp ws<=6) {L s:List Nat} (P:Prs (zGp ws).toNat L) (E:Elems ws s):Den Γ G 542 [zHy l ws L,zGj l ws (nI s)]=some (vb true):=by
 have a1:=zGR S E E;have a2:=zHJ S h6 P;have a3:=zJw l (by have:=S.len;omega);have a4:=zJw ws (by have:=S.wl;have:=S.len;omega);unfold zGj zHy at *
 (refine zag Γ542 rfl ?_;dsimp only[zQn])
 simp -dsimp -implicitDefEqProofs only[go_sem,seval,a1,a2,a3,a4]
theorem zKQ {l ws:List Int} (S:Shp l ws) (h6:zGp ws<=6) {L s:List Nat} (P:Prs (zGp ws).toNat L) (E:Elems ws s):
 Den Γ G 543 [.t (.ip [ints l,ints ws,.sl (L.map prT)]),.t (.ip [ints l,ints ws,ints (nI s)])]=some (zGj l ws (nI (zHe L s))):=by
 have SS:(zGp ws).toNat<=6:=by have:=S.sum.1;omega
 have S7:(2:Nat)^(zGp ws).toNat<=2^6:=Nat.pow_le_pow_right (by omega) SS;have hs: ∀n∈s,n<64:=fun n hn=>by have:=E.lt n hn;omega
 have Sz:=P.lt4 SS;have Ac:=zHn P.inc Sz;have BA:=zHn E.inc hs;have Hx:(nI s).length=s.length:=by simp
 have a1:=zLH l ws s hs (by omega);have hI: ∀n∈zHe L s,n<64:=fun n hn=>hs n (List.mem_filter.1 hn).1
 have a2:=zNx l ws (nI s) (by have:=S.len;omega) (by have:=S.wl;have:=S.len;omega) _ (zJM hI);rw[zRh (s:=zHe L s) (List.Pairwise.filter _ E.inc) hI]at a2;have hM:=zGB Sz;have F8:(bmV (zGt L)).length=64:=by simp[bmV,hM.len]
 unfold zGj at *
 (refine zag Γ543 rfl ?_;dsimp only[zQm])
 simp -dsimp -implicitDefEqProofs only[go_sem,seval];refine zPr (l:=l) (ws:=ws) (L:=L) Sz Ac ⟨rfl,rfl⟩ ?_;intro hp hk hf;simp -dsimp -implicitDefEqProofs only[go_sem,seval,a1];refine zaq 4294934688 s.length (fun i f h x=>(f 15).v=vi i/\(f 5).v=vw (wdN ((s.take i).filter fun x=>L.all fun n=> !decide (n/ 64=x)||s.contains (n % 64)))/\h 2=some (.rows 64 [bmV (zGt L)] false)) rfl ⟨by simp -dsimp -implicitDefEqProofs only[go_sem,seval],by simp -dsimp -implicitDefEqProofs only[go_sem,seval];rfl,by(try simp -dsimp -implicitDefEqProofs only[go_sem,seval]);exact hk⟩ ?_;rintro i f u h x bb hi ⟨g15,g5,hm⟩;have hw:=zan i (by omega)
 by_cases AV:i<s.length
 rotate_left
 ·have DB:(i<s.length)=False:=eq_false AV;have:i=s.length:=by omega
  subst this;rw[List.take_length]at g5;have g5':(f 5).v=vw (wdN (zHe L s)):=g5;simp -dsimp -implicitDefEqProofs only[go_sem,seval,g15,DB,g5',Hx,a2]
  (try rfl)
 have DB:(i<s.length)=True:=eq_true AV;obtain⟨y,hy,TY⟩:=zai AV;have Tx:=hs y TY;have Tw:(nI s)[i]? =some (y:Int):=by rw[zJ,hy];rfl
 obtain⟨w,Ho,FP⟩:=zai (show y<(zGt L).length by rw[hM.len];omega);have G1:=hM.lt w FP;have Ap:=zPs Sz hs Ho G1;have b0:((y:Int)<0)=False:=eq_false (by omega);have b1:((y:Int)<64)=True:=eq_true (by omega);have b2:(y*1+1<=(bmV (zGt L)).length)=True:=eq_true (by rw[F8];omega)
 have BK:List.take 1 (List.drop (y*1) (bmV (zGt L)))=[vw w]:=by
  rw[Nat.mul_one,zdo (l:=bmV (zGt L)) (x:=vw w) (by rw[bmV,zJ,Ho];rfl)];rfl
 have e1:=zPh G1 (zJM hs);have Fe:=zMU (L:=L) hy
 by_cases hc:(L.all fun n=> !decide (n/ 64=y)||s.contains (n % 64))=true
 ·have c1:(((w&&& (2^64-1-wdN s):Nat):Int)=0)=True:=eq_true (by rw[Ap.2 hc];rfl);rw[if_pos hc]at Fe;have e2:=zNr Tx;have e3:=zOv (zJM (s:=(s.take i).filter fun x=>L.all fun n=> !decide (n/ 64=x)||s.contains (n % 64)) fun n hn=>hs n (List.mem_of_mem_take (List.mem_filter.1 hn).1)) (zI3 Tx);simp -dsimp -implicitDefEqProofs only[go_sem,seval,g15,DB,Hx,Tw,hm,b0,b1,b2,BK,e1,c1,g5,e2,e3];refine⟨AV,by simp -dsimp -implicitDefEqProofs only[go_sem,seval,hw],?_,hm⟩;simp -dsimp -implicitDefEqProofs only[go_sem,seval];rw[Fe,zLa]
 ·have c1:(((w&&& (2^64-1-wdN s):Nat):Int)=0)=False:=eq_false fun h=>hc (Ap.1 (by omega))
  rw[if_neg hc]at Fe;simp -dsimp -implicitDefEqProofs only[go_sem,seval,g15,DB,Hx,Tw,hm,b0,b1,b2,BK,e1,c1,g5];refine⟨AV,by simp -dsimp -implicitDefEqProofs only[go_sem,seval,hw],?_,hm⟩;simp -dsimp -implicitDefEqProofs only[go_sem,seval,g5];rw[Fe]
theorem zI6 {l ws:List Int} (S:Shp l ws) (h6:zGp ws<=6) {L s:List Nat} (P:Prs (zGp ws).toNat L) (E:Elems ws s):
 Den Γ G 512 [zHy l ws L,zGj l ws (nI s)]=some (.tup [zGj l ws (nI (zHe L s)),vi 0]):=by
 have a1:=zK3 S h6 P E;have a2:=zKQ S h6 P E
 have a3:Den Γ G 541 [vb true,.t (.fn 543 [] [.ip [ints l,ints ws,.sl (L.map prT)],.ip [ints l,ints ws,ints (nI s)]])]=some (.tup [zGj l ws (nI (zHe L s)),vi 0]):=by
  unfold zGj at *
  (refine zag Γ541 rfl ?_;dsimp only[zQo])
  simp -dsimp -implicitDefEqProofs only[go_sem,seval,a2]
 unfold zGj zHy at *
 (refine zag Γ512 rfl ?_;dsimp only[zQI])
 simp -dsimp -implicitDefEqProofs only[go_sem,seval,a1];simp -dsimp -implicitDefEqProofs only[go_sem,seval,a1,a3];refine zGs (fun _=>True) (fun _ _=>trivial) fun h5 _ hf=> ?_
 simp -dsimp -implicitDefEqProofs only[go_sem,seval]
def hM (ws:List Nat) (x y:Nat):Bool:=(ws.getD x 0).testBit y
theorem zOp (ws:List Nat) {n:Nat}:zIO ws n=hM ws (n/ 64) (n % 64):=rfl
def zOA (ws:List Nat) (x y:Nat):List Nat:=if hM ws x y=true then ws.set x (ws.getD x 0 ||| ws.getD y 0)else ws
theorem zJs {ws:List Nat} (B:Bm ws) (x:Nat):ws.getD x 0<2^64:=by
 rw[zK]
 cases h:ws[x]? with
 | none=>simp
 | some w=>exact B.lt w (zL h)
theorem zOz {ws:List Nat} (B:Bm ws) (x y:Nat):Bm (zOA ws x y):=by
 unfold zOA;split
 ·refine⟨by rw[List.length_set,B.len],fun w hw=> ?_⟩;rcases List.mem_or_eq_of_mem_set hw with h | rfl
  ·exact B.lt w h
  ·exact Nat.or_lt_two_pow (zJs B x) (zJs B y)
 ·exact B
theorem zNw {ws:List Nat} (B:Bm ws) {x y a b:Nat} (hx:x<64):hM (zOA ws x y) a b=true<->hM ws a b=true\/(a=x/\hM ws x y=true/\hM ws y b=true):=by
 unfold zOA;split
 ·rename_i h
  by_cases ha:a=x
  ·subst ha;unfold hM;rw[zK,List.getElem?_set,if_pos rfl,if_pos (by rw[B.len];exact hx),Option.getD_some,Nat.testBit_or,Bool.or_eq_true];exact⟨fun h'=>h'.imp id fun h2=>⟨rfl,h,h2⟩,fun h'=>h'.imp id fun h2=>h2.2.2⟩
  ·unfold hM;rw[zK,List.getElem?_set,if_neg (Ne.symm ha),<- zK];exact⟨.inl,fun h'=>h'.elim id fun h2=>absurd h2.1 ha⟩
 ·rename_i h;exact⟨.inl,fun h'=>h'.elim id fun h2=>absurd h2.2.1 h⟩
def zue (ws:List Nat) (y n:Nat):List Nat:=(List.range n).foldl (fun ws x=>zOA ws x y) ws
theorem zIn (ws:List Nat) (y n:Nat):zue ws y (n+1)=zOA (zue ws y n) n y:=by simp[zue,List.range_succ]
def zJK (ws:List Nat) (N n:Nat):List Nat:=(List.range n).foldl (fun ws y=>zue ws y N) ws
theorem zII (ws:List Nat) (N n:Nat):zJK ws N (n+1)=zue (zJK ws N n) n N:=by simp[zJK,List.range_succ]
def zIP (ws:List Nat) (n:Nat):List Nat:=(List.range n).foldl (fun ws x=>zKt ws (65*x)) ws
theorem zID (ws:List Nat) (n:Nat):zIP ws (n+1)=zKt (zIP ws n) (65*n):=by simp[zIP,List.range_succ]
def zLA (ws:List Nat) (N:Nat):List Nat:=zJK (zIP ws N) N N
theorem zJm {ws:List Nat} (B:Bm ws) (y:Nat): ∀n,Bm (zue ws y n)
 | 0=>B
 | n+1=>by rw[zIn];exact zOz (zJm B y n) n y
theorem zJD {ws:List Nat} (B:Bm ws) (N:Nat): ∀n,Bm (zJK ws N n)
 | 0=>B
 | n+1=>by rw[zII];exact zJm (zJD B N n) n N
theorem zH0 {ws:List Nat} (B:Bm ws): ∀n,n<=63+1->Bm (zIP ws n)
 | 0,_=>B
 | n+1,h=>by rw[zID];exact zK6 (zH0 B n (by omega)) (by omega)
theorem zO4 {ws:List Nat} (B:Bm ws) {N:Nat} (hN:N<=64):Bm (zLA ws N):=zJD (zH0 B N hN) N N
theorem zLd {ws:List Nat} (B:Bm ws) {y:Nat} (OO:hM ws y y=true): ∀n,n<=64-> ∀a b,hM (zue ws y n) a b=true<->hM ws a b=true\/(a<n/\hM ws a y=true/\hM ws y b=true)
 | 0,_,a,b=>by simp[zue]
 | n+1,h,a,b=>by
   have ih:=zLd B OO n (by omega);rw[zIn,zNw (zJm B y n) (by omega),ih a b,ih n y,ih y b];constructor
   ·rintro((h1 | ⟨h1,h2,h3⟩) | ⟨rfl,h1,h2⟩)
    ·exact .inl h1
    ·exact .inr ⟨by omega,h2,h3⟩
    ·refine .inr ⟨by omega,?_,?_⟩
     ·exact h1.elim id fun h=>h.2.1
     ·exact h2.elim id fun h=>h.2.2
   ·rintro(h1 | ⟨h1,h2,h3⟩)
    ·exact .inl (.inl h1)
    ·by_cases ha:a=n
     ·subst ha;exact .inr ⟨rfl,.inl h2,.inl h3⟩
     ·exact .inl (.inr ⟨by omega,h2,h3⟩)
theorem zHU {ws:List Nat} (B:Bm ws): ∀n,n<=64-> ∀a b,b<64->(hM (zIP ws n) a b=true<->hM ws a b=true\/(a<n/\a=b))
 | 0,_,a,b,_=>by simp[zIP]
 | n+1,h,a,b,hb=>by
   have ih:=zHU B n (by omega) a b hb;have h1:=zLp (zH0 B n (by omega)) (n:=65*n) (by omega) (64*a+b);rw[zOp,zOp,show(64*a+b)/ 64=a by omega,show(64*a+b) % 64=b by omega]at h1;rw[zID,h1,Bool.or_eq_true,ih,decide_eq_true_eq];constructor
   ·rintro((h | h) | h)
    ·exact .inl h
    ·exact .inr ⟨by omega,h.2⟩
    ·exact .inr ⟨by omega,by omega⟩
   ·rintro(h | ⟨h,rfl⟩)
    ·exact .inl (.inl h)
    ·by_cases ha:a<n
     ·exact .inl (.inr ⟨ha,rfl⟩)
     ·exact .inr (by omega)
def InN (ws:List Nat) (N:Nat):Prop:= ∀a b,hM ws a b=true->a<N/\b<N
theorem zLx {ws:List Nat} (B:Bm ws) {N:Nat} (hN:N<=64) (hI:InN ws N) (hR: ∀a,a<N->hM ws a a=true):
 ∀n,n<=N->InN (zJK ws N n) N/\(∀a b,hM ws a b=true->hM (zJK ws N n) a b=true)/\(∀P:Nat->Prop,(∀a b,hM ws a b=true->P a->P b)-> ∀a b,hM (zJK ws N n) a b=true->P a->P b)/\
  ∀y,y<n-> ∀a b,hM (zJK ws N n) a y=true->hM (zJK ws N n) y b=true->hM (zJK ws N n) a b=true
 | 0,_=>⟨hI,fun _ _ h=>h,fun P h=>h,fun y hy=>absurd hy (Nat.not_lt_zero y)⟩
 | n+1,hn=>by
   obtain⟨i1,i2,i3,i4⟩:=zLx B hN hI hR n (by omega);have U4:=i2 n n (hR n (by omega));have st:=zLd (zJD B N n) U4 N hN;rw[zII];refine⟨fun a b h=> ?_,fun a b h=>(st a b).2 (.inl (i2 a b h)),fun P hP a b h ha=> ?_,fun y hy a b h1 h2=> ?_⟩
   ·rcases(st a b).1 h with h | ⟨h1,h2,h3⟩
    ·exact i1 a b h
    ·exact⟨h1,(i1 _ _ h3).2⟩
   ·rcases(st a b).1 h with h | ⟨h1,h2,h3⟩
    ·exact i3 P hP a b h ha
    ·exact i3 P hP n b h3 (i3 P hP a n h2 ha)
   ·rw[st]at h1 h2⊢
    by_cases P9:y=n
    ·subst P9;have e1:hM (zJK ws N y) a y=true:=h1.elim id fun h=>h.2.1
     have e2:hM (zJK ws N y) y b=true:=h2.elim id fun h=>h.2.2
     exact .inr ⟨(i1 _ _ e1).1,e1,e2⟩
    ·have FO:y<n:=by omega
     rcases h1 with h1 | ⟨p1,p2,p3⟩<;>rcases h2 with h2 | ⟨q1,q2,q3⟩
     ·exact .inl (i4 y FO a b h1 h2)
     ·exact .inr ⟨(i1 _ _ h1).1,i4 y FO a n h1 q2,q3⟩
     ·exact .inr ⟨p1,p2,i4 y FO n b p3 h2⟩
     ·exact .inr ⟨p1,p2,q3⟩
theorem zJG {ws:List Nat} (B:Bm ws) {N:Nat} (hN:N<=64) (hI:InN ws N):
 InN (zLA ws N) N/\(∀a,a<N->hM (zLA ws N) a a=true)/\(∀a b,hM ws a b=true->hM (zLA ws N) a b=true)/\(∀P:Nat->Prop,(∀a b,hM ws a b=true->P a->P b)-> ∀a b,hM (zLA ws N) a b=true->P a->P b)/\
  ∀a y b,hM (zLA ws N) a y=true->hM (zLA ws N) y b=true->hM (zLA ws N) a b=true:=by
 have tb: ∀a b,hM (zIP ws N) a b=true->b<64:=fun a b h=>by
  unfold hM at h;have h1:=zJs (zH0 B N hN) a;rcases Nat.lt_or_ge b 64 with h2 | h2
  ·exact h2
  ·rw[Nat.testBit_lt_two_pow (Nat.lt_of_lt_of_le h1 (Nat.pow_le_pow_right (by omega) h2))]at h;cases h
 have di:InN (zIP ws N) N:=fun a b h=>by
  rcases(zHU B N hN a b (tb a b h)).1 h with h | ⟨h1,rfl⟩
  ·exact hI a b h
  ·exact⟨h1,h1⟩
 have dr: ∀a,a<N->hM (zIP ws N) a a=true:=fun a ha=>(zHU B N hN a a (by omega)).2 (.inr ⟨ha,rfl⟩)
 have db: ∀a b,hM ws a b=true->hM (zIP ws N) a b=true:=fun a b h=>(zHU B N hN a b (by have:=(hI a b h).2;omega)).2 (.inl h)
 obtain⟨c1,c2,c3,c4⟩:=zLx (zH0 B N hN) hN di dr N (Nat.le_refl _);refine⟨c1,fun a ha=>c2 _ _ (dr a ha),fun a b h=>c2 _ _ (db a b h),fun P hP=>c3 P fun a b h ha=> ?_,fun a y b h1 h2=>c4 y (c1 _ _ h1).2 a b h1 h2⟩;rcases(zHU B N hN a b (tb a b h)).1 h with h | ⟨_,rfl⟩
 ·exact hP a b h ha
 ·exact ha
theorem zOd {ws:List Nat} {x v:Nat} (h:x<ws.length):List.take (x*1) (bmV ws)++[vw v]++List.drop (x*1+1) (bmV ws)=bmV (ws.set x v):=by
 rw[Nat.mul_one,bmV,bmV,List.map_set,List.set_eq_take_append_cons_drop,if_pos (by simp;omega)];simp
theorem zO6 {ws:List Nat} {x w:Nat} (h:ws[x]? =some w):List.take 1 (List.drop (x*1) (bmV ws))=[vw w]:=by
 rw[Nat.mul_one,zdo (l:=bmV ws) (x:=vw w) (by rw[bmV,zJ,h];rfl)];rfl
theorem zRb {ws:List Nat} {x y w:Nat} (h:ws[x]? =some w):hM ws x y=w.testBit y:=by rw[hM,zK,h];rfl
def zNd (b:Nat) (L:List Nat):List Nat:=zLh (zLA (zGt L) (2^b)) 4096
theorem zKl {l ws:List Int} (S:Shp l ws) (h6:zGp ws<=6) {L:List Nat} (P:Prs (zGp ws).toNat L):
 Den Γ G 539 [.t (.ip [ints l,ints ws,.sl (L.map prT)])]=some (zHy l ws (zNd (zGp ws).toNat L)):=by
 have SS:(zGp ws).toNat<=6:=by have:=S.sum.1;omega
 have Sz:=P.lt4 SS;have Ac:=zHn P.inc Sz;have a2:=zHK ws S.w (by have:=S.wl;have:=S.len;omega);have h0:=S.sum.1;obtain⟨b,hb⟩: ∃b:Nat,zGp ws=b:=⟨(zGp ws).toNat,by omega⟩
 rw[hb]at a2 h6 P⊢;rw[Int.toNat_natCast]at P⊢;have S7:(2:Nat)^b<=2^6:=Nat.pow_le_pow_right (by omega) (by omega);have s0:((b:Int)<0)=False:=eq_false (by omega)
 have s1:IntKind.i64.wrap (1*2^min b 64)=((2^b:Nat):Int):=by
  have h4:(1*2^min b 64:Int)=((2^b:Nat):Int):=by
   rw[Nat.min_eq_left (by omega)];push_cast;omega
  rw[h4]
  generalize(2:Nat)^b=q at S7⊢
  exact zaH (by omega)
 have UH:=zGB Sz;have hD:=fun n hn=>zH0 UH n (by omega:n<=63+1)
 unfold zNd
 generalize hN:2^b=N at *
 have a3:=zHj l ws (by have:=S.len;omega) (by have:=S.wl;have:=S.len;omega) _ (zO4 UH (N:=N) (by omega));unfold bmT zHy at a3;unfold zHy
 (refine zag Γ539 rfl ?_;dsimp only[zQq])
 simp -dsimp -implicitDefEqProofs only[go_sem,seval];refine zPr (l:=l) (ws:=ws) (L:=L) Sz Ac ⟨rfl,rfl⟩ ?_;intro hp hk hf;simp -dsimp -implicitDefEqProofs only[go_sem,seval,a2,s0,s1];refine zaq 268419088 N (fun i f h x=>(f 14).v=vi i/\h 2=some (.rows 64 [bmV (zIP (zGt L) i)] false)/\3<=x) rfl ⟨by simp -dsimp -implicitDefEqProofs only[go_sem,seval],by(try simp -dsimp -implicitDefEqProofs only[go_sem,seval]);exact hk,by(try simp -dsimp -implicitDefEqProofs only[go_sem,seval]);(try omega)⟩ ?_;rintro i f u h x bb hi ⟨g14,hm,hx⟩;have hw:=zan i (by omega)
 by_cases AV:i<N
 ·have DB:(i<N)=True:=eq_true AV;have hB:=hD i (by omega);obtain⟨w,Ho,FP⟩:=zai (show i<(zIP (zGt L) i).length by rw[hB.len];omega);have e1:=zNr (show i<64 by omega);have e2:=zOv (hB.lt w FP) (zI3 (show i<64 by omega));have b0:((i:Int)<0)=False:=eq_false (by omega);have b1:((i:Int)<64)=True:=eq_true (by omega);have b2:(i*1+1<=(bmV (zIP (zGt L) i)).length)=True:=eq_true (by simp[bmV,hB.len];omega);have BK:=zO6 Ho;have Mn:=zOd (ws:=zIP (zGt L) i) (x:=i) (v:=w ||| 1<<< i) (by rw[hB.len];omega)
  have hnx:(zIP (zGt L) i).set i (w ||| 1<<< i)=zIP (zGt L) (i+1):=by
   rw[zID,zKt,show 65*i/ 64=i by omega,show 65*i % 64=i by omega,zK,Ho,Option.getD_some]
  rw[hnx]at Mn;simp -dsimp -implicitDefEqProofs only[go_sem,seval,g14,DB,hm,b0,b1,b2,BK,e1,e2,Mn];refine⟨AV,by simp -dsimp -implicitDefEqProofs only[go_sem,seval,hw],?_,by(try simp -dsimp -implicitDefEqProofs only[go_sem,seval]);(try omega)⟩;simp only[zaC,zaA];rw[zaa,if_pos rfl]
 have DB:(i<N)=False:=eq_false AV;have:i=N:=by omega
 subst this;simp -dsimp -implicitDefEqProofs only[go_sem,seval,g14,DB];refine zaq 1152921504069976160 i (fun y f h x=>(f 29).v=vi y/\h 2=some (.rows 64 [bmV (zJK (zIP (zGt L) i) i y)] false)/\3<=x) rfl ⟨by simp -dsimp -implicitDefEqProofs only[go_sem,seval],by(try simp -dsimp -implicitDefEqProofs only[go_sem,seval]);exact hm,by(try simp -dsimp -implicitDefEqProofs only[go_sem,seval]);(try omega)⟩ ?_;rintro y f2 u h2 x2 bb Cq ⟨g29,Mu,ML⟩;have BO:=zan y (by omega);have Ij:=zJD (hD i (by omega)) i y
 by_cases HG:y<i
 rotate_left
 ·have Te:(y<i)=False:=eq_false HG;have:y=i:=by omega
  subst this;have bt:=zLC h2 999 (zJK (zIP (zGt L) y) y y);unfold zLA at a3⊢;simp -dsimp -implicitDefEqProofs only[go_sem,seval,g29,Te,Mu,bt,a3];refine zGs (fun _=>True) (fun _ _=>trivial) fun h5 _ hf=> ?_
  simp -dsimp -implicitDefEqProofs only[go_sem,seval]
 have Te:(y<i)=True:=eq_true HG;simp -dsimp -implicitDefEqProofs only[go_sem,seval,g29,Te];refine zaq 576460743713488960 i (fun z f h x=>(f 33).v=vi z/\h 2=some (.rows 64 [bmV (zue (zJK (zIP (zGt L) i) i y) y z)] false)/\3<=x) rfl ⟨by simp -dsimp -implicitDefEqProofs only[go_sem,seval],by(try simp -dsimp -implicitDefEqProofs only[go_sem,seval]);exact Mu,by(try simp -dsimp -implicitDefEqProofs only[go_sem,seval]);(try omega)⟩ ?_;rintro z f3 u h3 x3 bb C8 ⟨g33,Qu,Ty⟩;have Gl:=zan z (by omega);have Mb:=zJm Ij y z
 by_cases Hr:z<i
 rotate_left
 ·have SO:(z<i)=False:=eq_false Hr;have:z=i:=by omega
  subst this;simp -dsimp -implicitDefEqProofs only[go_sem,seval,g33,SO,g29];exact⟨HG,by simp -dsimp -implicitDefEqProofs only[go_sem,seval,BO],by rw[zII];exact Qu,by(try simp -dsimp -implicitDefEqProofs only[go_sem,seval]);(try omega)⟩
 have SO:(z<i)=True:=eq_true Hr
 generalize hR:zue (zJK (zIP (zGt L) i) i y) y z=R at *
 have U5:=Mb.len;obtain⟨w,Ho,FP⟩:=zai (show z<R.length by omega);obtain⟨v,RA,Kg⟩:=zai (show y<R.length by omega);have G1:=Mb.lt w FP;have b0:((z:Int)<0)=False:=eq_false (by omega);have b0y:((y:Int)<0)=False:=eq_false (by omega);have b1:((z:Int)<64)=True:=eq_true (by omega);have b1y:((y:Int)<64)=True:=eq_true (by omega);have b2:(z*1+1<=(bmV R).length)=True:=eq_true (by simp[bmV,U5];omega);have b2y:(y*1+1<=(bmV R).length)=True:=eq_true (by simp[bmV,U5];omega);have BK:=zO6 Ho;have Uf:=zO6 RA;have e1:=zOu (w:=w) y (by omega);have SD:w/ 2^y<2^64:=Nat.lt_of_le_of_lt (Nat.div_le_self _ _) G1;have e2:IntKind.u64.wrap ((BitVec.ofInt IntKind.u64.bits ((w/ 2^y:Nat):Int)&&& BitVec.ofInt IntKind.u64.bits 1).toNat:Int)=((w/ 2^y&&& 1:Nat):Int):=zLI SD (show 1<2^64 by decide);have e4:=zOv G1 (Mb.lt v Kg);have BM:=zOw (w:=w) (y:=y);have hh:=zRb (y:=y) Ho
 have hnx:zue (zJK (zIP (zGt L) i) i y) y (z+1)=if w.testBit y=true then R.set z (w ||| v)else R:=by
  rw[zIn,hR,zOA,hh,zK,Ho,Option.getD_some,zK,RA,Option.getD_some]
 cases K1:w.testBit y
 ·rw[K1]at BM hnx;rw[if_neg (by simp)]at hnx;have e3:(((w/ 2^y&&& 1:Nat):Int)=1)=False:=eq_false fun h=>by have:=BM.1 (by omega);cases this
  simp -dsimp -implicitDefEqProofs only[go_sem,seval,g33,SO,Qu,b0,b1,b2,BK,b0y,e1,e2,e3];exact⟨Hr,by simp -dsimp -implicitDefEqProofs only[go_sem,seval,Gl],by rw[hnx];exact Qu,by(try simp -dsimp -implicitDefEqProofs only[go_sem,seval]);(try omega)⟩
 ·rw[K1]at BM hnx;rw[if_pos rfl]at hnx;have e3:(((w/ 2^y&&& 1:Nat):Int)=1)=True:=eq_true (by have:=BM.2 rfl;omega);have Mn:=zOd (ws:=R) (x:=z) (v:=w ||| v) (by omega);rw[<- hnx]at Mn;simp -dsimp -implicitDefEqProofs only[go_sem,seval,g33,SO,Qu,b0,b1,b2,BK,b0y,b1y,b2y,Uf,e1,e2,e3,e4,Mn];refine⟨Hr,by simp -dsimp -implicitDefEqProofs only[go_sem,seval,Gl],?_,by(try simp -dsimp -implicitDefEqProofs only[go_sem,seval]);(try omega)⟩;simp only[zaC,zaA];rw[zaa,if_pos rfl]
theorem zK1 {l ws:List Int} (S:Shp l ws) (h6:zGp ws<=6) {L:List Nat} (P:Prs (zGp ws).toNat L):
 Den Γ G 511 [zHy l ws L]=some (.tup [zHy l ws (zNd (zGp ws).toNat L),vi 0]):=by
 have a1:=zHJ S h6 P;have a2:=zKl S h6 P
 have a3:Den Γ G 537 [vb true,.t (.fn 539 [] [.ip [ints l,ints ws,.sl (L.map prT)]])]=some (.tup [zHy l ws (zNd (zGp ws).toNat L),vi 0]):=by
  unfold zHy at *
  (refine zag Γ537 rfl ?_;dsimp only[zQs])
  simp -dsimp -implicitDefEqProofs only[go_sem,seval,a2]
 unfold zHy at *
 (refine zag Γ511 rfl ?_;dsimp only[zQJ])
 simp -dsimp -implicitDefEqProofs only[go_sem,seval,a1,a3];refine zGs (fun _=>True) (fun _ _=>trivial) fun h5 _ hf=> ?_
 simp -dsimp -implicitDefEqProofs only[go_sem,seval]
theorem zKI {L:List Nat} (hL: ∀n∈L,n<4096) {a b:Nat} (hb:b<64):hM (zGt L) a b=true<->64*a+b∈L:=by
 rw[hM,zKB hL hb,List.contains_iff_mem]
theorem zPA {ws:List Nat} (B:Bm ws) {a b:Nat} (h:hM ws a b=true):b<64:=by
 unfold hM at h;have h1:=zJs B a;rcases Nat.lt_or_ge b 64 with h2 | h2
 ·exact h2
 ·rw[Nat.testBit_lt_two_pow (Nat.lt_of_lt_of_le h1 (Nat.pow_le_pow_right (by omega) h2))]at h;cases h
theorem zMV {b:Nat} {L:List Nat} (hb:b<=6) (P:Prs b L):InN (zGt L) (2^b):=fun x y h=>by
 have Sz:=P.lt4 hb;have hy:=zPA (zGB Sz) h;have:=P.lt _ ((zKI Sz hy).1 h);rw[show(64*x+y)/ 64=x by omega,show(64*x+y) % 64=y by omega]at this;exact this
theorem zJF {b:Nat} {L:List Nat} (hb:b<=6) (P:Prs b L) {x y:Nat} (hy:y<64):64*x+y∈zNd b L<->hM (zLA (zGt L) (2^b)) x y=true:=by
 have S7:(2:Nat)^b<=2^6:=Nat.pow_le_pow_right (by omega) hb;obtain⟨h1,_⟩:=zJG (zGB (P.lt4 hb)) (N:=2^b) (by omega) (zMV hb P);rw[zNd,zLh,List.mem_filter,List.mem_range]
 have e:prB (zLA (zGt L) (2^b)) (64*x+y)=hM (zLA (zGt L) (2^b)) x y:=by
  rw[prB,hM,show(64*x+y)/ 64=x by omega,show(64*x+y) % 64=y by omega]
 rw[e];exact⟨fun h=>h.2,fun h=>⟨by have:=(h1 _ _ h).1;omega,h⟩⟩
theorem zLz {b:Nat} {L:List Nat} (hb:b<=6) (P:Prs b L):Prs b (zNd b L):=by
 have S7:(2:Nat)^b<=2^6:=Nat.pow_le_pow_right (by omega) hb;obtain⟨h1,_⟩:=zJG (zGB (P.lt4 hb)) (N:=2^b) (by omega) (zMV hb P);refine⟨List.Pairwise.filter _ List.pairwise_lt_range,fun n hn=> ?_⟩;have:=(zJF hb P (x:=n/ 64) (y:=n % 64) (by omega)).1 (by rw[show 64*(n/ 64)+n % 64=n by omega];exact hn);exact h1 _ _ this
theorem zHS {b:Nat} {L s:List Nat} (hb:b<=6) (P:Prs b L) {x:Nat}:x∈zHe L s<->x∈s/\ ∀y,y<64->64*x+y∈L->y∈s:=by
 unfold zHe;rw[List.mem_filter,zN];refine and_congr Iff.rfl ⟨fun h y hy hm=> ?_,fun h n hn=> ?_⟩
 ·have:=h _ hm;rw[show(64*x+y)/ 64=x by omega,show(64*x+y) % 64=y by omega]at this;simpa using this
 ·by_cases hx:n/ 64=x
  ·have:=h (n % 64) (by omega) (by rw[<- hx,show 64*(n/ 64)+n % 64=n by omega];exact hn);simp[this]
  ·simp[hx]
theorem zIS {b:Nat} {L B s:List Nat} (hb:b<=6) (P:Prs b L) (hB:B.Pairwise (· < ·)) (hs:s.Pairwise (· < ·)) (Uz: ∀x∈B,x<2^b) (h1: ∀x∈s,x∈B) (h2:zHe L s=s)
 (h3: ∀I:List Nat,(∀x∈I,x∈B)->(∀x∈I,∀y,y<64->64*x+y∈L->y∈I)-> ∀x∈I,x∈s):zHe (zNd b L) B=s:=by
 have S7:(2:Nat)^b<=2^6:=Nat.pow_le_pow_right (by omega) hb;have Sz:=P.lt4 hb;obtain⟨c1,c2,c3,c4,c5⟩:=zJG (zGB Sz) (N:=2^b) (by omega) (zMV hb P);have PC:=zLz hb P
 have hJ: ∀x,x∈zHe (zNd b L) B<->x∈B/\ ∀y,y<64->hM (zLA (zGt L) (2^b)) x y=true->y∈B:=fun x=>by
  rw[zHS hb PC];refine and_congr Iff.rfl ⟨fun h y hy hm=>h y hy ((zJF hb P hy).2 hm),fun h y hy hm=>h y hy ((zJF hb P hy).1 hm)⟩
 have key: ∀x,x∈zHe (zNd b L) B<->x∈s:=fun x=>by
  constructor
  ·refine h3 _ (fun x hx=>((hJ x).1 hx).1) (fun x hx y hy hm=> ?_) x;have q:=(hJ x).1 hx;have e:=c3 _ _ ((zKI Sz hy).2 hm);exact(hJ y).2 ⟨q.2 y hy e,fun z hz Mu=>q.2 z hz (c5 _ _ _ e Mu)⟩
  ·intro hx;refine(hJ x).2 ⟨h1 x hx,fun y hy hm=>h1 y ?_⟩;refine c4 (fun x=>x∈s) (fun a c UC ha=> ?_) x y hm hx;rw[<- h2,zHS hb P]at ha;have hc:=zPA (zGB Sz) UC;exact ha.2 c hc ((zKI Sz hc).1 UC)
 refine List.Perm.eq_of_pairwise (le:=(· < ·)) (fun a b _ _ h1 h2=>by omega) (List.Pairwise.filter _ hB) hs ((List.perm_ext_iff_of_nodup ((List.Pairwise.filter _ hB).imp fun h=>by omega) (hs.imp fun h=>by omega)).2 key)
theorem zId (a b:List Int) (ha:a.length<2^30) (hb:b.length<2^30):Den Γ G 524 [.t (ints a),.t (ints b)]=some (vb (decide (a=b))):=by
 (refine zag Γ524 rfl ?_;dsimp only[zPI])
 by_cases hl:a.length=b.length
 rotate_left
 ·have e1:((a.length:Int)=(b.length:Int))=False:=eq_false (by omega);have e0: ¬a=b:=fun h=>hl (by rw[h])
  simp -dsimp -implicitDefEqProofs only[go_sem,seval,e1];simp[e0]
 have e1:((a.length:Int)=(b.length:Int))=True:=eq_true (by omega);simp -dsimp -implicitDefEqProofs only[go_sem,seval,e1];refine zaT 67100720 a.length (fun i f=>(f 13).v=vi i/\a.take i=b.take i) rfl rfl ⟨by simp -dsimp -implicitDefEqProofs only[go_sem,seval],rfl⟩ ?_;rintro i f u x bs hi ⟨Du,Dv⟩;have hw:=zan i (by omega)
 by_cases AV:i<a.length
 ·have DB:=eq_true AV;obtain⟨n,hn,_⟩:=zai AV;obtain⟨m,hm,_⟩:=zai (show i<b.length by omega)
  by_cases hq:n=m
  ·subst hq;simp -dsimp -implicitDefEqProofs only[go_sem,seval,Du,DB,hn,hm,bne_self_eq_false];exact⟨AV,by simp -dsimp -implicitDefEqProofs only[go_sem,seval,hw],by rw[zaf hn,zaf hm,Dv]⟩
  ·have e2:(n=m)=False:=eq_false hq;have e0: ¬a=b:=fun h=>hq (by rw[h,hm]at hn;exact(Option.some.inj hn).symm)
   simp -dsimp -implicitDefEqProofs only[go_sem,seval,Du,DB,hn,hm,e2];simp[e0]
 ·have DB:=eq_false AV;have:i=a.length:=by omega
  subst this;rw[List.take_length,hl,List.take_length]at Dv;simp -dsimp -implicitDefEqProofs only[go_sem,seval,Du,DB];simp[Dv]
def PvF (h:Nat->Option O) (P:Nat->Prop) (v:V) (l:List Int):Prop:=
 (v= .t .nils/\l=[])\/ ∃k f,v= .ms k 0 l.length/\P k/\h k=some (.rows 1 (zae l) f)
theorem PvF.mono {h h':Nat->Option O} {P:Nat->Prop} {v:V} {l:List Int} (o:PvF h P v l) (hh:zNk h h'):PvF h' P v l:=by
 rcases o with o | ⟨k,f,h1,h2,h3⟩
 ·exact .inl o
 ·obtain⟨f',h4⟩:=hh k _ _ _ h3;exact .inr ⟨k,f',h1,h2,h4⟩
theorem PvF.keep {h h':Nat->Option O} {P:Nat->Prop} {v:V} {l:List Int} (o:PvF h P v l) (hh: ∀j,P j->h' j=h j):PvF h' P v l:=by
 rcases o with o | ⟨k,f,h1,h2,h3⟩
 ·exact .inl o
 ·exact .inr ⟨k,f,h1,h2,by rw[hh k h2];exact h3⟩
theorem PvF.imp {h:Nat->Option O} {P Q:Nat->Prop} {v:V} {l:List Int} (o:PvF h P v l) (hh: ∀j,P j->Q j):PvF h Q v l:=by
 rcases o with o | ⟨k,f,h1,h2,h3⟩
 ·exact .inl o
 ·exact .inr ⟨k,f,h1,hh k h2,h3⟩
theorem PvF.val {h:Nat->Option O} {P:Nat->Prop} {v:V} {l:List Int} (o:PvF h P v l):Rg.valOf v=some v/\V.cells v=some [v]:=by
 rcases o with⟨rfl,_⟩ | ⟨k,f,rfl,_,_⟩<;>exact⟨rfl,rfl⟩
theorem PvF.toT {h:Nat->Option O} {P:Nat->Prop} {v:V} {l:List Int} (o:PvF h P v l) (d:Nat) (hd:2<d):Rg.toT h d v=some (ints l):=by
 obtain⟨d,rfl⟩: ∃e,d=e+1:=⟨d-1,by omega⟩
 rcases o with⟨rfl,rfl⟩ | ⟨k,f,rfl,_,hk⟩
 ·rfl
 ·simp only[Rg.toT,hk,rd];rw[if_pos (by rw[zab];omega),zC,zD,List.drop_zero,List.take_of_length_le (by rw[zab];omega)];have:=zHM h d l;rw[this];rfl
theorem PvF.reach {h:Nat->Option O} {P:Nat->Prop} {v:V} {l:List Int} (o:PvF h P v l): ∀j∈Rg.reach h 1000 v,P j:=by
 rcases o with⟨rfl,rfl⟩ | ⟨k,f,rfl,hp,hk⟩
 ·intro j hj;simp[Rg.reach]at hj
 ·intro j hj;have:=zo6 (i:=0) (n:=l.length) hk (zI1 l);simp only[List.flatMap_cons,List.flatMap_nil,List.append_nil,zba]at this;rw[this,List.mem_singleton]at hj;subst hj;exact hp
theorem zaF.pvF {h:Nat->Option O} {x:Nat} {v:V} {l:List Int} {P:Nat->Prop} (o:zaF h x v 1 (zae l)) (hP: ∀k,k<x-> ¬zbg v k->P k):PvF h P v l:=by
 rcases o with⟨h1,h2⟩ | ⟨k,h1,h2,h3⟩
 ·refine .inl ⟨h1,?_⟩;have:=congrArg List.length h2;rw[zab]at this;exact List.eq_nil_of_length_eq_zero this
 ·rw[zab]at h1;exact .inr ⟨k,false,h1,hP k h2 (fun ho=>ho _ _ h1),h3⟩
theorem zaF.offQ {h:Nat->Option O} {x k sz sz':Nat} {v:V} {rows rs:List (List V)} {f:Bool} (o:zaF h x v sz rows) (hk:h k=some (.rows sz' rs f)) (Az:sz≠sz'):zbg v k:=by
 rcases o with⟨rfl,_⟩ | ⟨q,rfl,_,hq⟩
 ·intro i n he;cases he
 ·refine za3 ?_ _ _;rintro rfl;rw[hq]at hk;cases hk;exact Az rfl
def rwR (R:List (Int×V)):List (List V):=R.map fun r=>[vi r.1,r.2]
theorem zOC (R:List (Int×V)):(rwR R).length=R.length:=by simp[rwR]
theorem zOE (R:List (Int×V)):((rwR R).all fun r=>decide (r.length=2))=true:=by simp[rwR]
theorem zOD (R:List (Int×V)) (r:Int×V):rwR (R++[r])=rwR R++[[vi r.1,r.2]]:=by simp[rwR]
theorem zPu {h:Nat->Option O} {x ky k2:Nat} {env:Nat->V} {vL vp:V} {R:List (Int×V)} {last:Int} (hk:h ky=some (.loop env [7] zHr .ready)) (e2:env 2= .mp k2 0 0) (h2:h k2=some (.rows 1 [[vL]] false)) (hO:zaF h x vL 2 (rwR R)) (hL:R.length<2^20) (hky:ky<x) (AF:k2<x)
 (TZ:Rg.valOf vp=some vp/\V.cells vp=some [vp]):
 ∃h' n',DenY Γ G ky [.agg [vi last,vp]] h x=some (vb true,h',n')/\h' ky=some (.loop env [7] zHr .ready)/\(∃vL',h' k2=some (.rows 1 [[vL']] false)/\zaF h' n' vL' 2 (rwR (R++[(last,vp)])))/\x<=n'/\ ∀j,j<x->j≠k2->zbg vL j->h' j=h j:=by
 have n7:k2≠ky:=by rintro rfl;rw[hk]at h2;cases h2
 obtain⟨p1,p2⟩:=TZ;unfold V.cells at p2
 have:=zjy (Γ:=Γ) (G:=G) (vs:=[.agg [vi last,vp]]) (n:=x) (P:=fun ex h' n'=>ex= .normal/\h' ky=some (.loop env [7] zHr .busy)/\(∃vL',h' k2=some (.rows 1 [[vL']] false)/\zaF h' n' vL' 2 (rwR (R++[(last,vp)]))/\ ∀j,j<x->zbg vL' j)/\x<=n'/\ ∀j,j<x->j≠ky->j≠k2->zbg vL j->h' j=h j) hk rfl (fun ex h' n' hP=>⟨_,_,_,hP.2.1⟩) (by
  have y1:=hO.valOf;have y2:=hO.cells;unfold V.cells at y2;have u1:(ky=x+0)=False:=eq_false (by omega);have u2:(k2=x+0)=False:=eq_false (by omega);have u3:(x+0=ky)=False:=eq_false (by omega);have u4:(x+0=k2)=False:=eq_false (by omega)
  have OZ:zbg vL ky:=by
   rcases hO with⟨rfl,_⟩ | ⟨q,rfl,_,hq⟩
   ·intro i n e;cases e
   ·exact za3 (by rintro rfl;rw[hk]at hq;cases hq) _ _
  have KY:zbg vL k2:=hO.offQ h2 (by decide)
  have o1: ∀a b c d e,zaF (updC (updC (updC (updC (updC h ky a) (x+0) b) (x+0) c) ky d) (x+2+2) e) (x+2+2+1) vL 2 (rwR R):=fun a b c d e=>hO.keep (by omega) fun q q1 q2=>by
   have:q≠ky:=by rintro rfl;exact q2 OZ
   rw[zaa,if_neg (by omega),zaa,if_neg this,zaa,if_neg (by omega),zaa,if_neg (by omega),zaa,if_neg this]
  have r1:=fun a b c d e=>(o1 a b c d e).rowsS
  simp -dsimp -implicitDefEqProofs only[go_sem,seval,e2,h2,n7,y1,p1,p2,u1,u2,u3,u4,r1];refine zav (o1 _ _ _ _ _) (by omega) (by rw[zOC];omega) (by decide) rfl (zOE _) ?_;intro v hp hP Bp Aq;have z1:=hP.valOf;have z2:=hP.cells;unfold V.cells at z2;have q7:=Aq k2 (by omega) KY;rw[zaa,if_neg (by omega),zaa,if_neg n7,zaa,if_neg (by omega),zaa,if_neg (by omega),zaa,if_neg n7,h2]at q7;have qy:=Aq ky (by omega) OZ;rw[zaa,if_neg (by omega),zaa,if_pos rfl]at qy;simp -dsimp -implicitDefEqProofs only[go_sem,seval,e2,z1,z2,q7];refine⟨rfl,?_,⟨v,?_,?_,fun j hj=>Bp j (by omega)⟩,by simp -dsimp -implicitDefEqProofs only[go_sem,seval];omega,fun j hj j1 j2 j3=> ?_⟩
  ·simp only[zaC,zaA];rw[zaa,if_neg (Ne.symm n7)];exact qy
  ·simp only[zaC,zaA];rw[zaa,if_pos rfl]
  ·simp only[zaC,zaA];rw[zOD];refine hP.keep (by simp -dsimp -implicitDefEqProofs only[go_sem,seval];omega) fun q q1 q2=> ?_
   have:q≠k2:=by rintro rfl;exact q2 (Bp q (by omega))
   rw[zaa,if_neg this]
  ·simp only[zaC,zaA]
   rw[zaa,if_neg j2,Aq j (by omega) j3,zaa,if_neg (by omega),zaa,if_neg j1,zaa,if_neg (by omega),zaa,if_neg (by omega),zaa,if_neg j1])
 obtain⟨ex,h',n',⟨rfl,q1,⟨vL',q2,q3,q4⟩,q5,q6⟩,env',ps',bd',q7,q8⟩:=this;rw[q1]at q7;simp only[zA,O.loop.injEq]at q7;obtain⟨rfl,rfl,rfl,_⟩:=q7;have Tk:zbg vL' ky:=q4 ky hky;refine⟨_,n',q8,by rw[zaa,if_pos rfl];rfl,⟨vL',by rw[zaa,if_neg n7];exact q2,q3.keep (Nat.le_refl _) fun q z1 z2=> ?_⟩,q5,fun j hj j2 j3=> ?_⟩
 ·have:q≠ky:=by rintro rfl;exact z2 Tk
  rw[zaa,if_neg this]
 ·rw[zaa];split
  ·rename_i e;subst e;exact hk.symm
  ·exact q6 j hj ‹_› j2 j3
def zKc (s:List Nat) (low v:Nat):List Nat:=s.filter fun n=>decide (n/ 2^low=v)
def zLS (s:List Nat) (low v:Nat):List Nat:=s.filter fun n=>decide (v<=n/ 2^low)
def zIa (s:List Nat) (low v:Nat):List Nat:=(zKc s low v).map fun n=>n % 2^low
theorem zJU: ∀{s:List Nat} (h:s.Pairwise (· < ·)) (low v:Nat),zLS s low v=zKc s low v++zLS s low (v+1)
 | [],_,_,_=>rfl
 | n::s,h,low,v=>by
   have hp:=List.pairwise_cons.1 h;have ih:=zJU hp.2 low v;unfold zLS zKc at ih⊢
   by_cases h1:n/ 2^low=v
   ·rw[List.filter_cons,if_pos (by simp;omega),ih,List.filter_cons,if_pos (by simp[h1]),List.filter_cons,if_neg (by simp;omega)];rfl
   ·by_cases h2:v<=n/ 2^low
    ·have Be:s.filter (fun n=>decide (n/ 2^low=v))=[]:=by
      rw[List.filter_eq_nil_iff];intro m hm;have:=hp.1 m hm;have hd:n/ 2^low<=m/ 2^low:=Nat.div_le_div_right (by omega);simp;omega
     rw[List.filter_cons,if_pos (by simp;omega),ih,Be,List.filter_cons,if_neg (by simp;omega),Be,List.filter_cons,if_pos (by simp;omega)];rfl
    ·rw[List.filter_cons,if_neg (by simp;omega),ih,List.filter_cons,if_neg (by simp;omega),List.filter_cons,if_neg (by simp;omega)]
theorem zND (s:List Nat) (low:Nat):zLS s low 0=s:=by
 unfold zLS;exact List.filter_eq_self.2 fun n _=>by simp
structure Rep (part:Nat->List Int) (C:List (Int×List Int)) (v:Nat):Prop where
 find: ∀u:Nat,u<v-> ∃r,C.find? (fun r=>decide ((u:Int)<=r.1))=some r/\r.2=part u
 inc:C.Pairwise fun a b=>a.1<b.1
 lt: ∀r∈C,0<=r.1/\r.1<v
theorem zRl (part:Nat->List Int):Rep part [((0:Int),part 0)] 1:=by
 refine⟨fun u hu=>⟨(0,part 0),?_,?_⟩,by simp,fun r hr=> ?_⟩
 ·have:u=0:=by omega
  subst this;rfl
 ·have:u=0:=by omega
  subst this;rfl
 ·simp at hr;subst hr;simp
theorem zG8 {C D:List (Int×List Int)} {p:Int×List Int->Bool} (h: ∀r∈C,p r=false):(C++D).find? p=D.find? p:=by
 rw[List.find?_append,List.find?_eq_none.2 (fun r hr=>by rw[h r hr];simp),Option.none_or]
theorem zMx {part:Nat->List Int} {C:List (Int×List Int)} {v:Nat} (R:Rep part C v):Rep part (C++[((v:Int),part v)]) (v+1):=by
 refine⟨fun u hu=> ?_,List.pairwise_append.2 ⟨R.inc,by simp,fun a ha b hb=>by simp at hb;subst hb;exact(R.lt a ha).2⟩,fun r hr=> ?_⟩
 ·by_cases h:u<v
  ·obtain⟨r,h1,h2⟩:=R.find u h;exact⟨r,by rw[List.find?_append,h1,Option.some_or],h2⟩
  ·have:u=v:=by omega
   subst this;refine⟨((u:Int),part u),?_,rfl⟩;rw[zG8 fun r hr=>by have:=(R.lt r hr).2;simp;omega];simp
 ·rcases List.mem_append.1 hr with h | h
  ·have:=R.lt r h;omega
  ·simp at h;subst h;simp;omega
theorem zLe {part:Nat->List Int} {C:List (Int×List Int)} {v:Nat} {p:List Int} (R:Rep part (C++[((v:Int),p)]) (v+1)) (hp:p=part (v+1)):Rep part (C++[(((v+1:Nat):Int),p)]) (v+2):=by
 have hC:=List.pairwise_append.1 R.inc;have Ad: ∀r∈C,r.1<v:=fun r hr=>hC.2.2 r hr ((v:Int),p) (by simp)
 refine⟨fun u hu=> ?_,List.pairwise_append.2 ⟨hC.1,by simp,fun a ha b hb=>by simp at hb;subst hb;have:=Ad a ha;simp;omega⟩,fun r hr=> ?_⟩
 ·by_cases h:u<v+1
  ·obtain⟨r,h1,h2⟩:=R.find u h;rw[List.find?_append]at h1
   cases hf:C.find? (fun r=>decide ((u:Int)<=r.1))with
   | some q=>
     rw[hf,Option.some_or]at h1
     exact⟨r,by rw[List.find?_append,hf,Option.some_or];exact h1,h2⟩
   | none=>
     rw[hf,Option.none_or]at h1;refine⟨(((v+1:Nat):Int),p),by rw[List.find?_append,hf,Option.none_or];simp;omega,?_⟩;simp at h1;rw[<- h1.2]at h2;exact h2
  ·have:u=v+1:=by omega
   subst this;refine⟨(((v+1:Nat):Int),p),?_,hp⟩;rw[zG8 fun r hr=>by have:=Ad r hr;simp;omega];simp
 ·rcases List.mem_append.1 hr with h | h
  ·have:=Ad r h;have:=R.lt r (List.mem_append_left _ h);omega
  ·simp at h;subst h;simp;omega
end Rg
end
