/- Part of the proof of laws of relyguardtop. No condition. -/
import Derived.Test.YtdmkjfdlieokcaaGreatDoorHartAP
import Derived.Test.YtdmkjfdlieokcaaGreatDoorHartAO
import Derived.Test.YtdmkjfdlieokcaaGreatDoorHartAM
import Derived.Test.YtdmkjfdlieokcaaGreatDoorHartAK
import Derived.Stop.Joined
import Derived.ProofKit
import Derived.LaidMore
import Derived.Test.YtdmkjfdlieokcaaGreatDoorHartAI
import Derived.Test.YtdmkjfdlieokcaaGreatDoorHartAL
import Derived.Test.YtdmkjfdlieokcaaGreatDoorHartAJ
set_option linter.unusedSimpArgs false
set_option linter.unusedVariables false
section
namespace Rg
open Go
theorem zof {K:RK} {p:Prog} (hf:zak p=true) {k:Int} {lim:Nat} {env:Nat->V} {H:Nat->Option O} {nx:Nat} {l:List Vis} {vV vL:V} (R:RI K p k lim env H nx l l vV vL) (d:Vis) (hd:IsB p d.c) (Aa: ∀v∈l,IsB p v.c) (hl:l.length<2^29):
 ∃r h' n',DenR Γ G 393 [.agg (zxt d),.mp K.kSe 0 0,.mp K.kSV 0 0,.mp K.kY 0 0] H nx=some (r,h',n')/\(nx<=n'/\if zf9 l d.c then r=vb true/\ ∃vV' vL',RI K p k lim env h' n' l l vV' vL'
  else if l.length=lim then r=vb false/\zoC K env h' else r=vb true/\ ∃vV' vL',RI K p k lim env h' n' (l++[d]) (l++[d]) vV' vL'):=by
 obtain⟨b1,b2,b3,b4,b5,b6,b7,b8,b9,b10,b11,b12⟩:=R.bd;have DA:=zuD p hf d.c hd;have D3:=zuX (fun v:Vis=>ziD v.c) (fun _=>vb true) (ziD d.c) l;have C6:=znL hf Aa hd (l:=l);have hM:=R.hM;have hSe:=R.hSe;unfold zxt zue
 (refine zay Γ393 rfl ?_;dsimp only[zzQ])
 cases Dx:zf9 l d.c
 ·rw[Dx]at C6;have hz:l.find? (fun a=>ziD d.c==ziD a.c)=none:=by simpa using C6
  rw[hz]at D3
  have Jj:=zzI (fun v:Vis=>ziD v.c) (fun _=>vb true) (ziD d.c) (vb true) l fun a ha=>by
   have:=List.find?_eq_none.1 hz a ha;simpa using this
  have hSV:=R.hSV;have hS:=R.hS;have hY:=R.hY;have nSV:K.kSV≠K.kM:=zcV hSV hM (by simp);have nS:K.kS≠K.kM:=zcV hS hM (by simp);have nY:K.kY≠K.kM:=zcV hY hM (by simp);have nSSV:K.kSV≠K.kS:=zcV hSV hS (by simp);have nYS:K.kY≠K.kS:=zcV hY hS (by simp);have oVM:zbg vV K.kM:=R.offV fun rs e=>by rw[hM]at e;cases e
  have oV1:zaF (updC H K.kM (some (O.map (mapL (fun v:Vis=>ziD v.c) (fun _=>vb true) l++[(T.str (ziD d.c),vb true)])))) nx vV 7 (zgS l):=R.oV.keep (Nat.le_refl _) fun q _ h2=>by
   rw[zaa,if_neg];rintro rfl;exact h2 oVM
  have w1:=oV1.valOf;have w5:=oV1.r5;have n1:K.kSV≠nx+2+4+3+3+6:=by omega
  have n2:K.kS≠nx+2+4+3+3+6:=by omega
  simp -dsimp only[go_sem,seval,DA,hSe,hM,D3,Option.map_none,Option.getD_none,Jj,nSV,nS,hSV,hS,w1,w5,n1,n2];refine zav (oV1.upd (by omega) _) (by omega) (by rw[zcZ];omega) (by decide) rfl (zrI _) ?_;intro vV2 hp hO Bn A8;have w2:=hO.valOf;have w3:=hO.cellsV;unfold V.cells at w3;have oS:zbg vV K.kS:=R.offV fun rs e=>by rw[hS]at e;cases e
  have oSV:zbg vV K.kSV:=R.offV fun rs e=>by rw[hSV]at e;cases e
  have oY:zbg vV K.kY:=R.offV fun rs e=>by rw[hY]at e;cases e
  have y1:=A8 K.kS (by omega) oS;have y2:=A8 K.kSV (by omega) oSV;have y3:=A8 K.kY (by omega) oY;rw[zaa,if_neg n2,zaa,if_neg nS,hS]at y1;rw[zaa,if_neg n1,zaa,if_neg nSV,hSV]at y2;rw[zaa,if_neg (by omega),zaa,if_neg nY,hY]at y3;simp -dsimp only[go_sem,seval,w2,w3,y1,y2,y3,nSSV,nYS];refine⟨?_,?_⟩
  ·simp only[zgO,List.all_cons,List.all_nil,List.getElem?_cons_succ,List.getElem?_cons_zero,sep,AOp.looks,AOp.opds,AOp.wopd,zid,za2,List.flatMap_cons,List.flatMap_nil];simp -dsimp only[go_sem,seval,V.top,w1];rcases R.oV with⟨e,_⟩ | ⟨kV,e,_,e2⟩
   ·rw[e];rfl
   ·have:K.kSV≠kV:=zcV hSV e2 (by simp);rw[e];simp[this]
  have oF: ∀z,nx+2+4+3+3+8<=z->zaF (updC (At (updC (updC H K.kM (some (O.map (mapL (fun v:Vis=>ziD v.c) (fun _=>vb true) l++[(T.str (ziD d.c),vb true)])))) (nx+2+4+3+3+6) (some (O.rows 7 [[V.t (ints d.c.mem),V.t (ints d.c.at_),V.t (T.sl (d.c.buf.map fun b=>[T.sl (b.map Entry.enc)])),vi d.fr,vi d.x.thread,vi d.x.step,vi d.x.cell]] false))) hp) K.kS
   (some (O.rows 6 [[V.t (T.sl (p.cells.map Cell.enc)),V.t (T.sl (p.modules.map Contract.enc)),V.t (T.sl (p.locks.map Lock.enc)),V.t (T.sl (p.threads.map Thread.enc)),vi k,vV2]] false))) z vV2 7 (zgS (l++[d])):=fun z hz=>by
   rw[show zgS (l++[d])=zgS l++[[V.t (ints d.c.mem),V.t (ints d.c.at_),V.t (T.sl (d.c.buf.map fun b=>[T.sl (b.map Entry.enc)])),vi d.fr,vi d.x.thread,vi d.x.step,vi d.x.cell]]by simp[zgS,zxt,zue]];refine hO.keep hz fun q _ q2=> ?_
   rw[zaa,if_neg];rintro rfl;exact q2 (Bn _ (by omega))
  have BX:=(oF _ (Nat.le_refl _)).lenS;rw[zcZ,zM,List.length_singleton]at BX;have Er:IntKind.i64.wrap (((l.length+1:Nat):Int)-1)=(l.length:Int):=by rw[show((l.length+1:Nat):Int)-1=(l.length:Int)by omega];exact zaH (by omega)
  simp -dsimp only[go_sem,seval,w2,w3,BX,Er];have nM:K.kM≠K.kS:=Ne.symm nS;have nL:K.kL≠K.kS:=zcV R.hL hS (by simp);have nLM:K.kL≠K.kM:=zcV R.hL hM (by simp);have oVL:zbg vV K.kL:=R.offV fun rs e=>by rw[R.hL]at e;cases e
  have R2: ∀z,nx+2+4+3+3+8<=z->RI K p k lim env (updC (At (updC (updC H K.kM (some (O.map (mapL (fun v:Vis=>ziD v.c) (fun _=>vb true) l++[(T.str (ziD d.c),vb true)])))) (nx+2+4+3+3+6) (some (O.rows 7 [[V.t (ints d.c.mem),V.t (ints d.c.at_),V.t (T.sl (d.c.buf.map fun b=>[T.sl (b.map Entry.enc)])),vi d.fr,vi d.x.thread,vi d.x.step,vi d.x.cell]] false))) hp) K.kS
   (some (O.rows 6 [[V.t (T.sl (p.cells.map Cell.enc)),V.t (T.sl (p.modules.map Contract.enc)),V.t (T.sl (p.locks.map Lock.enc)),V.t (T.sl (p.threads.map Thread.enc)),vi k,vV2]] false))) z (l++[d]) l vV2 vL:=fun z hz=>by
   have Aq: ∀j,j<nx->j≠K.kM->j≠K.kS->zbg vV j->updC (At (updC (updC H K.kM (some (O.map (mapL (fun v:Vis=>ziD v.c) (fun _=>vb true) l++[(T.str (ziD d.c),vb true)])))) (nx+2+4+3+3+6) (some (O.rows 7 [[V.t (ints d.c.mem),V.t (ints d.c.at_),V.t (T.sl (d.c.buf.map fun b=>[T.sl (b.map Entry.enc)])),vi d.fr,vi d.x.thread,vi d.x.step,vi d.x.cell]] false))) hp) K.kS
    (some (O.rows 6 [[V.t (T.sl (p.cells.map Cell.enc)),V.t (T.sl (p.modules.map Contract.enc)),V.t (T.sl (p.locks.map Lock.enc)),V.t (T.sl (p.threads.map Thread.enc)),vi k,vV2]] false)) j=H j:=fun j j1 j2 j3 j4=>by
    rw[zaa,if_neg j3,A8 j (by omega) j4,zaa,if_neg (by omega),zaa,if_neg j2]
   refine R.next (by omega) (fun j j1 _ j3 j4 _ j6=>Aq j j1 j3 j4 j6) ?_ (by rw[zaa,if_pos rfl]) (oF z hz) (by rw[Aq _ b7 nLM nL oVL,R.hL]) (R.oL.keep (by omega) fun q q1 q2=> ?_)
   ·rw[zaa,if_neg nM,A8 _ (by omega) oVM,zaa,if_neg (by omega),zaa,if_pos rfl,zi7]
   ·refine Aq q q1 ?_ ?_ (R.offV fun rs e=> ?_)
    ·rintro rfl;exact q2 (R.offL fun rs e=>by rw[hM]at e;cases e)
    ·rintro rfl;exact q2 (R.offL fun rs e=>by rw[hS]at e;cases e)
    ·exact q2 (R.offL fun rs' e'=>by rw[e]at e';cases e')
  generalize updC (At (updC (updC H K.kM (some (O.map (mapL (fun v:Vis=>ziD v.c) (fun _=>vb true) l++[(T.str (ziD d.c),vb true)])))) (nx+2+4+3+3+6) (some (O.rows 7 [[V.t (ints d.c.mem),V.t (ints d.c.at_),V.t (T.sl (d.c.buf.map fun b=>[T.sl (b.map Entry.enc)])),vi d.fr,vi d.x.thread,vi d.x.step,vi d.x.cell]] false))) hp) K.kS
   (some (O.rows 6 [[V.t (T.sl (p.cells.map Cell.enc)),V.t (T.sl (p.modules.map Contract.enc)),V.t (T.sl (p.locks.map Lock.enc)),V.t (T.sl (p.threads.map Thread.enc)),vi k,vV2]] false))=F at *
  have R3:=R2 (nx+2+4+3+3+11+9) (by omega)
  by_cases AC:l.length=lim
  ·obtain⟨h',n',q1,q2,q3⟩:=R3.stop;rw[AC];refine zas (P:=fun r h' n'=>r=vb false/\zoC K env h'/\nx+2+4+3+3+11+9<=n') ⟨_,h',n',q1,rfl,q2,q3⟩ ?_;rintro r h' n' ⟨rfl,q2,q3⟩;simp -dsimp only[go_sem,seval];refine⟨by omega,?_⟩;simp only[zG,if_false,if_true,eq_self_iff_true];exact⟨rfl,q2⟩
  ·obtain⟨h',n',vL',q1,q2,q3⟩:=R3.yield (by omega) AC;refine zas (P:=fun r h' n'=>r=vb true/\(∃vL',RI K p k lim env h' n' (l++[d]) (l++[d]) vV2 vL')/\nx+2+4+3+3+11+9<=n') ⟨_,h',n',q1,rfl,⟨vL',q2⟩,q3⟩ ?_;rintro r h' n' ⟨rfl,⟨vL',q2⟩,q3⟩;simp -dsimp only[go_sem,seval];refine⟨by omega,?_⟩;simp only[zG,if_false,AC];exact⟨rfl,vV2,vL',q2⟩
 ·rw[Dx]at C6;obtain⟨z,hz⟩:=Option.isSome_iff_exists.1 C6;rw[hz]at D3;simp -dsimp only[go_sem,seval,DA,hSe,hM,D3,Option.map_some,Option.getD_some];refine⟨by simp -dsimp only[go_sem,seval];omega,rfl,vV,vL,?_⟩;simp -dsimp only[go_sem,seval];exact R.next (by omega) (fun j _ _ _ _ _ _=>rfl) R.hM R.hS (R.oV.le (by omega)) R.hL (R.oL.le (by omega))
end Rg
end
section
namespace Rg
open Go
theorem IsB.sane {p:Prog} (hs:p.sane) {c:Config} (hc:IsB p c):c.sane:=⟨by rw[hc.lm];exact hs.cells,by rw[hc.la];exact hs.threads,by rw[hc.lb];exact hs.threads⟩
theorem zh1 (p:Prog) (hs:p.sane) (hf:zak p=true) (k:Int) (hk:0<=k/\k<=2) (c:Config) (hc:IsK p k c):Den Γ G 179 [(zP p),vi k,(.agg [.t (ints (c).mem),.t (ints (c).at_),.t (.sl ((c).buf.map (fun b=>[.sl (b.map Entry.enc)])))])]=some (.t (.sl ((zaK p k c).map Choice.enc))):=by
 by_cases k0:k=0
 ·have h1:=zlJ p hs c (hc.b.sane hs);rw[zop hf (hc.c k0)]at h1;rw[zaK,if_pos k0]
  (refine zag Γ179 rfl ?_;dsimp only[zIw])
  simp -dsimp only[go_sem,seval,k0,h1]
 ·rw[zaK,if_neg k0];exact zlK p hs hf k (by omega) c hc.b
theorem zi1 (p:Prog) (hs:p.sane) (hf:zak p=true) (k:Int) (hk:0<=k/\k<=2) (c:Config) (hc:IsK p k c) (x:Choice):Den Γ G 180 [(zP p),vi k,(.agg [.t (ints (c).mem),.t (ints (c).at_),.t (.sl ((c).buf.map (fun b=>[.sl (b.map Entry.enc)])))]),(.agg [.t (ti (x).thread),.t (ti (x).step),.t (ti (x).cell)])]=some (.tup [(.agg [.t (ints ((zdk p k c x).1).mem),.t (ints ((zdk p k c x).1).at_),.t (.sl (((zdk p k c x).1).buf.map (fun b=>[.sl (b.map Entry.enc)])))]),vi (zdk p k c x).2]):=by
 by_cases k0:k=0
 ·have h1:=zsa p hs c (hc.b.sane hs) x;rw[zdk,if_pos k0]
  (refine zag Γ180 rfl ?_;dsimp only[zIv])
  simp -dsimp only[go_sem,seval,k0,h1]
 ·rw[zdk,if_neg k0];exact zqo p hs hf k (by omega) c hc.b x
theorem zGB {p:Prog} (hf:zak p=true) {k:Int} {c:Config} (hc:IsK p k c) {y:Choice} (hy:y∈zaK p k c):IsK p k (zdk p k c y).1/\(zdk p k c y).2=0:=by
 obtain⟨d,hn,hd⟩:=zgY hf hc hy;rw[hn];exact⟨hd,rfl⟩
def kM (m:Int):Int:=m % 3
theorem zsC (K0:RK) (p:Prog) (hs:p.sane) (hf:zak p=true) (k:Int) (hk:0<=k/\k<=2) (lim:Nat) (h1:1<=lim) (h2:lim<=20000) (env:Nat->V) (H:Nat->Option O) (nx:Nat)
 (DA:H K0.ky=some (.loop env [11] zfh .ready)) (e3:env 3= .mp K0.k3 0 0) (e4:env 4= .mp K0.k4 0 0) (e5:env 5= .mp K0.k5 0 0) (e6:env 6= .mp K0.k6 0 0) (e7:env 7= .mp K0.k7 0 0)
 (h3:H K0.k3=some (.rows 1 [[.mp K0.kS 0 0]] false)) (h4:H K0.k4=some (.rows 1 [[vi lim]] false)) (h5:H K0.k5=some (.rows 1 [[.fn 376 [] [.mp K0.kL 0 0]]] false)) (h6:H K0.k6=some (.rows 1 [[vi 0]] false)) (h7:H K0.k7=some (.rows 1 [[vi 0]] false)) (n67:K0.k6≠K0.k7)
 (hSV:H K0.kSV=some (.rows 1 [[.mp K0.kS 0 0]] false)) (hS:H K0.kS=some (.rows 6 [[.t (.sl (p.cells.map Cell.enc)),.t (.sl (p.modules.map Contract.enc)),.t (.sl (p.locks.map Lock.enc)),.t (.sl (p.threads.map Thread.enc)),vi k,.t .nils]] false))
 (hL:H K0.kL=some (.rows 1 [[.t .nils]] false)) (bd:K0.ky<nx/\K0.k3<nx/\K0.k4<nx/\K0.k5<nx/\K0.k6<nx/\K0.k7<nx/\K0.kL<nx/\K0.kS<nx/\K0.kSV<nx):
 ∃r h' n',DenR Γ G 392 [.yl K0.ky,.mp K0.kSV 0 0] H nx=some (r,h',n')/\(nx<=n'/\
  ((∃l vL,zil p k lim=some l/\h' K0.ky=some (.loop env [11] zfh .ready)/\h' K0.k6=some (.rows 1 [[vi 0]] false)/\h' K0.k7=some (.rows 1 [[vi 0]] false)/\h' K0.kL=some (.rows 1 [[vL]] false)/\zaF h' n' vL 3 (zdg l))\/
   (zil p k lim=none/\zoC K0 env h'))):=by
 have AE:=zki p hs;obtain⟨b1,b2,b3,b4,b5,b6,b7,b8,b9⟩:=bd;have FT:=zfq hf k
 (refine zay Γ392 rfl ?_;dsimp only[zzR])
 have u1:(K0.kSV=nx+1+1)=False:=eq_false (by omega);have u2:(K0.kSV=nx+1+0)=False:=eq_false (by omega);have u3:(K0.kSV=nx+0)=False:=eq_false (by omega);have u4:(K0.kS=nx+1+1)=False:=eq_false (by omega);have u5:(K0.kS=nx+1+0)=False:=eq_false (by omega);have u6:(K0.kS=nx+0)=False:=eq_false (by omega);simp -dsimp only[go_sem,seval,hSV,hS,AE,u1,u2,u3,u4,u5,u6];obtain⟨K,hK⟩: ∃K:RK,K= { K0 with kY:=nx+0,kSe:=nx+1+1,kM:=nx+1+0 }:=⟨_,rfl⟩
 have keyS:K.ky=K0.ky/\K.k6=K0.k6/\K.k7=K0.k7/\K.kL=K0.kL/\K.kSV=K0.kSV/\K.kS=K0.kS/\K.kY=nx+0/\K.kSe=nx+1+1:=by rw[hK];exact⟨rfl,rfl,rfl,rfl,rfl,rfl,rfl,rfl⟩
 obtain⟨t1,t2,t3,t4,t5,t6,t7,t8⟩:=keyS
 have R0: ∀z,nx+1+2<=z->RI K p k lim env (updC (updC (updC (updC H (nx+0) (some (O.rows 1 [[V.yl K0.ky]] false))) (nx+1+0) (some (O.map []))) (nx+1+1) (some (O.rows 1 [[V.t T.nilm]] false))) (nx+1+1) (some (O.rows 1 [[V.mm (nx+1+0)]] false))) z [] [] (.t .nils) (.t .nils):=fun z hz=>by
  have hh: ∀j,j<nx->updC (updC (updC (updC H (nx+0) (some (O.rows 1 [[V.yl K0.ky]] false))) (nx+1+0) (some (O.map []))) (nx+1+1) (some (O.rows 1 [[V.t T.nilm]] false))) (nx+1+1) (some (O.rows 1 [[V.mm (nx+1+0)]] false)) j=H j:=fun j hj=>by
   rw[zaa,if_neg (by omega),zaa,if_neg (by omega),zaa,if_neg (by omega),zaa,if_neg (by omega)]
  rw[hK];refine⟨(hh _ b1).trans DA,e3,e4,e5,e6,e7,(hh _ b2).trans h3,(hh _ b3).trans h4,(hh _ b4).trans h5,(hh _ b5).trans h6,(hh _ b6).trans h7,n67,(hh _ b9).trans hSV,?_,?_,?_,(hh _ b8).trans hS,.inl ⟨rfl,rfl⟩,(hh _ b7).trans hL,.inl ⟨rfl,rfl⟩,?_⟩
  ·show updC _ _ _ (nx+0)=_;rw[zaa,if_neg (by omega),zaa,if_neg (by omega),zaa,if_neg (by omega),zaa,if_pos rfl]
  ·show updC _ _ _ (nx+1+1)=_;rw[zaa,if_pos rfl]
  ·show updC _ _ _ (nx+1+0)=_;rw[zaa,if_neg (by omega),zaa,if_neg (by omega),zaa,if_pos rfl];rfl
  ·simp only;omega
 have DE: ∀{H':Nat->Option O} {nx':Nat} {l:List Vis} {vV vL:V},RI K p k lim env H' nx' l l vV vL-> ∀d:Vis,IsB p d.c->(∀v∈l,IsB p v.c)->l.length<=lim->
  ∃r h' n',DenR Γ G 393 [.agg [.t (ints d.c.mem),.t (ints d.c.at_),.t (.sl (d.c.buf.map fun b=>[.sl (b.map Entry.enc)])),vi d.fr,vi d.x.thread,vi d.x.step,vi d.x.cell],.mp (nx+1+1) 0 0,.mp K0.kSV 0 0,.mp (nx+0) 0 0] H' nx'=some (r,h',n')/\(nx'<=n'/\if zf9 l d.c then r=vb true/\ ∃vV' vL',RI K p k lim env h' n' l l vV' vL'
  else if l.length=lim then r=vb false/\zoC K env h' else r=vb true/\ ∃vV' vL',RI K p k lim env h' n' (l++[d]) (l++[d]) vV' vL'):=fun R d hd Aa hl=>by
  have:=zof hf R d hd Aa (by omega);rw[t5,t7,t8]at this;exact this
 have Ai: ∀h':Nat->Option O,zoC K env h'->zoC K0 env h':=fun h' ⟨q1,q2,q3⟩=>⟨t1▸q1,t2▸q2,t3▸q3⟩
 refine zas (DE (R0 _ (by omega)) (v0 p) FT.b (by simp) (by simp)) ?_;rintro r h' n' ⟨Jt,hq⟩;rw[if_neg (by simp[zf9]),if_neg (by simp;omega)]at hq;obtain⟨rfl,vV,vL,R⟩:=hq;rw[List.nil_append]at R;clear R0;simp -dsimp only[go_sem,seval]
 refine zaq 1208925819614629170513760 (lim+1) (fun i f h x=>(f 5).v=vi i/\nx<=x/\ ∃(l:List Vis) (vV vL:V),RI K p k lim env h x l l vV vL/\i<=l.length/\1<=l.length/\l.length<=lim/\(∀v∈l,IsK p k v.c)/\zil p k lim=goV p k lim (lim+1-i) i l) rfl
  ⟨by simp -dsimp only[go_sem,seval],by simp -dsimp only[go_sem,seval];omega,[v0 p],vV,vL,by simp -dsimp only[go_sem,seval];exact R.le (by omega),by simp,by simp,by simpa using h1,fun v hv=>by simp only[List.mem_singleton]at hv;subst hv;exact FT,rfl⟩ ?_
 clear R;rintro i f u H2 x bs hi ⟨MH,ED,l,vV,vL,R,g1,g2,g3,g4,g5⟩;have hw:=zan i (by omega);have r1:=R.hSV;have r2:=R.hS;rw[t5,t6]at r1;rw[t6]at r2;rcases R.oV with⟨_,e1⟩ | ⟨kV,rfl,e2,e3'⟩
 ·have:=zcZ l;rw[e1]at this;simp at this;omega
 rw[zcZ]at R r2
 by_cases Ad:i<l.length
 ·have Af:=eq_true Ad;obtain⟨v,hv,Kg⟩:=zai Ad;have Gm:=g4 v Kg;have Ch:=zh1 p hs hf k hk v.c Gm;have Ap:=zoZ hv;have i0:(0:Int)<=(i:Int):=by omega
  have i1:(i:Int)<(l.length:Int):=by omega
  simp -dsimp only[go_sem,seval,MH,r1,r2,e3',Af,i0,i1,Ap,zcZ,Ch]
  generalize AL:zaK p k v.c=cs at *
  have By:=zen hf (k:=k) Gm.b;rw[<- zd6 Gm,AL]at By;have G8:zjY p k v.c i=cs.map fun x=>⟨(zdk p k v.c x).1,i,x⟩:=by rw[zjY,AL]
  have Ds:zil p k lim=(zgc lim l (zjY p k v.c i)).bind fun l'=>goV p k lim (lim-i) (i+1) l':=by
   rw[g5,show lim+1-i=lim-i+1 by omega,goV,hv]
  refine zaq 1208925818488729267865344 cs.length (fun j f h x=>(f 50).v=vi j/\nx<=x/\ ∃(l':List Vis) (vV vL:V),RI K p k lim env h x l' l' vV vL/\l'[i]? =some v/\l'.length<=lim/\(∀v∈l',IsK p k v.c)/\zgc lim l (zjY p k v.c i)=zgc lim l' ((zjY p k v.c i).drop j)) rfl
   ⟨by simp -dsimp only[go_sem,seval],by simp -dsimp only[go_sem,seval];omega,l,_,vL,by simp -dsimp only[go_sem,seval];exact R.le (by omega),hv,g3,g4,by rw[List.drop_zero]⟩ ?_
  rintro j f2 u2 H3 x2 bs2 hj ⟨MG,Qn,l',vV',vL',R',BQ,CE,Ii,Cc⟩;have BO:=zan j (by omega);have r1':=R'.hSV;have r2':=R'.hS;rw[t5,t6]at r1';rw[t6]at r2'
  by_cases AN:j<cs.length
  ·have Ba:=eq_true AN;obtain⟨y,hy,Eq⟩:=zai AN;have Hs:y∈zaK p k v.c:=by rw[AL];exact Eq
   have ED:=zi1 p hs hf k hk v.c Gm y;obtain⟨d,Bt,hd⟩:=zgY hf Gm Hs;rw[Bt]at ED
   have Gb:(zjY p k v.c i).drop j=⟨d,i,y⟩::(zjY p k v.c i).drop (j+1):=by
    have:(zjY p k v.c i)[j]? =some ⟨d,i,y⟩:=by rw[G8,zJ,hy];simp[Bt]
    exact zdo this
   rw[Gb,zgc,ztH]at Cc;simp -dsimp only[go_sem,seval,MG,MH,r1',r2',Ba,hy,ED];refine zas (DE (R'.le (by omega)) ⟨d,i,y⟩ hd.b (fun v hv=>(Ii v hv).b) CE) ?_;rintro r h' n' ⟨Jt,hq⟩;have AV:=(zH.1 BQ).1;cases Dx:zf9 l' d
   ·rw[if_neg (by simp only[Dx];simp)]at hq;rw[if_neg (by simp[Dx])]at Cc
    by_cases AC:l'.length=lim
    ·rw[if_pos AC]at hq;rw[if_pos (by omega),Option.bind_none]at Cc;rw[Cc,Option.bind_none]at Ds;obtain⟨rfl,Dk⟩:=hq;simp -dsimp only[go_sem,seval];exact⟨by omega,.inr ⟨Ds,Ai _ Dk⟩⟩
    ·rw[if_neg AC]at hq;rw[if_neg (by omega),zD]at Cc;obtain⟨rfl,vV2,vL2,R2⟩:=hq;simp -dsimp only[go_sem,seval,MG];refine⟨by omega,by simp -dsimp only[go_sem,seval,BO],by simp -dsimp only[go_sem,seval];omega,l'++ [⟨d,i,y⟩],vV2,vL2,by simp -dsimp only[go_sem,seval];exact R2.le (by omega),?_,by rw[zM,List.length_singleton];omega,fun v' BQ=> ?_,Cc⟩
     ·rw[List.getElem?_append_left AV];exact BQ
     ·rcases List.mem_append.1 BQ with h | h
      ·exact Ii v' h
      ·rw[List.mem_singleton]at h;subst h;exact hd
   ·rw[if_pos (by simp only[Dx])]at hq;rw[if_pos (by simp only[Dx]),zD]at Cc;obtain⟨rfl,vV2,vL2,R2⟩:=hq;simp -dsimp only[go_sem,seval,MG];exact⟨by omega,by simp -dsimp only[go_sem,seval,BO],by simp -dsimp only[go_sem,seval];omega,l',vV2,vL2,by simp -dsimp only[go_sem,seval];exact R2.le (by omega),BQ,CE,Ii,Cc⟩
  ·have Ba:=eq_false AN;have:j=cs.length:=by omega
   subst this;rw[show(zjY p k v.c i).drop cs.length=[]from List.drop_of_length_le (by rw[G8,List.length_map];omega),zgc]at Cc;rw[Cc,zD]at Ds;have AV:=(zH.1 BQ).1;simp -dsimp only[go_sem,seval,MG,MH,Ba];exact⟨by omega,by simp -dsimp only[go_sem,seval,hw],by simp -dsimp only[go_sem,seval];omega,l',vV',vL',by simp -dsimp only[go_sem,seval];exact R'.le (by omega),by omega,by omega,CE,Ii,by rw[Ds,show lim+1-(i+1)=lim-i by omega]⟩
 ·have Af:=eq_false Ad
  have hb:zil p k lim=some l:=by
   rw[g5]
   cases lim+1-i with
   | zero=>rfl
   | succ f=>rw[goV,List.getElem?_eq_none (by omega)]
  simp -dsimp only[go_sem,seval,MH,r1,r2,e3',Af,zcZ];refine⟨by simp -dsimp only[go_sem,seval];omega,.inl ⟨l,vL,hb,?_,?_,?_,?_,?_⟩⟩
  ·rw[<- t1];exact R.hk
  ·rw[<- t2];exact R.h6
  ·rw[<- t3];exact R.h7
  ·rw[<- t4];exact R.hL
  ·simp -dsimp only[go_sem,seval];exact R.oL.le (by omega)
theorem ztn (kS:Nat) (H:Nat->Option O) (n:Nat): ∃r h' n',DenR Γ G 386 [.mp kS 0 0] H n=some (r,h',n')/\(r= .fn 392 [] [.mp n 0 0]/\h'=updC H n (some (.rows 1 [[.mp kS 0 0]] false))/\n<n'):=by
 (refine zay Γ386 rfl ?_;dsimp only[zzV])
 simp -dsimp only[go_sem,seval];refine⟨rfl,by simp -dsimp only[go_sem,seval];rfl,by simp -dsimp only[go_sem,seval];omega⟩
theorem zoi (p:Prog) (hs:p.sane) (hf:zak p=true) (k:Int) (hk:0<=k/\k<=2) (lim:Nat) (h1:1<=lim) (h2:lim<=20000) (kS kL:Nat) (H:Nat->Option O) (nx:Nat)
 (hS:H kS=some (.rows 6 [[.t (.sl (p.cells.map Cell.enc)),.t (.sl (p.modules.map Contract.enc)),.t (.sl (p.locks.map Lock.enc)),.t (.sl (p.threads.map Thread.enc)),vi k,.t .nils]] false))
 (hL:H kL=some (.rows 1 [[.t .nils]] false)) (bS:kS<nx) (bL:kL<nx):
 ∃r h' n',DenR Γ G 375 [.mp kS 0 0,vi lim,.fn 376 [] [.mp kL 0 0]] H nx=some (r,h',n')/\
  ((∃l vL,zil p k lim=some l/\r= .tup [vi 0,vi 4]/\h' kL=some (.rows 1 [[vL]] false)/\zaF h' n' vL 3 (zdg l))\/(zil p k lim=none/\r= .tup [vi 0,vi 2])):=by
 have c1: ∀a b:Nat,a≠b->(nx+a=nx+b)=False:=fun a b h=>eq_false (by omega)
 have d1:=c1 0 4 (by decide);have d2:=c1 0 3 (by decide);have d3:=c1 0 2 (by decide);have d4:=c1 0 1 (by decide)
 (refine zay Γ375 rfl ?_;dsimp only[zz6])
 simp -dsimp only[go_sem,seval,d1,d2,d3,d4];refine zas (ztn kS _ _) ?_;rintro r h' n' ⟨rfl,rfl,hn⟩;simp -dsimp only[go_sem,seval]
 refine znN (P:=fun e h' n2=>nx+5+2<n'/\n'+1<=n2/\((e= .normal/\ ∃l vL,zil p k lim=some l/\(∀rs,h' n'≠some (.rows 3 rs false))/\h' (nx+3)=some (.rows 1 [[vi 0]] false)/\h' (nx+4)=some (.rows 1 [[vi 0]] false)/\h' kL=some (.rows 1 [[vL]] false)/\zaF h' n2 vL 3 (zdg l))\/
  (e= .ret/\zil p k lim=none/\h' (nx+3)=some (.rows 1 [[vi 0]] false)/\h' (nx+4)=some (.rows 1 [[vi 2]] false)))) ?_ ?_
 ·have hg:=zsC ⟨n',nx+0,nx+1,nx+2,nx+3,nx+4,kL,kS,nx+5+2,0,0,0⟩ p hs hf k hk lim h1 h2 (envC (updC (updC (begC (updC (updC (updC (updC (updC (begC (slotsC [V.mp kS 0 0,vi lim,V.fn 376 [] [V.mp kL 0 0]] 0)) 3 ⟨V.mp (nx+0) 0 0,none,none⟩) 4 ⟨V.mp (nx+1) 0 0,none,none⟩) 5 ⟨V.mp (nx+2) 0 0,none,none⟩) 6 ⟨V.mp (nx+3) 0 0,none,none⟩) 7 ⟨V.mp (nx+4) 0 0,none,none⟩)) 9 ⟨V.mp kS 0 0,none,none⟩) 10 ⟨V.fn 392 [] [V.mp (nx+5+2) 0 0],none,none⟩))
   (updC (updC (updC (updC (updC (updC (updC H (nx+0) (some (O.rows 1 [[V.mp kS 0 0]] false))) (nx+1) (some (O.rows 1 [[vi lim]] false))) (nx+2) (some (O.rows 1 [[V.fn 376 [] [V.mp kL 0 0]]] false))) (nx+3) (some (O.rows 1 [[vi 0]] false))) (nx+4) (some (O.rows 1 [[vi 0]] false))) (nx+5+2) (some (O.rows 1 [[V.mp kS 0 0]] false))) n' (some (O.loop _ [11] zfh LSt.ready))) (n'+1)
   (by rw[zaa,if_pos rfl]) (by simp -dsimp only[go_sem,seval]) (by simp -dsimp only[go_sem,seval]) (by simp -dsimp only[go_sem,seval]) (by simp -dsimp only[go_sem,seval]) (by simp -dsimp only[go_sem,seval])
   (by simp only[zaa];repeat(first | rw[if_neg (by omega)] | rw[if_pos (by trivial)])) (by simp only[zaa];repeat(first | rw[if_neg (by omega)] | rw[if_pos (by trivial)])) (by simp only[zaa];repeat(first | rw[if_neg (by omega)] | rw[if_pos (by trivial)]))
   (by simp only[zaa];repeat(first | rw[if_neg (by omega)] | rw[if_pos (by trivial)])) (by simp only[zaa];repeat(first | rw[if_neg (by omega)] | rw[if_pos (by trivial)])) (by simp)
   (by simp only[zaa];repeat(first | rw[if_neg (by omega)] | rw[if_pos (by trivial)])) (by simp only[zaa];(repeat(first | rw[if_neg (by omega)] | rw[if_pos (by trivial)]));exact hS) (by simp only[zaa];(repeat(first | rw[if_neg (by omega)] | rw[if_pos (by trivial)]));exact hL) (by simp only;omega)
  obtain⟨r,h',n2,q1,q2,⟨l,vL,q3,q4,q5,q6,q7,q8⟩ | ⟨q3,q4,q5,q6⟩⟩:=hg
  ·exact⟨r,h',n2,q1,_,_,_,_,_,q4,rfl,hn,q2,.inl ⟨rfl,l,vL,q3,(fun rs e=>by rw[show h' n'=some _ from q4]at e;cases e),q5,q6,q7,q8⟩⟩
  ·exact⟨r,h',n2,q1,_,_,_,_,_,q4,rfl,hn,q2,.inr ⟨rfl,q3,q5,q6⟩⟩
 ·rintro e h' n2 ⟨hn,Fh,⟨rfl,l,vL,q1,q0,q2,q3,q4,q5⟩ | ⟨rfl,q1,q2,q3⟩⟩
  ·have m3:(nx+3=n')=False:=eq_false (by omega);have m4:(nx+4=n')=False:=eq_false (by omega);have m5:(nx+4=nx+3)=False:=eq_false (by omega);have m6:(nx+3=nx+4)=False:=eq_false (by omega);simp -dsimp only[go_sem,seval,q2,q3,m3,m4,m5,m6];refine .inl ⟨l,vL,q1,rfl,?_,?_⟩
   ·simp only[zaC,zaA,zaa];rw[if_neg (by omega),if_neg (by omega),if_neg (by omega)];exact q4
   ·refine q5.keep (by simp[zfQ]) fun q r1 r2=> ?_
    have a1:q≠n':=by rintro rfl;exact r2 (q5.offAt q0)
    have a2:q≠nx+3:=by rintro rfl;exact r2 (q5.offAt fun rs e=>by rw[q2]at e;cases e)
    have a3:q≠nx+4:=by rintro rfl;exact r2 (q5.offAt fun rs e=>by rw[q3]at e;cases e)
    simp only[zaC,zaA,zaa];rw[if_neg a3,if_neg a2,if_neg a1]
  ·have m3:(nx+3=n')=False:=eq_false (by omega);have m4:(nx+4=n')=False:=eq_false (by omega);simp -dsimp only[go_sem,seval,q2,q3,m3,m4];exact .inr ⟨q1,rfl⟩
theorem zmH (p:Prog) (hs:p.sane) (hf:zak p=true) (k:Int) (hk:0<=k/\k<=2) (lim:Nat) (h1:1<=lim) (h2:lim<=20000):Den Γ G 374 [(zP p),vi k,vi lim]=some (vb true):=by
 have hv:Den Γ G 385 [(zP p)]=some (vb true):=by
  have hv:=zeV p hs;have h0:(zbM p).1=0:=by simpa[zak]using hf
  (refine zag Γ385 rfl ?_;dsimp only[zzW])
  simp -dsimp only[go_sem,seval,hv,h0]
 have e3:(lim:Int)>=1:=by omega
 have e4:(lim:Int)<=20000:=by omega
 (refine zag Γ374 rfl ?_;dsimp only[zz7])
 rcases(show k=0\/k=1\/k=2 by omega)with rfl | rfl | rfl
 ·simp -dsimp only[go_sem,seval,hv,e3,e4]
 ·simp -dsimp only[go_sem,seval,hv,e3,e4]
 ·simp -dsimp only[go_sem,seval,hv,e3,e4]
end Rg
end
section
namespace Rg
open Go
structure Goal where
 thread:Int
 point:Int
 expr:Expr
def Goal.cells (g:Goal):List V:=[vi g.thread,vi g.point,.t (ti g.expr.op),.t (ti g.expr.w),.t (ti g.expr.n),.t (.sl (g.expr.kids.map Expr.enc))]
def zGM (p:Prog) (g:Goal):Bool:=
 decide (-1<=g.thread)&&decide (g.thread<p.threads.length)&&(decide (g.thread<0)||match p.threads[g.thread.toNat]? with | some x=>decide (0<=g.point)&&decide (g.point<x.points) | none=>false)&&
  (g.expr.valid p.cells false&&decide (g.expr.w=1))
def zGi (c:Config) (g:Goal):Bool:=zo7 c&&(decide (g.thread<0)||decide (c.at_[g.thread.toNat]? =some g.point))&&decide (g.expr.eval c.mem c.mem=1)
theorem zGL (p:Prog) (g:Goal) (hl:p.threads.length<2^48):Den Γ G 452 [(zP p),.agg g.cells]=some (vb (zGM p g)):=by
 have hv:=zfS g.expr p.cells false;unfold Goal.cells zGM
 (refine zag Γ452 rfl ?_;dsimp only[zIG])
 simp -dsimp only[go_sem,seval,hv]
 by_cases h1:g.thread< -1
 ·simp -dsimp only[go_sem,seval,h1];simp[show ¬(-1<=g.thread)by omega]
 by_cases h2:g.thread>=(p.threads.length:Int)
 ·simp -dsimp only[go_sem,seval,h1,h2];simp[show ¬(g.thread<p.threads.length)by omega]
 have e1:decide (-1<=g.thread)=true:=decide_eq_true (by omega);have e2:decide (g.thread<(p.threads.length:Int))=true:=decide_eq_true (by omega);rw[e1,e2]
 by_cases h3:g.thread<0
 ·have h4:(g.thread>=0)=False:=eq_false (by omega);cases Bs:g.expr.valid p.cells false
  ·rw[Bs]at hv;simp -dsimp only[go_sem,seval,h1,h2,h4,hv,h3];simp
  ·rw[Bs]at hv;simp -dsimp only[go_sem,seval,h1,h2,h4,hv,h3];simp
 ·have h4:(g.thread>=0)=True:=eq_true (by omega);have h5:(0<=g.thread)=True:=eq_true (by omega);have h6:(g.thread<(p.threads.length:Int))=True:=eq_true (by omega);obtain⟨x,hx,C1⟩:=zai (show g.thread.toNat<p.threads.length by omega)
  by_cases h7:g.point<0
  ·simp -dsimp only[go_sem,seval,h1,h2,h4,hv,hx,h7];simp[h3,show ¬(0<=g.point)by omega]
  by_cases h8:g.point>=x.points
  ·simp -dsimp only[go_sem,seval,h1,h2,h4,h5,h6,hv,hx,h7,h8];simp[h3,show ¬(g.point<x.points)by omega]
  ·have e3:decide (0<=g.point)=true:=decide_eq_true (by omega);have e4:decide (g.point<x.points)=true:=decide_eq_true (by omega);rw[hx];cases Bs:g.expr.valid p.cells false
   ·rw[Bs]at hv;simp -dsimp only[go_sem,seval,h1,h2,h4,h5,h6,hv,hx,h7,h8];simp
   ·rw[Bs]at hv;simp -dsimp only[go_sem,seval,h1,h2,h4,h5,h6,hv,hx,h7,h8];simp[e3,e4]
theorem zGT (c:Config) (g:Goal) (hl:c.buf.length<2^48) (hg:g.thread<c.at_.length):Den Γ G 454 [(.agg [.t (ints (c).mem),.t (ints (c).at_),.t (.sl ((c).buf.map (fun b=>[.sl (b.map Entry.enc)])))]),.agg g.cells]=some (vb (zGi c g)):=by
 have hq:=zHj c hl;have he:=zd4 g.expr c.mem c.mem;unfold Goal.cells zGi
 (refine zag Γ454 rfl ?_;dsimp only[zIE])
 cases SC:zo7 c
 ·rw[SC]at hq;simp -dsimp only[go_sem,seval,hq];rfl
 rw[SC]at hq
 by_cases h3:g.thread<0
 ·have h4:(g.thread>=0)=False:=eq_false (by omega);simp -dsimp only[go_sem,seval,hq,h4,he,h3];simp
 ·have h4:(g.thread>=0)=True:=eq_true (by omega);have h5:(0<=g.thread)=True:=eq_true (by omega);have h6:(g.thread<(c.at_.length:Int))=True:=eq_true hg;obtain⟨a,ha,_⟩:=zai (show g.thread.toNat<c.at_.length by omega)
  by_cases h7:a=g.point
  ·simp -dsimp only[go_sem,seval,hq,h4,h5,h6,ha,he,h3,h7];simp[h7]
  ·simp -dsimp only[go_sem,seval,hq,h4,h5,h6,ha,he,h3,h7];simp[h7]
theorem zHg (c:Config) (g:Goal) (hl:c.buf.length<2^48) (hg:g.thread<c.at_.length) {h:Nat->Option O} {k n:Nat} (hk:h k=some (.rows 6 [g.cells] false)) (hn:k<n):
 ∃r h' n',DenR Γ G 453 [(.agg [.t (ints (c).mem),.t (ints (c).at_),.t (.sl ((c).buf.map (fun b=>[.sl (b.map Entry.enc)])))]),.mp k 0 0] h n=some (r,h',n')/\(r=vb (zGi c g)/\h'=h/\n<=n'):=by
 have hm:=zGT c g hl hg;unfold Goal.cells at hm hk
 (refine zay Γ453 rfl ?_;dsimp only[zIF])
 simp -dsimp only[go_sem,seval,hk,hm];exact⟨rfl,rfl,by simp -dsimp only[go_sem,seval];omega⟩
theorem zGN (p:Prog) (hs:p.sane):Den Γ G 385 [(zP p)]=some (vb (decide ((zbM p).1=0))):=by
 have hv:=zeV p hs
 (refine zag Γ385 rfl ?_;dsimp only[zzW])
 simp -dsimp only[go_sem,seval,hv]
theorem zHn (p:Prog) (hs:p.sane) (hf:zak p=true) (g:Goal) (ha:zGM p g=true) (c:Config) (h1:c.mem.length=p.cells.length) (h2:c.at_.length=p.threads.length) (h3:c.buf.length=p.threads.length) (hl:p.threads.length<2^48):
 Den Γ G 446 [(zP p),(.agg [.t (ints (c).mem),.t (ints (c).at_),.t (.sl ((c).buf.map (fun b=>[.sl (b.map Entry.enc)])))]),.agg g.cells]=some (vb (zGi c g)):=by
 have hv:=zGN p hs;rw[show decide ((zbM p).1=0)=true from hf]at hv;have G3:=zGL p g hl;rw[ha]at G3
 have hg:g.thread<c.at_.length:=by
  rw[zGM]at ha;simp only[zF,decide_eq_true_eq]at ha;rw[h2];exact ha.1.1.2
 have hm:=zGT c g (by omega) hg;unfold Goal.cells at G3 hm⊢
 (refine zag Γ446 rfl ?_;dsimp only[zIL])
 simp -dsimp only[go_sem,seval,hv,G3,hm,h1,h2,h3,bne_self_eq_false]
end Rg
end
section
set_option maxRecDepth 100000
namespace Go.Proofs.YtdmkjfdlieokcaaGreatDoor
open Go Rg Go.ChangeShapes Go.WideShapes Go.ChangeAt Go.WideMaps Go.WideElems Go.RowKit
theorem own:ownKnob Tryz.prog.godebug=none:=by kernel_rfl
theorem zwP:laidOutB Tryz.prog=true:=by kernel_rfl
def ty:Tys:=⟨3,4,9,5,47,131,30,28,99,22,101,102,104,64,106,65,67,25,60,23,62,24,27,174,153,48,50,84⟩
theorem zxN:ty.Ok Tryz.prog:=⟨⟨⟨by kernel_rfl,by kernel_rfl,by kernel_rfl,by kernel_rfl,by kernel_rfl,by kernel_rfl,by kernel_rfl,by kernel_rfl,by kernel_rfl,by kernel_rfl,by kernel_rfl,by kernel_rfl,by kernel_rfl,by kernel_rfl,by kernel_rfl,by kernel_rfl,by kernel_rfl,by kernel_rfl,by kernel_rfl,by kernel_rfl,by kernel_rfl,by kernel_rfl⟩,by kernel_rfl⟩,by kernel_rfl,by kernel_rfl,by kernel_rfl,by kernel_rfl,by kernel_rfl⟩
theorem zxM:ty.OkP Tryz.prog:=zxN.toOkP
theorem zjU:ty.Ok0 Tryz.prog:=zxM.toOk0
abbrev zsj:List (String×DataW Unit):=Rows.topFindRunsRow.laid
def zJJ (W:World) (m:Int):Prop:=W.cell? ⟨1,0,none⟩=some (.int .i64 m)/\1<W.heap.size/\ ∃e,W.shape? 1=some (e,1)
theorem zHw:zhU Tryz.prog 32 6 [(ty.int,0),(ty.int,1),(ty.expr,2)]=true:=by kernel_rfl
theorem zGG:zfl Tryz.prog 33 ty.choice=true:=by kernel_rfl
theorem zw0 {W:World} {m:Int} (h:laidMetH Tryz.prog zsj W) (hm:zJJ W m):zpW (Seat.N m) (fun r=>r<W.heap.size) W:=by
 intro k j x hx
 match k,hx with
 | 0, hx => exact zpt (nm := "relyguard/expr.masks") (g := 0) (k := 0) (t := 191) (e := 3) (ls := [.int .i64 0, .int .i64 1, .int .i64 3, .int .i64 7, .int .i64 15, .int .i64 31, .int .i64 63, .int .i64 127, .int .i64 255]) (by kernel_rfl) h (zL (i := 3) rfl) (by kernel_rfl) (by kernel_rfl) (by kernel_rfl) (.inr ⟨.i64, by kernel_rfl⟩) (by kernel_rfl) (by kernel_rfl) rfl rfl j x hx
 | 1,hx=>exact(by have h0:([]:List T)[j]? =some x:=hx;rw[List.getElem?_nil]at h0;cases h0)
 | 2, hx => exact zpt (nm := "internal/strconv.uint64pow10") (g := 2) (k := 2) (t := 231) (e := 220) (ls := [.int .u64 1, .int .u64 10, .int .u64 100, .int .u64 1000, .int .u64 10000, .int .u64 100000, .int .u64 1000000, .int .u64 10000000, .int .u64 100000000, .int .u64 1000000000, .int .u64 10000000000, .int .u64 100000000000, .int .u64 1000000000000, .int .u64 10000000000000, .int .u64 100000000000000, .int .u64 1000000000000000, .int .u64 10000000000000000, .int .u64 100000000000000000, .int .u64 1000000000000000000, .int .u64 10000000000000000000]) (by kernel_rfl) h (zL (i := 2) rfl) (by kernel_rfl) (by kernel_rfl) (by kernel_rfl) (.inr ⟨.u64, by kernel_rfl⟩) (by kernel_rfl) (by kernel_rfl) rfl rfl j x hx
 | 3,hx=>
   have h0:([.int .i64 m]:List T)[j]? =some x:=hx
   match j,h0 with
   | 0,h0=>
     obtain rfl:T.int .i64 m=x:=Option.some.inj h0
     exact⟨hm.2.1,hm.2.2,_,hm.1,.int .i64 m⟩
   | j+1,h0=>simp at h0
 | k+4,hx=>exact(by have h0:([]:List T)[j]? =some x:=hx;rw[List.getElem?_nil]at h0;cases h0)
theorem inv {m:Int}:Seat.I.Ok (Seat.N m):=zIh (fun q k h=>by
 split at h
 ·cases h;rename_i hq;exact⟨hq.symm,(by intro h;cases h),rfl⟩
 ·split at h
  ·cases h;rename_i hq;exact⟨hq.symm,(by intro h;cases h),rfl⟩
  ·cases h)
theorem zBf {m:Int}:ztu Tryz.prog Seat.I (Seat.N m) Rg.Γ:=fun g fn h=>Seat.all (g,fn) (zkG h)
theorem zwD {m:Int} {g:Nat} {av:List V} {r:V} (h:Den Rg.Γ Rg.G g av=some r):zjO Tryz.prog (Seat.N m) g av r:=
 zte inv zBf (by kernel_rfl) (fun _ _ _=>Iff.rfl) (zhC.1 h)
theorem zIg {W:World} (h:W.ShapedOpen Tryz.prog): ∃m,zJJ W m:=by
 obtain⟨m,hm⟩:=Tryz.laysM145.s1_3 W h;obtain⟨cs,hh,hs,_⟩:=h.1 1 #[.int .i64 0] 3 (of_decide_eq_true (by kernel_rfl)) (by kernel_rfl);exact⟨m,hm,(Array.getElem?_eq_some_iff.1 hh).1,3,by simp[World.shape?,hh,hs]⟩
theorem zIm {H:Type} {enc:TypeId×Value->H} {a:Assume} {C:Checked} {os:Os} {f:FuncId} {fn:Func} {s:ChangeSpec} {conds:List PathCond} {apart fresh G1 again:Bool} {X:World->Array Value->Prop}
 (hX: ∀(w w':World) (args:Array Value),w.heap=w'.heap->X w args->X w' args)
 (own:ownKnob C.prog.godebug=none) (started:os.Started) (noInit:C.prog.inits.idxOf? f=none) (Ax:C.prog.funcs[f]? =some fn)
 (witness: ∃(w:World) (tape:Tape) (i:Input),w.os=os/\(w.forCall tape i).Shaped C.prog/\i.vars=[]/\Input.okWide C.prog (w.forCall tape i) .any w.heap.size f i/\
   ((s.pre enc C.prog fn conds apart (w.forCall tape i).memory i.args/\X (w.forCall tape i).memory i.args)/\sizedMet enc C.prog fn (OpenSpec.ofChange s) apart (w.forCall tape i).memory i.args)/\a.holds C.prog (lone (Frame.enter C.prog f i.args .normal) [] (w.forCall tape i)))
 (contract: ∀(W:World) (base:Nat) (args:Array Value) (ds gs:List (DataW H)) (before:List MemPlace),
   (∀(j:Nat) t v,fn.params[j]? =some t->args[j]? =some v->Value.okWide C.prog W .any base t v)->
   DataW.Whole enc C.prog fn.params.toList s.vars apart W args.toList ds gs before->
   conds.all (PathCond.test C.prog ⟨fn.params.toList,ds,s.plain.varTypes C.prog,gs⟩)=true->
   (DataW.weightsEach C.prog (fn.params.toList++s.plain.varTypes C.prog) (ds++gs)).all (· <=reachBytes)=true->X W args->
   W.ShapedOpen C.prog->
   Calls C.prog f args W fun e W'=> ∃v,e= .returned v/\s.post enc C.prog fn apart fresh G1 again W args v W'):
 ReturnsInHanded a C os f .any (fun w args=>(s.pre enc C.prog fn conds apart w args/\X w args)/\sizedMet enc C.prog fn (OpenSpec.ofChange s) apart w args) (s.post enc C.prog fn apart fresh G1 again):=by
 refine returnsInHanded_of_calls own started noInit witness ?_;intro w tape i _ Bo _ Bm CA S6;obtain⟨_,_,_,fn',BT,_,_,_,_,BP⟩:=Bm;have e:fn'=fn:=Option.some.inj (BT.symm.trans Ax);subst e;obtain⟨⟨⟨ds,gs,before,hw,hc⟩,hx⟩,hz⟩:=CA;have Aw:=DataW.Whole.of_heap (w':=w.forCall tape i) (by rfl) hw;refine(contract (w.forCall tape i) w.heap.size i.args ds gs before BP Aw hc (hz.weights hw) (hX _ _ _ (by rfl) hx) Bo).mono fun e W' ⟨v,he,hp⟩=> ?_
 subst he;exact ChangeSpec.post_blind hp
theorem zHY {p:Prog} (h:p.inMem):p.sane:=by
 have hb:reachBytes<2^48:=by decide
 have BM:reachBytes<2^50:=by decide
 refine⟨Nat.lt_of_le_of_lt h.nCells hb,Nat.lt_of_le_of_lt h.nModules hb,Nat.lt_of_le_of_lt h.nLocks hb,Nat.lt_of_le_of_lt h.nThreads hb,fun c hc=>Nat.lt_of_le_of_lt (h.cells c hc) BM,fun m hm=> ?_,fun x hx=> ?_,fun x hx s hs=> ?_,fun x hx l hl=> ?_⟩
 ·have:=h.modules m hm;exact⟨Nat.lt_of_le_of_lt this.1 BM,Nat.lt_of_le_of_lt this.2.1 BM,Nat.lt_of_le_of_lt this.2.2 hb⟩
 ·have:=h.threads x hx;exact⟨Nat.lt_of_le_of_lt this.name BM,Nat.lt_of_le_of_lt this.asserts hb,Nat.lt_of_le_of_lt this.modules hb,Nat.lt_of_le_of_lt this.steps hb,Nat.lt_of_le_of_lt this.loops hb⟩
 ·exact Nat.lt_of_le_of_lt ((h.threads x hx).sets s hs) hb
 ·exact Nat.lt_of_le_of_lt ((h.threads x hx).bodies l hl) hb
section
variable {H:Type} {enc:TypeId×Value->H} {P:Program} {W:World} {nm:Nat->Nat} {y:Tys}
theorem zIe {t:TypeId} (hy:y.Ok0 P) (h:zhU P t 6 [(y.int,0),(y.int,1),(y.expr,2)]=true) (n:Nat):Rd enc P W nm n t (fun g:Goal=>[ti g.thread,ti g.point]++g.expr.enc) (fun _=>True):=by
 refine(zlk h n fun m hm=>zax (zc3.c hy.int) (zkv hy m) (zax (zc3.c hy.int) (zkv hy m) (zax (zhU.c hy.expr) (zgx hy m) ze1))).conv ?_;rintro⟨a,b,c,u⟩ _;exact⟨⟨a,b,c⟩,trivial,by simp⟩
theorem zHi {t:TypeId} (hy:y.Ok P) (h:zfl P t y.choice=true) (n:Nat):Rd enc P W nm n t (fun l:List Choice=>[.sl (l.map Choice.enc)]) (fun l=>l.length<=reachBytes):=
 (zjX h n fun m _=>zHC hy m).conv fun l h=>⟨l,h.1,rfl⟩
end
theorem zu7 (os:Os) (args:Array Value):laidMetH Tryz.prog zsj ((World.doorLaid Tryz.prog 400 os).forCall (fun _ _=>0) ⟨#[],args,[]⟩).memory:=
 laidMetH_of_parts3 (fuel:=8) (laidMet_of_run' 8 (by kernel_rfl) (by kernel_rfl)) (by kernel_rfl) (by kernel_rfl)
end Go.Proofs.YtdmkjfdlieokcaaGreatDoor
end
section
namespace Rg
open Go
def zGj (l:List Config):List (List V):=l.map zue
theorem zGo (l:List Config):(zGj l).length=l.length:=by simp[zGj]
theorem zGE (l:List Config):((zGj l).all fun r=>decide (r.length=3))=true:=by simp[zGj,zue]
theorem zHB (l:List Config) (c:Config):zGj (l++[c])=zGj l++[zue c]:=by simp[zGj]
theorem zIk {h:Nat->Option O} {n ky k12:Nat} {env:Nat->V} {vL:V} {lst:List Config} {c:Config} (hk:h ky=some (.loop env [40,41] zGs .ready)) (e12:env 12= .mp k12 0 0)
 (h12:h k12=some (.rows 1 [[vL]] false)) (oL:zaF h n vL 3 (zGj lst)) (FZ:lst.length<2^30) (by_:ky<n) (bL:k12<n):
 ∃h' n',DenY Γ G ky [.agg (zue c),vi 0] h n=some (vb true,h',n')/\h' ky=some (.loop env [40,41] zGs .ready)/\(∃vL',h' k12=some (.rows 1 [[vL']] false)/\zaF h' n' vL' 3 (zGj (lst++[c]))/\(∀j,j<n->zbg vL' j))/\n<=n'/\
  (∀j,j<n->j≠ky->j≠k12->zbg vL j->h' j=h j):=by
 have:=zjy (Γ:=Γ) (G:=G) (vs:=[.agg (zue c),vi 0]) (n:=n) (P:=fun ex h' n'=>ex= .normal/\h' ky=some (.loop env [40,41] zGs .busy)/\(∃vL',h' k12=some (.rows 1 [[vL']] false)/\zaF h' n' vL' 3 (zGj (lst++[c]))/\(∀j,j<n->zbg vL' j))/\n<=n'/\
  (∀j,j<n->j≠ky->j≠k12->zbg vL j->h' j=h j)) hk rfl (fun ex h' n' hP=>⟨_,_,_,hP.2.1⟩) (by
  have nL:k12≠ky:=zcV h12 hk (by simp);have OZ:zbg vL ky:=oL.offAt fun rs h=>by rw[hk]at h;cases h
  have u1:(ky=n+0)=False:=eq_false (by omega);have u2:(k12=n+0)=False:=eq_false (by omega);have u3:(n+0=ky)=False:=eq_false (by omega);have u4:(n+0=k12)=False:=eq_false (by omega);have hv:=oL.valOf;unfold zue
  have o1: ∀a1 a2 a3 a4 a5,zaF (updC (updC (updC (updC (updC h ky a1) (n+0) a2) (n+0) a3) ky a4) (n+2+1+2+2) a5) (n+2+1+2+2+1) vL 3 (zGj lst):=fun a1 a2 a3 a4 a5=>oL.keep (by omega) fun q q1 q2=>by
   have:q≠ky:=by rintro rfl;exact q2 OZ
   rw[zaa,if_neg (by omega),zaa,if_neg this,zaa,if_neg (by omega),zaa,if_neg (by omega),zaa,if_neg this]
  have r1:=fun a1 a2 a3 a4 a5=>(o1 a1 a2 a3 a4 a5).rowsS
  simp -dsimp only[go_sem,seval,e12,h12,nL,u1,u2,u3,u4,hv,r1];refine zav (o1 _ _ _ _ _) (by omega) (by rw[zGo];omega) (by decide) rfl (zGE _) ?_;intro v hp hP Bn A8;have w1:=hP.valOf;have w2:=hP.cellsV;unfold V.cells at w2;have Ql:zbg vL k12:=oL.offAt fun rs h=>by rw[h12]at h;cases h
  have y1:=A8 k12 (by omega) Ql;rw[zaa,if_neg (by omega),zaa,if_neg nL,zaa,if_neg (by omega),zaa,if_neg (by omega),zaa,if_neg nL,h12]at y1;have y2:=A8 ky (by omega) OZ;rw[zaa,if_neg (by omega),zaa,if_pos rfl]at y2;simp -dsimp only[go_sem,seval,w1,w2,e12,nL,u1,u2,u3,u4,y1];refine⟨rfl,?_,⟨v,by simp only[zaC,zaA];rw[zaa,if_pos rfl],?_,fun j hj=>Bn j (by omega)⟩,by simp -dsimp only[go_sem,seval];omega,fun j j1 j2 j3 j4=> ?_⟩
  ·simp only[zaC,zaA];rw[zaa,if_neg (Ne.symm nL),y2];rfl
  ·rw[zHB];refine hP.keep (by simp -dsimp only[go_sem,seval];omega) fun q q1 q2=> ?_
   simp only[zaC,zaA];rw[zaa,if_neg];rintro rfl;exact q2 (Bn _ (by omega))
  ·simp only[zaC,zaA]
   rw[zaa,if_neg j3,A8 j (by omega) j4,zaa,if_neg (by omega),zaa,if_neg j2,zaa,if_neg (by omega),zaa,if_neg (by omega),zaa,if_neg j2])
 obtain⟨ex,h',n',⟨rfl,q1,⟨vL',q2,q3,q3'⟩,q4,q5⟩,env',ps',bd',q6,q7⟩:=this;rw[q1]at q6;simp only[zA,O.loop.injEq]at q6;obtain⟨rfl,rfl,rfl,_⟩:=q6;have nL:k12≠ky:=zcV h12 hk (by simp);refine⟨_,n',q7,by rw[zaa,if_pos rfl];rfl,⟨vL',by rw[zaa,if_neg nL];exact q2,?_,q3'⟩,q4,fun j j1 j2 j3 j4=>by rw[zaa,if_neg j2];exact q5 j j1 j2 j3 j4⟩
 exact q3.keep (Nat.le_refl _) fun q r1 r2=>by
  have:q≠ky:=by rintro rfl;exact r2 (q3.offAt fun rs h=>by rw[q1]at h;cases h)
  rw[zaa,if_neg this]
theorem zIc {h:Nat->Option O} {n ky k6 k7 k8 k12:Nat} {env:Nat->V} {vL:V} {lst:List Config} {c:Config} {e:Int} {x6 x7 x8:V} (he:e≠0) (hk:h ky=some (.loop env [40,41] zGs .ready)) (e12:env 12= .mp k12 0 0) (e6:env 6= .mp k6 0 0) (e7:env 7= .mp k7 0 0) (e8:env 8= .mp k8 0 0)
 (h12:h k12=some (.rows 1 [[vL]] false)) (h6:h k6=some (.rows 1 [[x6]] false)) (h7:h k7=some (.rows 1 [[x7]] false)) (h8:h k8=some (.rows 1 [[x8]] false)) (n67:k6≠k7) (n68:k6≠k8) (n78:k7≠k8) (n126:k12≠k6) (n127:k12≠k7)
 (oL:zaF h n vL 3 (zGj lst)) (FZ:lst.length<2^30) (by_:ky<n) (bL:k12<n) (b6:k6<n) (b7:k7<n) (b8:k8<n):
 ∃h' n',DenY Γ G ky [.agg (zue c),vi e] h n=some (vb false,h',n')/\h' ky=some (.loop env [40,41] zGs (.done .ret))/\h' k6=some (.rows 1 [[vL]] false)/\h' k7=some (.rows 1 [[vi 110]] false)/\h' k8=some (.rows 1 [[vi ((lst.length:Int)-1)]] false)/\zaF h' n' vL 3 (zGj lst)/\n<=n':=by
 have:=zjy (Γ:=Γ) (G:=G) (vs:=[.agg (zue c),vi e]) (n:=n) (P:=fun ex h' n'=>ex= .ret/\h' ky=some (.loop env [40,41] zGs .busy)/\h' k6=some (.rows 1 [[vL]] false)/\h' k7=some (.rows 1 [[vi 110]] false)/\h' k8=some (.rows 1 [[vi ((lst.length:Int)-1)]] false)/\zaF h' n' vL 3 (zGj lst)/\n<=n') hk rfl (fun ex h' n' hP=>⟨_,_,_,hP.2.1⟩) (by
  have nL:k12≠ky:=zcV h12 hk (by simp);have m6:k6≠ky:=zcV h6 hk (by simp);have m7:k7≠ky:=zcV h7 hk (by simp);have m8:k8≠ky:=zcV h8 hk (by simp);have u1:(ky=n+0)=False:=eq_false (by omega);have u2:(k12=n+0)=False:=eq_false (by omega);have u3:(n+0=ky)=False:=eq_false (by omega);have u4:(n+0=k12)=False:=eq_false (by omega);have u5:(k6=n+0)=False:=eq_false (by omega);have u6:(k7=n+0)=False:=eq_false (by omega);have u7:(k8=n+0)=False:=eq_false (by omega);have hv:=oL.valOf;have OZ:zbg vL ky:=oL.offAt fun rs h=>by rw[hk]at h;cases h
  have o1: ∀a1 a2 a3 a4,zaF (updC (updC (updC (updC h ky a1) (n+0) a2) (n+0) a3) ky a4) (n+1) vL 3 (zGj lst):=fun a1 a2 a3 a4=>oL.keep (by omega) fun q q1 q2=>by
   have:q≠ky:=by rintro rfl;exact q2 OZ
   rw[zaa,if_neg this,zaa,if_neg (by omega),zaa,if_neg (by omega),zaa,if_neg this]
  have o2: ∀a1 a2 a3 a4 a5 a6 a7,zaF (updC (updC (updC (updC (updC (updC (updC h ky a1) (n+0) a2) (n+0) a3) ky a4) k6 a5) k7 a6) k8 a7) (n+1) vL 3 (zGj lst):=fun a1 a2 a3 a4 a5 a6' a7'=>(o1 a1 a2 a3 a4).keep (by omega) fun q q1 q2=>by
   have a6:q≠k6:=by rintro rfl;exact q2 (oL.offAt fun rs h=>by rw[h6]at h;cases h)
   have a7:q≠k7:=by rintro rfl;exact q2 (oL.offAt fun rs h=>by rw[h7]at h;cases h)
   have a8:q≠k8:=by rintro rfl;exact q2 (oL.offAt fun rs h=>by rw[h8]at h;cases h)
   rw[zaa,if_neg a8,zaa,if_neg a7,zaa,if_neg a6]
  have BX: ∀a1 a2 a3 a4,Rg.lenS (updC (updC (updC (updC h ky a1) (n+0) a2) (n+0) a3) ky a4) vL=some lst.length:=fun a1 a2 a3 a4=>by
   have:=(o1 a1 a2 a3 a4).lenS;rw[zGo]at this;exact this
  have w2:=oL.cellsV;unfold V.cells at w2;have hw:IntKind.i64.wrap ((lst.length:Int)-1)=(lst.length:Int)-1:=zaH (by omega);have Oa:=eq_false he;unfold zue;simp -dsimp only[go_sem,seval,e12,e6,e7,e8,h12,h6,h7,h8,nL,m6,m7,m8,u1,u2,u3,u4,u5,u6,u7,hv,Oa,BX,w2,hw,n67,n68,n78,n126,n127,n67.symm,n68.symm,n78.symm,n126.symm,n127.symm];refine⟨?_,?_⟩
  ·simp only[zgO,List.all_cons,List.all_nil,List.getElem?_cons_succ,List.getElem?_cons_zero,sep,AOp.looks,AOp.opds,AOp.wopd,zid,za2,List.flatMap_cons,List.flatMap_nil];simp -dsimp only[go_sem,seval,V.top,hv,e12,e6,e7];rcases oL with⟨e,_⟩ | ⟨kV,e,_,ek⟩
   ·rw[e];simp[n126,n127]
   ·have a1:kV≠k6:=zcV ek h6 (by simp);have a2:kV≠k7:=zcV ek h7 (by simp);rw[e];simp[n126,n127,a1,a2]
  ·refine⟨rfl,?_,?_,?_,?_,?_,by simp -dsimp only[go_sem,seval];omega⟩
   ·simp only[zaC,zaA];rw[zaa,if_neg (Ne.symm m8),zaa,if_neg (Ne.symm m7),zaa,if_neg (Ne.symm m6),zaa,if_pos rfl];rfl
   ·simp only[zaC,zaA];rw[zaa,if_neg n68,zaa,if_neg n67,zaa,if_pos rfl]
   ·simp only[zaC,zaA];rw[zaa,if_neg n78,zaa,if_pos rfl]
   ·simp only[zaC,zaA];rw[zaa,if_pos rfl]
   ·simp only[zaC,zaA]
    exact(o2 _ _ _ _ _ _ _).le (by simp -dsimp only[go_sem,seval];omega))
 obtain⟨ex,h',n',⟨rfl,q1,q2,q3,q4,q5,q8⟩,env',ps',bd',q6,q7⟩:=this;rw[q1]at q6;simp only[zA,O.loop.injEq]at q6;obtain⟨rfl,rfl,rfl,_⟩:=q6;have m6:k6≠ky:=zcV h6 hk (by simp);have m7:k7≠ky:=zcV h7 hk (by simp);have m8:k8≠ky:=zcV h8 hk (by simp);refine⟨_,n',q7,by rw[zaa,if_pos rfl];rfl,by rw[zaa,if_neg m6];exact q2,by rw[zaa,if_neg m7];exact q3,by rw[zaa,if_neg m8];exact q4,?_,q8⟩
 exact q5.keep (Nat.le_refl _) fun q r1 r2=>by
  have:q≠ky:=by rintro rfl;exact r2 (q5.offAt fun rs h=>by rw[q1]at h;cases h)
  rw[zaa,if_neg this]
end Rg
end
section
namespace Rg
open Go
structure FrOk (l:List Vis) (i:Nat):Prop where
 z: ∃v,l[0]? =some v/\v.fr= -1
 lo: ∀(j:Nat) (v:Vis),0<j->l[j]? =some v->0<=v.fr/\v.fr<j/\v.fr<=i
 up: ∀(j j':Nat) (v v':Vis),j<=j'->l[j]? =some v->l[j']? =some v'->v.fr<=v'.fr
def ClQ (p:Prog) (k:Int) (l:List Vis) (q:Nat) (u:Vis) (xs:List Choice):Prop:=
 ∀x∈xs,∃(j':Nat) (v:Vis),l[j']? =some v/\v.c=(zdk p k u.c x).1/\v.fr<=q
theorem ClQ.more {p:Prog} {k:Int} {l s:List Vis} {q:Nat} {u:Vis} {xs:List Choice} (h:ClQ p k l q u xs):ClQ p k (l++s) q u xs:=fun x hx=>by
 obtain⟨j,v,h1,h2,h3⟩:=h x hx;exact⟨j,v,by rw[List.getElem?_append_left (zH.1 h1).1];exact h1,h2,h3⟩
theorem FrOk.le {l:List Vis} {i i':Nat} (h:FrOk l i) (hi:i<=i'):FrOk l i':=⟨h.z,fun j v a b=>by have:=h.lo j v a b;omega,h.up⟩
theorem FrOk.le_i {l:List Vis} {i:Nat} (h:FrOk l i) {j:Nat} {v:Vis} (hj:l[j]? =some v):v.fr<=i:=by
 rcases Nat.eq_zero_or_pos j with rfl | hp
 ·obtain⟨w,h1,h2⟩:=h.z;rw[h1]at hj;cases hj;omega
 ·exact(h.lo j v hp hj).2.2
theorem FrOk.add {lim i:Nat} {l l':List Vis} {d:Config} {x:Choice} (h:FrOk l i) (hi:i<l.length) (ha:ztH lim l ⟨d,i,x⟩=some l'):
 FrOk l' i/\ ∃(j':Nat) (v:Vis),l'[j']? =some v/\v.c=d/\v.fr<=i:=by
 unfold ztH at ha;split at ha
 ·rename_i hs;cases ha;obtain⟨v,hv,e⟩:=zeH.1 hs;obtain⟨j,hj⟩:=List.getElem?_of_mem hv;exact⟨h,j,v,hj,e,h.le_i hj⟩
 ·split at ha
  ·cases ha
  cases ha
  have at_: ∀j (v:Vis),(l++[⟨d,i,x⟩])[j]? =some v->(j<l.length/\l[j]? =some v)\/(j=l.length/\v=⟨d,i,x⟩):=fun j v hv=>by
   rcases Nat.lt_or_ge j l.length with Ad | Bv
   ·rw[List.getElem?_append_left Ad]at hv;exact .inl ⟨Ad,hv⟩
   ·rw[List.getElem?_append_right Bv]at hv
    have hz:j-l.length=0:=by
     have:=(zH.1 hv).1;simp at this;omega
    rw[hz]at hv;cases hv;exact .inr ⟨by omega,rfl⟩
  refine⟨⟨?_,fun j v hj hv=> ?_,fun j j' v v' S4 hv BQ=> ?_⟩,l.length,⟨d,i,x⟩,by simp,rfl,by simp⟩
  ·obtain⟨v,h1,h2⟩:=h.z;exact⟨v,by rw[List.getElem?_append_left (by omega)];exact h1,h2⟩
  ·rcases at_ j v hv with⟨_,hv⟩ | ⟨rfl,rfl⟩
   ·exact h.lo j v hj hv
   ·simp only;omega
  ·rcases at_ j v hv with⟨h1,hv⟩ | ⟨rfl,rfl⟩
   ·rcases at_ j' v' BQ with⟨_,BQ⟩ | ⟨rfl,rfl⟩
    ·exact h.up j j' v v' S4 hv BQ
    ·exact h.le_i hv
   ·rcases at_ j' v' BQ with⟨h2,_⟩ | ⟨_,rfl⟩
    ·omega
    ·simp
theorem FrOk.adds {p:Prog} {k:Int} {lim i:Nat} {u:Vis}: ∀{xs:List Choice} {l l':List Vis},FrOk l i->i<l.length->
 zgc lim l (xs.map fun x=>⟨(zdk p k u.c x).1,i,x⟩)=some l'->FrOk l' i/\ClQ p k l' i u xs
 | [],l,l',h,hi,ha=>by cases ha;exact⟨h,fun x hx=>by simp at hx⟩
 | y::xs,l,l',h,hi,ha=>by
   simp only[List.map_cons,zgc,zB]at ha;obtain⟨m,hm,ha⟩:=ha;obtain⟨h1,j,v,h2,h3,h4⟩:=h.add hi hm;obtain⟨_,_,s,rfl⟩:=ztp hm;obtain⟨h5,h6⟩:=FrOk.adds h1 (by rw[zM];omega) ha;obtain⟨s2,rfl⟩:=(ziB ha).2;refine⟨h5,fun x hx=> ?_⟩;rcases List.mem_cons.1 hx with rfl | hx
   ·exact⟨j,v,by rw[List.getElem?_append_left (zH.1 h2).1];exact h2,h3,h4⟩
   ·exact h6 x hx
def ClI (p:Prog) (k:Int) (l:List Vis) (i:Nat):Prop:= ∀(q:Nat) (u:Vis),q<i->l[q]? =some u->ClQ p k l q u (zaK p k u.c)
theorem FrOk.go {p:Prog} {k:Int} {lim:Nat}: ∀{f i:Nat} {l l':List Vis},FrOk l i->ClI p k l i->i<=l.length->l.length<=lim->lim+1<=f+i->goV p k lim f i l=some l'->FrOk l' l'.length/\ClI p k l' l'.length
 | 0,i,l,l',h,hc,AV,hl,BJ,hg=>by omega
 | f+1,i,l,l',h,hc,AV,hl,BJ,hg=>by
   rw[goV]at hg
   cases hv:l[i]? with
   | none=>
     rw[hv]at hg;cases hg
     have:i=l.length:=by
      have:=List.getElem?_eq_none_iff.1 hv;omega
     exact⟨this▸h,this▸hc⟩
   | some v=>
     rw[hv]at hg;simp only[zB]at hg;obtain⟨m,hm,hg⟩:=hg;have hi:=(zH.1 hv).1;obtain⟨h1,h2⟩:=FrOk.adds h hi hm;obtain⟨Hy,s,rfl⟩:=ziB hm;refine FrOk.go (h1.le (by omega)) (fun q u hq hu=> ?_) (by rw[zM];omega) (Hy hl) (by omega) hg;rcases Nat.lt_or_ge q i with Qb | Qb
     ·rw[List.getElem?_append_left (by omega)]at hu;exact(hc q u Qb hu).more
     ·have:q=i:=by omega
      subst this;rw[List.getElem?_append_left hi,hv]at hu;cases hu;exact h2
theorem zHK {p:Prog} {k:Int} {lim:Nat} (h1:1<=lim) {l:List Vis} (h:zil p k lim=some l):FrOk l l.length/\ClI p k l l.length:=by
 refine FrOk.go ⟨⟨_,rfl,rfl⟩,fun j v hj hv=> ?_,fun j j' v v' S4 hv BQ=> ?_⟩ (fun q u hq=>by omega) (by simp) (by simpa using h1) (by omega) h
 ·have:=(zH.1 hv).1;simp at this;omega
 ·have a:=(zH.1 hv).1;have b:=(zH.1 BQ).1;simp at a b;subst a b;rw[hv]at BQ;cases BQ;exact Int.le_refl _
def zHt (l:List Vis):Nat->Nat->Nat
 | 0,_=>0
 | f+1,j=>match l[j]? with
   | some v=>if v.fr<0 then 0 else zHt l f v.fr.toNat+1
   | none=>0
def zGq (l:List Vis):Nat->Nat->List Choice
 | 0,_=>[]
 | f+1,j=>match l[j]? with
   | some v=>if v.fr<0 then []else v.x::zGq l f v.fr.toNat
   | none=>[]
theorem zGK (l:List Vis): ∀f j,(zGq l f j).length=zHt l f j
 | 0,j=>rfl
 | f+1,j=>by
   rw[zGq,zHt]
   cases l[j]? with
   | none=>rfl
   | some v=>
     simp only;split
     ·rfl
     ·rw[List.length_cons,zGK l f]
theorem FrOk.fr {l:List Vis} {n:Nat} (h:FrOk l n) {j:Nat} {v:Vis} (hv:l[j]? =some v):(j=0/\v.fr<0)\/(0<j/\ ¬v.fr<0/\v.fr.toNat<j/\ ∃u,l[v.fr.toNat]? =some u):=by
 rcases Nat.eq_zero_or_pos j with rfl | hp
 ·obtain⟨w,h1,h2⟩:=h.z;rw[h1]at hv;cases hv;exact .inl ⟨rfl,by omega⟩
 ·have:=h.lo j v hp hv;have hj:=(zH.1 hv).1;exact .inr ⟨hp,by omega,by omega,_,zI (by omega)⟩
theorem FrOk.dep {l:List Vis} {n:Nat} (h:FrOk l n): ∀f f' j,j<f->j<f'->zHt l f j=zHt l f' j
 | 0,_,_,hf,_=>by omega
 | _,0,_,_,hf=>by omega
 | f+1,f'+1,j,hf,JO=>by
   rw[zHt,zHt]
   cases hv:l[j]? with
   | none=>rfl
   | some v=>
     simp only;rcases h.fr hv with⟨_,h1⟩ | ⟨h0,h1,h2,_⟩
     ·rw[if_pos h1,if_pos h1]
     ·rw[if_neg h1,if_neg h1,h.dep f f' _ (by omega) (by omega)]
def zG5 (l:List Vis) (j:Nat):Nat:=zHt l (j+1) j
theorem FrOk.dep0 {l:List Vis} {n:Nat} (h:FrOk l n):zG5 l 0=0:=by
 obtain⟨v,h1,h2⟩:=h.z;rw[zG5,zHt,h1];simp only;rw[if_pos (by omega)]
theorem FrOk.depS {l:List Vis} {n:Nat} (h:FrOk l n) {j:Nat} {v:Vis} (hj:0<j) (hv:l[j]? =some v):zG5 l j=zG5 l v.fr.toNat+1:=by
 have:=h.lo j v hj hv;rw[zG5,zHt,hv];simp only;rw[if_neg (by omega),h.dep j (v.fr.toNat+1) _ (by omega) (by omega),zG5]
theorem FrOk.mono {l:List Vis} {n:Nat} (h:FrOk l n): ∀(j' j:Nat),j<=j'->j'<l.length->zG5 l j<=zG5 l j':=by
 intro j'
 induction j' using Nat.strongRecOn with
 | ind j' ih=>
   intro j hj hl;rcases Nat.eq_zero_or_pos j with rfl | hp
   ·rw[h.dep0];exact Nat.zero_le _
   ·have e1:l[j]? =some l[j]:=zI (by omega);have e2:l[j']? =some l[j']:=zI (by omega);have a1:=h.lo j _ hp e1;have a2:=h.lo j' _ (by omega) e2;have a3:=h.up j j' _ _ hj e1 e2;rw[h.depS hp e1,h.depS (by omega) e2];exact Nat.succ_le_succ (ih _ (by omega) _ (by omega) (by omega))
def okC (p:Prog) (k:Int):Config->List Choice->Prop
 | _,[]=>True
 | c,x::r=>x∈zaK p k c/\okC p k (zdk p k c x).1 r
theorem zGQ {p:Prog} {k:Int} {l:List Vis} (h:FrOk l l.length) (hc:ClI p k l l.length) (hz:l[0]? =some (v0 p)):
 ∀(run:List Choice) (c:Config) (q:Nat) (u:Vis),l[q]? =some u->u.c=c->okC p k c run-> ∃(j:Nat) (v:Vis),l[j]? =some v/\v.c=run.foldl (fun c x=>(zdk p k c x).1) c/\zG5 l j<=zG5 l q+run.length
 | [],c,q,u,hu,Bz,_=>⟨q,u,hu,Bz,Nat.le_refl _⟩
 | x::run,c,q,u,hu,Bz,ho=>by
   obtain⟨hx,ho⟩:=ho;subst Bz;obtain⟨j,v,h1,h2,h3⟩:=hc q u (zH.1 hu).1 hu x hx;obtain⟨j2,w,h4,h5,h6⟩:=zGQ h hc hz run _ j v h1 h2 ho;refine⟨j2,w,h4,h5,?_⟩
   have:zG5 l j<=zG5 l q+1:=by
    rcases Nat.eq_zero_or_pos j with rfl | hp
    ·rw[h.dep0];omega
    ·rw[h.depS hp h1];have:=h.lo j v hp h1;exact Nat.succ_le_succ (h.mono _ _ (by omega) (zH.1 hu).1)
   rw[List.length_cons];omega
theorem FrOk.bck {l:List Vis} {n:Nat} (h:FrOk l n): ∀f f' j,j<f->j<f'->zGq l f j=zGq l f' j
 | 0,_,_,hf,_=>by omega
 | _,0,_,_,hf=>by omega
 | f+1,f'+1,j,hf,JO=>by
   rw[zGq,zGq]
   cases hv:l[j]? with
   | none=>rfl
   | some v=>
     simp only;rcases h.fr hv with⟨_,h1⟩ | ⟨h0,h1,h2,_⟩
     ·rw[if_pos h1,if_pos h1]
     ·rw[if_neg h1,if_neg h1,h.bck f f' _ (by omega) (by omega)]
def zGk (l:List Vis) (j:Nat):List Choice:=(zGq l (j+1) j).reverse
theorem zHD (l:List Vis) (j:Nat):(zGk l j).length=zG5 l j:=by rw[zGk,List.length_reverse,zGK,zG5]
theorem FrOk.path0 {l:List Vis} {n:Nat} (h:FrOk l n):zGk l 0=[]:=by
 obtain⟨v,h1,h2⟩:=h.z;rw[zGk,zGq,h1];simp only;rw[if_pos (by omega)];rfl
theorem FrOk.pathS {l:List Vis} {n:Nat} (h:FrOk l n) {j:Nat} {v:Vis} (hj:0<j) (hv:l[j]? =some v):zGk l j=zGk l v.fr.toNat++[v.x]:=by
 have:=h.lo j v hj hv;rw[zGk,zGq,hv];simp only;rw[if_neg (by omega),h.bck j (v.fr.toNat+1) _ (by omega) (by omega),List.reverse_cons,zGk]
def zHU (p:Prog) (k:Int) (c:Config) (r:List Choice):Config:=r.foldl (fun c x=>(zdk p k c x).1) c
theorem zHT (p:Prog) (k:Int) (c:Config) (r s:List Choice):zHU p k c (r++s)=zHU p k (zHU p k c r) s:=List.foldl_append
theorem zHG {p:Prog} {k:Int}: ∀{r s:List Choice} {c:Config},okC p k c r->okC p k (zHU p k c r) s->okC p k c (r++s)
 | [],s,c,_,h=>h
 | x::r,s,c,h,g=>⟨h.1,zHG h.2 g⟩
theorem zHW {p:Prog} {k:Int} {l:List Vis} (h:FrOk l l.length) (hV:VisOk p k l l.length): ∀(j:Nat) (v:Vis),l[j]? =some v->
 okC p k (zcm p) (zGk l j)/\zHU p k (zcm p) (zGk l j)=v.c/\ ∀n,n<(zGk l j).length-> ∃(q:Nat) (u:Vis),q<j/\l[q]? =some u/\u.c=zHU p k (zcm p) ((zGk l j).take n):=by
 intro j
 induction j using Nat.strongRecOn with
 | ind j ih=>
   intro v hv;rcases Nat.eq_zero_or_pos j with rfl | hp
   ·rw[h.path0];rw[hV.z]at hv;cases hv;exact⟨trivial,rfl,fun n hn=>by simp at hn⟩
   ·obtain⟨q,u,h1,h2,h3,h4,h5⟩:=hV.pre j v hp hv;have e:=h.pathS hp hv;have hq:v.fr.toNat=q:=by omega
    rw[hq]at e;obtain⟨g1,g2,g3⟩:=ih q h1 u h2;rw[e];refine⟨zHG g1 ⟨by rw[g2];exact h4,trivial⟩,by rw[zHT,g2,h5];rfl,fun n hn=> ?_⟩;rw[zM,List.length_singleton]at hn;rcases Nat.lt_or_ge n (zGk l q).length with Ad | Bv
    ·obtain⟨q',u',a1,a2,a3⟩:=g3 n Ad;exact⟨q',u',by omega,a2,by rw[List.take_append_of_le_length (by omega)];exact a3⟩
    ·have Jt:n=(zGk l q).length:=by omega
     exact⟨q,u,h1,h2,by rw[List.take_append_of_le_length (by omega),Jt,List.take_length,g2]⟩
theorem zGP {p:Prog} {k:Int} {l:List Vis} (h:FrOk l l.length) (hc:ClI p k l l.length) (hV:VisOk p k l l.length) {run:List Choice} (ho:okC p k (zcm p) run):
 ∃(j:Nat) (v:Vis),l[j]? =some v/\v.c=zHU p k (zcm p) run/\zG5 l j<=run.length:=by
 obtain⟨j,v,h1,h2,h3⟩:=zGQ h hc hV.z run (zcm p) 0 _ hV.z rfl ho;exact⟨j,v,h1,h2,by rw[h.dep0]at h3;omega⟩
theorem zG4 {p:Prog} {k:Int} {l:List Vis} (h:FrOk l l.length) (hc:ClI p k l l.length) (hV:VisOk p k l l.length) {m:Config->Bool} {i:Nat} (hi:i<l.length) (hn: ∀(j:Nat) (v:Vis),j<i->l[j]? =some v->m v.c=false)
 {run:List Choice} (ho:okC p k (zcm p) run) (hl:run.length<(zGk l i).length):m (zHU p k (zcm p) run)=false:=by
 obtain⟨j,v,h1,h2,h3⟩:=zGP h hc hV ho;rw[<- h2];rcases Nat.lt_or_ge j i with DP | DP
 ·exact hn j v DP h1
 ·have:=h.mono j i DP (zH.1 h1).1;rw[zHD]at hl;omega
end Rg
end
section
namespace Rg
open Go
def zGm (p:Prog) (k:Int):Config->List Choice->List Config×Bool
 | _,[]=>([],true)
 | c,x::r=>if(zdk p k c x).2=0 then((zdk p k c x).1::(zGm p k (zdk p k c x).1 r).1,(zGm p k (zdk p k c x).1 r).2)else([],false)
theorem zGS {p:Prog} (hf:zak p=true) {k:Int} {c:Config} (hc:IsK p k c) (x:Choice):(zdk p k c x).2=0<->x∈zaK p k c:=by
 by_cases h:x∈zaK p k c
 ·exact⟨fun _=>h,fun _=>(zGB hf hc h).2⟩
 ·rw[zG9 hf hc h];exact⟨fun e=>absurd e (by decide),fun e=>absurd e h⟩
structure RK2 where
 ky:Nat
 k6:Nat
 k7:Nat
 k8:Nat
 k12:Nat
structure RR (K:RK2) (env:Nat->V) (h:Nat->Option O) (x:Nat) (lst:List Config) (vL:V):Prop where
 hk:h K.ky=some (.loop env [40,41] zGs .ready)
 e12:env 12= .mp K.k12 0 0
 e6:env 6= .mp K.k6 0 0
 e7:env 7= .mp K.k7 0 0
 e8:env 8= .mp K.k8 0 0
 h12:h K.k12=some (.rows 1 [[vL]] false)
 h6: ∃y,h K.k6=some (.rows 1 [[y]] false)
 h7: ∃y,h K.k7=some (.rows 1 [[y]] false)
 h8: ∃y,h K.k8=some (.rows 1 [[y]] false)
 ne:K.k6≠K.k7/\K.k6≠K.k8/\K.k7≠K.k8/\K.k12≠K.k6/\K.k12≠K.k7/\K.k12≠K.k8
 oL:zaF h x vL 3 (zGj lst)
 bd:K.ky<x/\K.k6<x/\K.k7<x/\K.k8<x/\K.k12<x
section
variable {K:RK2} {env:Nat->V} {h h' : Nat->Option O} {x x' : Nat} {lst:List Config} {vL:V}
theorem RR.le (R:RR K env h x lst vL) (hx:x<=x'):RR K env h x' lst vL:=
 ⟨R.hk,R.e12,R.e6,R.e7,R.e8,R.h12,R.h6,R.h7,R.h8,R.ne,R.oL.le hx,by have:=R.bd;omega⟩
theorem RR.go (R:RR K env h x lst vL) (hl:lst.length<2^30) (c:Config):
 ∃h' n' vL',DenY Γ G K.ky [.agg (zue c),vi 0] h x=some (vb true,h',n')/\RR K env h' n' (lst++[c]) vL'/\x<=n'/\ ∀j,j<x->j≠K.ky->j≠K.k12->zbg vL j->h' j=h j:=by
 obtain⟨b1,b6,b7,b8,b12⟩:=R.bd;obtain⟨h',n',q1,q2,⟨vL',q3,q4,q5⟩,q6,q7⟩:=zIk (c:=c) R.hk R.e12 R.h12 R.oL hl b1 b12;obtain⟨y6,h6⟩:=R.h6;obtain⟨y7,h7⟩:=R.h7;obtain⟨y8,h8⟩:=R.h8;obtain⟨n1,n2,n3,n4,n5,n6⟩:=R.ne;refine⟨h',n',vL',q1,⟨q2,R.e12,R.e6,R.e7,R.e8,q3,⟨y6,?_⟩,⟨y7,?_⟩,⟨y8,?_⟩,R.ne,q4,by omega⟩,q6,q7⟩
 ·rw[q7 _ b6 (zcV h6 R.hk (by simp)) (Ne.symm n4) (R.oL.offAt fun rs e=>by rw[h6]at e;cases e),h6]
 ·rw[q7 _ b7 (zcV h7 R.hk (by simp)) (Ne.symm n5) (R.oL.offAt fun rs e=>by rw[h7]at e;cases e),h7]
 ·rw[q7 _ b8 (zcV h8 R.hk (by simp)) (Ne.symm n6) (R.oL.offAt fun rs e=>by rw[h8]at e;cases e),h8]
structure RStop2 (K:RK2) (env:Nat->V) (h:Nat->Option O) (x:Nat) (lst:List Config) (vL:V):Prop where
 hk:h K.ky=some (.loop env [40,41] zGs (.done .ret))
 h6:h K.k6=some (.rows 1 [[vL]] false)
 h7:h K.k7=some (.rows 1 [[vi 110]] false)
 h8:h K.k8=some (.rows 1 [[vi ((lst.length:Int)-1)]] false)
 oL:zaF h x vL 3 (zGj lst)
theorem RR.stop (R:RR K env h x lst vL) (hl:lst.length<2^30) (c:Config) {e:Int} (he:e≠0):
 ∃h' n',DenY Γ G K.ky [.agg (zue c),vi e] h x=some (vb false,h',n')/\RStop2 K env h' n' lst vL/\x<=n':=by
 obtain⟨b1,b6,b7,b8,b12⟩:=R.bd;obtain⟨y6,h6⟩:=R.h6;obtain⟨y7,h7⟩:=R.h7;obtain⟨y8,h8⟩:=R.h8;obtain⟨n1,n2,n3,n4,n5,n6⟩:=R.ne;obtain⟨h',n',q1,q2,q3,q4,q5,q6,q7⟩:=zIc (c:=c) he R.hk R.e12 R.e6 R.e7 R.e8 R.h12 h6 h7 h8 n1 n2 n3 n4 n5 R.oL hl b1 b12 b6 b7 b8;exact⟨h',n',q1,⟨q2,q3,q4,q5,q6⟩,q7⟩
end
theorem zHZ (K:RK2) (p:Prog) (hs:p.sane) (hf:zak p=true) (k:Int) (hk:0<=k/\k<=2) (run:List Choice) (hl:run.length<=120) (env:Nat->V) (H:Nat->Option O) (nx kP kR kM:Nat)
 (R0:RR K env H nx [] (.t .nils)) (hP:H kP=some (.rows 4 [[.t (.sl (p.cells.map Cell.enc)),.t (.sl (p.modules.map Contract.enc)),.t (.sl (p.locks.map Lock.enc)),.t (.sl (p.threads.map Thread.enc))]] false))
 (hR:H kR=some (.rows 1 [[.t (.sl (run.map Choice.enc))]] false)) (hM:H kM=some (.rows 1 [[vi k]] false)) (bP:kP<nx) (bR:kR<nx) (bM:kM<nx) (nR:kR≠K.k12) (nM:kM≠K.k12):
 ∃r h' n',DenR Γ G 461 [.yl K.ky,.mp kP 0 0,.mp kR 0 0,.mp kM 0 0] H nx=some (r,h',n')/\(nx<=n'/\ ∃lst vL,lst=zcm p::(zGm p k (zcm p) run).1/\
  (((zGm p k (zcm p) run).2=true/\RR K env h' n' lst vL)\/((zGm p k (zcm p) run).2=false/\RStop2 K env h' n' lst vL))):=by
 have AE:=zki p hs;have FT:=zfq hf k
 (refine zay Γ461 rfl ?_;dsimp only[zIy])
 simp -dsimp only[go_sem,seval,hP,hR,hM,AE];obtain⟨h1,n1,vL1,q1,R1,q2,q3⟩:=(R0.le (show nx<=nx+5+5 by omega)).go (by simp) (zcm p);rw[List.nil_append]at R1;have oP: ∀j,¬zbg (.t .nils) j->False:=fun j h=>h fun a b e=>by cases e
 have QU:h1 kP=_:=(q3 kP (by omega) (zcV hP R0.hk (by simp)) (zcV hP R0.h12 (by simp)) (fun a b e=>by cases e)).trans hP;have SK:h1 kR=_:=(q3 kR (by omega) (zcV hR R0.hk (by simp)) nR (fun a b e=>by cases e)).trans hR;have QV:h1 kM=_:=(q3 kM (by omega) (zcV hM R0.hk (by simp)) nM (fun a b e=>by cases e)).trans hM;unfold zue at q1;refine zas (P:=fun r h' n'=>r=vb true/\h'=h1/\n'=n1) ⟨_,_,_,q1,rfl,rfl,rfl⟩ ?_;rintro _ _ _ ⟨rfl,rfl,rfl⟩;have Bb:(run.map Choice.enc).length=run.length:=by simp
 simp -dsimp only[go_sem,seval,SK,Bb]
 refine zaq 1099511365984 run.length (fun j f h x=> ∃(c:Config) (lst:List Config) (vL:V),(f 18).v=vi j/\(f 5).v= .lb/\(f 5).box=some (zue c)/\IsK p k c/\RR K env h x lst vL/\lst.length<=j+1/\h kP=H kP/\h kM=H kM/\
  zcm p::(zGm p k (zcm p) run).1=lst++(zGm p k c (run.drop j)).1/\(zGm p k (zcm p) run).2=(zGm p k c (run.drop j)).2/\nx<=x) rfl
  ⟨zcm p,[zcm p],vL1,by simp -dsimp only[go_sem,seval],by simp -dsimp only[go_sem,seval],by simp -dsimp only[go_sem,seval];rfl,FT,by simp -dsimp only[go_sem,seval];exact R1.le (by omega),by simp,QU.trans hP.symm,QV.trans hM.symm,rfl,rfl,by simp -dsimp only[go_sem,seval];omega⟩ ?_
 rintro j f u h x bb hj ⟨c,lst,vL,Ep,SG,SB,hc,R,FZ,PS,Sv,Su,Ss,hx⟩;have C9:=zan j (by omega);rw[hP]at PS;rw[hM]at Sv
 by_cases AN:j<run.length
 ·have Ba:=eq_true AN;obtain⟨y,hy,Eq⟩:=zai AN;have Ap:(run.map Choice.enc)[j]? =some [ti y.thread,ti y.step,ti y.cell]:=by rw[zJ,hy];rfl
  have ED:=zi1 p hs hf k hk c hc y;have hd:run.drop j=y::run.drop (j+1):=zdo hy;unfold zue at SB
  by_cases Hs:y∈zaK p k c
  ·obtain⟨d,Bt,O1⟩:=zgY hf hc Hs;rw[Bt]at ED;rw[hd,zGm,Bt,if_pos rfl]at Su Ss;simp -dsimp only[go_sem,seval,Ep,SG,SB,PS,Sv,Ba,Ap,ED];obtain⟨h2,n2,vL2,p1,R2,p3,p4⟩:=(R.le (show x<=x+1+4+10+9 by omega)).go (by omega) d;have Ge:h2 kP=_:=(p4 kP (by omega) (zcV PS R.hk (by simp)) (zcV PS R.h12 (by simp)) (R.oL.offAt fun rs e=>by rw[PS]at e;cases e)).trans PS;have Pt:h2 kM=_:=(p4 kM (by omega) (zcV Sv R.hk (by simp)) nM (R.oL.offAt fun rs e=>by rw[Sv]at e;cases e)).trans Sv;unfold zue at p1;refine zas (P:=fun r h' n'=>r=vb true/\h'=h2/\n'=n2) ⟨_,_,_,p1,rfl,rfl,rfl⟩ ?_;rintro _ _ _ ⟨rfl,rfl,rfl⟩;simp -dsimp only[go_sem,seval,Ep];refine⟨AN,d,lst++[d],vL2,by simp -dsimp only[go_sem,seval,C9],by simp -dsimp only[go_sem,seval],by simp -dsimp only[go_sem,seval];rfl,O1,?_,by simp;omega,Ge.trans hP.symm,Pt.trans hM.symm,by rw[Su];simp,Ss,by simp -dsimp only[go_sem,seval];omega⟩;simp -dsimp only[go_sem,seval];exact R2.le (by omega)
  ·have Be:=zG9 hf hc Hs;rw[Be]at ED;rw[hd,zGm,Be,if_neg (by decide)]at Su Ss;simp -dsimp only[go_sem,seval,Ep,SG,SB,PS,Sv,Ba,Ap,ED];obtain⟨h2,n2,p1,p2,p3⟩:=(R.le (show x<=x+1+4+10+9 by omega)).stop (by omega) zd9 (e:=110) (by decide);unfold zue at p1;refine zas (P:=fun r h' n'=>r=vb false/\h'=h2/\n'=n2) ⟨_,_,_,p1,rfl,rfl,rfl⟩ ?_;rintro _ _ _ ⟨rfl,rfl,rfl⟩;simp -dsimp only[go_sem,seval];exact⟨by omega,lst,vL,by rw[Su];simp,.inr ⟨Ss,p2⟩⟩
 ·have Ba:=eq_false AN;have:j=run.length:=by omega
  subst this;rw[List.drop_length,zGm]at Su Ss;simp -dsimp only[go_sem,seval,Ep,Ba];refine⟨by simp -dsimp only[go_sem,seval];omega,lst,vL,by rw[Su];simp,.inl ⟨Ss,?_⟩⟩;simp -dsimp only[go_sem,seval];exact R.le (by omega)
end Rg
end
section
namespace Rg
open Go
theorem zH5 (p:Prog) (k:Int) (run:List Choice) (H:Nat->Option O) (n:Nat):
 ∃r h' n',DenR Γ G 455 [(zP p),vi k,.t (.sl (run.map Choice.enc))] H n=some (r,h',n')/\(r= .fn 461 [] [.mp n 0 0,.mp (n+2) 0 0,.mp (n+1) 0 0]/\
  h'=updC (updC (updC H n (some (.rows 4 [[.t (.sl (p.cells.map Cell.enc)),.t (.sl (p.modules.map Contract.enc)),.t (.sl (p.locks.map Lock.enc)),.t (.sl (p.threads.map Thread.enc))]] false))) (n+1) (some (.rows 1 [[vi k]] false))) (n+2) (some (.rows 1 [[.t (.sl (run.map Choice.enc))]] false))/\n+3<=n'):=by
 (refine zay Γ455 rfl ?_;dsimp only[zID])
 simp -dsimp only[go_sem,seval];exact⟨rfl,by simp only[zaC,zaA];rfl,by simp -dsimp only[go_sem,seval];omega⟩
theorem zId (K:RK2) (p:Prog) (hs:p.sane) (hf:zak p=true) (k:Int) (hk:0<=k/\k<=2) (run:List Choice) (hl:run.length<=120) {env:Nat->V} {H:Nat->Option O} {nx kP kR kM:Nat} {C:Ex->(Nat->Option O)->Nat->Prop} {w:WK C}
 (DA:H K.ky=some (.loop env [40,41] zGs .ready)) (e12:env 12= .mp K.k12 0 0) (e6:env 6= .mp K.k6 0 0) (e7:env 7= .mp K.k7 0 0) (e8:env 8= .mp K.k8 0 0) (h12:H K.k12=some (.rows 1 [[.t .nils]] false))
 (h6: ∃y,H K.k6=some (.rows 1 [[y]] false)) (h7: ∃y,H K.k7=some (.rows 1 [[y]] false)) (h8: ∃y,H K.k8=some (.rows 1 [[y]] false)) (ne:K.k6≠K.k7/\K.k6≠K.k8/\K.k7≠K.k8/\K.k12≠K.k6/\K.k12≠K.k7/\K.k12≠K.k8) (bd:K.ky<nx/\K.k6<nx/\K.k7<nx/\K.k8<nx/\K.k12<nx)
 (hP:H kP=some (.rows 4 [[.t (.sl (p.cells.map Cell.enc)),.t (.sl (p.modules.map Contract.enc)),.t (.sl (p.locks.map Lock.enc)),.t (.sl (p.threads.map Thread.enc))]] false))
 (hR:H kR=some (.rows 1 [[.t (.sl (run.map Choice.enc))]] false)) (hM:H kM=some (.rows 1 [[vi k]] false)) (bP:kP<nx) (bR:kR<nx) (bM:kM<nx) (nR:kR≠K.k12) (nM:kM≠K.k12)
 (hC: ∀h' n' vL,nx<=n'->zaF h' n' vL 3 (zGj (zcm p::(zGm p k (zcm p) run).1))->(∀rs,h' K.ky≠some (.rows 3 rs false))->
   (((zGm p k (zcm p) run).2=true->h' K.k12=some (.rows 1 [[vL]] false)->(∃y,h' K.k6=some (.rows 1 [[y]] false))->(∃y,h' K.k7=some (.rows 1 [[y]] false))->(∃y,h' K.k8=some (.rows 1 [[y]] false))->C .normal (updC h' K.ky (some .dead)) n')/\
    ((zGm p k (zcm p) run).2=false->h' K.k6=some (.rows 1 [[vL]] false)->h' K.k7=some (.rows 1 [[vi 110]] false)->h' K.k8=some (.rows 1 [[vi ((zGm p k (zcm p) run).1.length:Int)]] false)->C .ret (updC h' K.ky (some .dead)) n'))):
 zBm (DenR Γ G 461 [.yl K.ky,.mp kP 0 0,.mp kR 0 0,.mp kM 0 0] H nx) K.ky C w:=by
 obtain⟨r,h',n',q1,q2,lst,vL,rfl,⟨q3,R⟩ | ⟨q3,R⟩⟩:=zHZ K p hs hf k hk run hl env H nx kP kR kM ⟨DA,e12,e6,e7,e8,h12,h6,h7,h8,ne,.inl ⟨rfl,rfl⟩,bd⟩ hP hR hM bP bR bM nR nM
 ·refine znN (P:=fun e h n=>e= .normal/\h=h'/\n=n') ⟨r,h',n',q1,_,_,_,_,_,R.hk,rfl,rfl,rfl,rfl⟩ ?_;rintro _ _ _ ⟨rfl,rfl,rfl⟩;exact(hC _ _ vL q2 R.oL (fun rs e=>by rw[R.hk]at e;cases e)).1 q3 R.h12 R.h6 R.h7 R.h8
 ·refine znN (P:=fun e h n=>e= .ret/\h=h'/\n=n') ⟨r,h',n',q1,_,_,_,_,_,R.hk,rfl,rfl,rfl,rfl⟩ ?_;rintro _ _ _ ⟨rfl,rfl,rfl⟩;have ME:=R.h8;rw[show(((zcm p::(zGm p k (zcm p) run).1).length:Nat):Int)-1=((zGm p k (zcm p) run).1.length:Int)by simp]at ME;exact(hC _ _ vL q2 R.oL (fun rs e=>by rw[R.hk]at e;cases e)).2 q3 R.h6 R.h7 ME
theorem zHz (p:Prog) (hs:p.sane) (hf:zak p=true) (k:Int) (hk:0<=k/\k<=2) (run:List Choice) (hl:run.length<=120):
 Den Γ G 445 [(zP p),vi k,.t (.sl (run.map Choice.enc))]=some (.tup [.t (.sl ((zcm p::(zGm p k (zcm p) run).1).map Config.enc)),vi (if(zGm p k (zcm p) run).2 then 0 else 110),vi (if(zGm p k (zcm p) run).2 then run.length else((zGm p k (zcm p) run).1.length:Int))]):=by
 have hv:=zeV p hs;have h0:(zbM p).1=0:=by simpa[zak]using hf
 have Bb:(run.map Choice.enc).length=run.length:=by simp
 have Im: ¬((run.length:Int)>120):=by omega
 (refine zag Γ445 rfl ?_;dsimp only[zIM])
 rcases(show k=0\/k=1\/k=2 by omega)with rfl | rfl | rfl
 case' inl=>simp -dsimp only[go_sem,seval,hv,h0,Bb,Im]
 case' inr.inl=>simp -dsimp only[go_sem,seval,hv,h0,Bb,Im]
 case' inr.inr=>simp -dsimp only[go_sem,seval,hv,h0,Bb,Im]
 all_goals
  refine zas (zH5 p _ run _ _) ?_;rintro r h' n' ⟨rfl,rfl,hn⟩;simp -dsimp only[go_sem,seval];refine zId ⟨n',1,2,3,28⟩ p hs hf _ (by omega) run hl (by rw[zaa,if_pos rfl]) (by simp -dsimp only[go_sem,seval]) (by simp -dsimp only[go_sem,seval]) (by simp -dsimp only[go_sem,seval]) (by simp -dsimp only[go_sem,seval]) (by simp only[zaa];repeat(first | rw[if_neg (by omega)] | rw[if_pos (by trivial)])) ⟨_,(by simp only[zaa];repeat(first | rw[if_neg (by omega)] | rw[if_pos (by trivial)]))⟩ ⟨_,(by simp only[zaa];repeat(first | rw[if_neg (by omega)] | rw[if_pos (by trivial)]))⟩ ⟨_,(by simp only[zaa];repeat(first | rw[if_neg (by omega)] | rw[if_pos (by trivial)]))⟩ (by simp) (by simp only;omega) (by simp only[zaa];repeat(first | rw[if_neg (by omega)] | rw[if_pos (by trivial)])) (by simp only[zaa];repeat(first | rw[if_neg (by omega)] | rw[if_pos (by trivial)])) (by simp only[zaa];repeat(first | rw[if_neg (by omega)] | rw[if_pos (by trivial)])) (by omega) (by omega) (by omega) (by simp) (by simp) ?_;intro h2 n2 vL Fh hO DA;have m0:(28=n')=False:=eq_false (by omega);have m1:(1=n')=False:=eq_false (by omega);have m2:(2=n')=False:=eq_false (by omega);have m3:(3=n')=False:=eq_false (by omega)
  have E0: ∀L:List Config,∀e∈L.map Config.enc,∀t∈e,T.norm t=t:=fun L e he t ht=>by
   obtain⟨v,-,rfl⟩:=List.mem_map.1 he;simp only[Config.enc,List.mem_cons,List.not_mem_nil,or_false]at ht;rcases ht with rfl | rfl | rfl<;>rfl
  rcases hO with⟨_,e0⟩ | ⟨kV,rfl,SO,hV⟩
  ·have:=congrArg List.length e0;rw[zGo]at this;simp at this
  have v0:kV≠n':=by rintro rfl;exact DA _ hV
  have D8: ∀(L:List Config) (h:Nat->Option O),(zGj L).mapM (fun row=>row.mapM (toT h 999))=some (L.map Config.enc):=fun L h=>by
   have:=zdJ h 999 (L.map Config.enc) (E0 L);rw[List.map_map]at this;exact this
  refine⟨fun Bm h12 h6 h7 h8=> ?_,fun Bm h6 h7 h8=> ?_⟩
  ·obtain⟨y6,h6⟩:=h6;obtain⟨y7,h7⟩:=h7;obtain⟨y8,h8⟩:=h8;simp only at h12 h6 h7 h8;have v1:kV≠1:=zcV hV h6 (by simp);have v2:kV≠2:=zcV hV h7 (by simp);have v3:kV≠3:=zcV hV h8 (by simp);rw[Bm];simp -dsimp only[go_sem,seval,h12,h6,h7,h8,m0,m1,m2,m3,hV,v0,v1,v2,v3,Bb];rw[if_pos (Nat.le_refl _),List.take_length,zD,D8];rfl
  ·simp only at h6 h7 h8;rw[Bm];simp -dsimp only[go_sem,seval,h6,h7,h8,m0,m1,m2,m3,hV,v0];rw[if_pos (Nat.le_refl _),List.take_length,zD,D8];rfl
theorem zIl {h:Nat->Option O} {n ky k3 k4 k5 kS kL kV i lim:Nat} {env:Nat->V} {x1 x2 x3 x4 x5:V} {l:List Vis} {d:Vis} {g:Goal} (hk:h ky=some (.loop env [11] zfh .ready)) (e3:env 3= .mp k3 0 0) (e4:env 4= .mp k4 0 0) (e5:env 5= .mp k5 0 0)
 (h3:h k3=some (.rows 1 [[.mp kS 0 0]] false)) (h4:h k4=some (.rows 1 [[vi lim]] false)) (h5:h k5=some (.rows 1 [[.fn 453 [] [.mp kL 0 0]]] false)) (hS:h kS=some (.rows 6 [[x1,x2,x3,x4,x5,.ms kV 0 l.length]] false))
 (hV:h kV=some (.rows 7 (zgS l) false)) (hd:l[i]? =some d) (hL:h kL=some (.rows 6 [g.cells] false)) (K1:d.c.buf.length<2^48) (It:g.thread<d.c.at_.length) (hm:zGi d.c g=false)
 (by_:ky<n) (bL:kL<n) (hi:(i:Int)≠lim):
 ∃h' n',DenY Γ G ky [vi i] h n=some (vb true,h',n')/\h' ky=some (.loop env [11] zfh .ready)/\n<=n'/\(∀j,j<n->j≠ky->h' j=h j):=by
 have:=zjy (Γ:=Γ) (G:=G) (vs:=[vi i]) (n:=n) (P:=fun ex h' n'=>ex= .normal/\h' ky=some (.loop env [11] zfh .busy)/\n<=n'/\(∀j,j<n->j≠ky->h' j=h j)) hk rfl (fun ex h' n' hP=>⟨_,_,_,hP.2.1⟩) (by
  have n3:k3≠ky:=zcV h3 hk (by simp);have n4:k4≠ky:=zcV h4 hk (by simp);have n5:k5≠ky:=zcV h5 hk (by simp);have nS:kS≠ky:=zcV hS hk (by simp);have nV:kV≠ky:=zcV hV hk (by simp);have nL:kL≠ky:=zcV hL hk (by simp);have Ap:=zoZ hd;have AV:=(zH.1 hd).1;have i0:(0:Int)<=(i:Int):=by omega
  have i1:(i:Int)<(l.length:Int):=by omega
  simp -dsimp only[go_sem,seval,e3,e4,e5,h3,h4,h5,hS,hV,n3,n4,n5,nS,nV,nL,hi,Ap,i0,i1,zcZ];refine zas (zHg d.c g K1 It (by rw[zaa,if_neg nL,zaa,if_neg nL];exact hL) (by omega)) ?_;rintro r h' n' ⟨rfl,rfl,a3⟩;simp -dsimp only[go_sem,seval,hm]
  exact⟨rfl,by rw[zaa,if_pos rfl];rfl,by omega,fun j j1 j2=>by rw[zaa,if_neg j2,zaa,if_neg j2]⟩)
 obtain⟨ex,h',n',⟨rfl,q1,q4,q5⟩,env',ps',bd',q6,q7⟩:=this;rw[q1]at q6;simp only[zA,O.loop.injEq]at q6;obtain⟨rfl,rfl,rfl,_⟩:=q6;exact⟨_,n',q7,by rw[zaa,if_pos rfl];rfl,q4,fun j j1 j2=>by rw[zaa,if_neg j2];exact q5 j j1 j2⟩
theorem zIj {h:Nat->Option O} {n ky k3 k4 k5 k6 k7 kS kL kV i lim:Nat} {env:Nat->V} {x1 x2 x3 x4 x5:V} {z6 z7:Int} {l:List Vis} {d:Vis} {g:Goal} (hk:h ky=some (.loop env [11] zfh .ready)) (e3:env 3= .mp k3 0 0) (e4:env 4= .mp k4 0 0) (e5:env 5= .mp k5 0 0) (e6:env 6= .mp k6 0 0) (e7:env 7= .mp k7 0 0)
 (h3:h k3=some (.rows 1 [[.mp kS 0 0]] false)) (h4:h k4=some (.rows 1 [[vi lim]] false)) (h5:h k5=some (.rows 1 [[.fn 453 [] [.mp kL 0 0]]] false)) (h6:h k6=some (.rows 1 [[vi z6]] false)) (h7:h k7=some (.rows 1 [[vi z7]] false)) (IJ:k6≠k7)
 (hS:h kS=some (.rows 6 [[x1,x2,x3,x4,x5,.ms kV 0 l.length]] false))
 (hV:h kV=some (.rows 7 (zgS l) false)) (hd:l[i]? =some d) (hL:h kL=some (.rows 6 [g.cells] false)) (K1:d.c.buf.length<2^48) (It:g.thread<d.c.at_.length) (hm:zGi d.c g=true)
 (by_:ky<n) (bL:kL<n) (hi:(i:Int)≠lim):
 ∃h' n',DenY Γ G ky [vi i] h n=some (vb false,h',n')/\h' ky=some (.loop env [11] zfh (.done .ret))/\h' k6=some (.rows 1 [[vi i]] false)/\h' k7=some (.rows 1 [[vi 0]] false)/\n<=n'/\(∀j,j<n->j≠ky->j≠k6->j≠k7->h' j=h j):=by
 have:=zjy (Γ:=Γ) (G:=G) (vs:=[vi i]) (n:=n) (P:=fun ex h' n'=>ex= .ret/\h' ky=some (.loop env [11] zfh .busy)/\h' k6=some (.rows 1 [[vi i]] false)/\h' k7=some (.rows 1 [[vi 0]] false)/\n<=n'/\(∀j,j<n->j≠ky->j≠k6->j≠k7->h' j=h j)) hk rfl (fun ex h' n' hP=>⟨_,_,_,hP.2.1⟩) (by
  have n3:k3≠ky:=zcV h3 hk (by simp);have n4:k4≠ky:=zcV h4 hk (by simp);have n5:k5≠ky:=zcV h5 hk (by simp);have n6:k6≠ky:=zcV h6 hk (by simp);have n7:k7≠ky:=zcV h7 hk (by simp);have nS:kS≠ky:=zcV hS hk (by simp);have nV:kV≠ky:=zcV hV hk (by simp);have nL:kL≠ky:=zcV hL hk (by simp);have Ap:=zoZ hd;have AV:=(zH.1 hd).1;have i0:(0:Int)<=(i:Int):=by omega
  have i1:(i:Int)<(l.length:Int):=by omega
  simp -dsimp only[go_sem,seval,e3,e4,e5,h3,h4,h5,hS,hV,n3,n4,n5,nS,nV,nL,hi,Ap,i0,i1,zcZ];refine zas (zHg d.c g K1 It (by rw[zaa,if_neg nL,zaa,if_neg nL];exact hL) (by omega)) ?_;rintro r h' n' ⟨rfl,rfl,a3⟩;simp -dsimp only[go_sem,seval,hm,e6,e7,h6,h7,n6,n7,IJ,IJ.symm];refine⟨rfl,by simp -dsimp only[go_sem,seval,Ne.symm n6,Ne.symm n7];rfl,by simp -dsimp only[go_sem,seval,IJ],by simp -dsimp only[go_sem,seval],by simp -dsimp only[go_sem,seval];omega,fun j j1 j2 j3 j4=> ?_⟩
  simp -dsimp only[go_sem,seval,j2,j3,j4])
 obtain⟨ex,h',n',⟨rfl,q1,q2,q3,q4,q5⟩,env',ps',bd',q6,q7⟩:=this;rw[q1]at q6;simp only[zA,O.loop.injEq]at q6;obtain⟨rfl,rfl,rfl,_⟩:=q6;have n6:k6≠ky:=zcV h6 hk (by simp);have n7:k7≠ky:=zcV h7 hk (by simp);exact⟨_,n',q7,by rw[zaa,if_pos rfl];rfl,by rw[zaa,if_neg n6];exact q2,by rw[zaa,if_neg n7];exact q3,q4,fun j j1 j2 j3 j4=>by rw[zaa,if_neg j2];exact q5 j j1 j2 j3 j4⟩
end Rg
end
section
namespace Rg
open Go
structure RF (K:RK) (p:Prog) (k:Int) (lim:Nat) (g:Goal) (env:Nat->V) (h:Nat->Option O) (x:Nat) (l:List Vis) (vV:V):Prop where
 hk:h K.ky=some (.loop env [11] zfh .ready)
 e3:env 3= .mp K.k3 0 0
 e4:env 4= .mp K.k4 0 0
 e5:env 5= .mp K.k5 0 0
 e6:env 6= .mp K.k6 0 0
 e7:env 7= .mp K.k7 0 0
 h3:h K.k3=some (.rows 1 [[.mp K.kS 0 0]] false)
 h4:h K.k4=some (.rows 1 [[vi lim]] false)
 h5:h K.k5=some (.rows 1 [[.fn 453 [] [.mp K.kL 0 0]]] false)
 h6:h K.k6=some (.rows 1 [[vi 0]] false)
 h7:h K.k7=some (.rows 1 [[vi 0]] false)
 n67:K.k6≠K.k7
 hSV:h K.kSV=some (.rows 1 [[.mp K.kS 0 0]] false)
 hY:h K.kY=some (.rows 1 [[.yl K.ky]] false)
 hSe:h K.kSe=some (.rows 1 [[.mm K.kM]] false)
 hM:h K.kM=some (.map (mapL (fun v:Vis=>ziD v.c) (fun _=>vb true) l))
 hS:h K.kS=some (.rows 6 [[.t (.sl (p.cells.map Cell.enc)),.t (.sl (p.modules.map Contract.enc)),.t (.sl (p.locks.map Lock.enc)),.t (.sl (p.threads.map Thread.enc)),vi k,vV]] false)
 oV:zaF h x vV 7 (zgS l)
 hL:h K.kL=some (.rows 6 [g.cells] false)
 nLS:K.kL≠K.kS
 bd:K.ky<x/\K.k3<x/\K.k4<x/\K.k5<x/\K.k6<x/\K.k7<x/\K.kL<x/\K.kS<x/\K.kSV<x/\K.kY<x/\K.kSe<x/\K.kM<x
section
variable {K:RK} {p:Prog} {k:Int} {lim:Nat} {g:Goal} {env:Nat->V} {h h' : Nat->Option O} {x x' : Nat} {l l' : List Vis} {vV vV' : V}
theorem RF.offV (R:RF K p k lim g env h x l vV) {q:Nat} (hq: ∀rs,h q≠some (.rows 7 rs false)):zbg vV q:=R.oV.offAt hq
theorem RF.next (R:RF K p k lim g env h x l vV) (hx:x<=x') (hh: ∀j,j<x->j≠K.kM->j≠K.kS->zbg vV j->h' j=h j)
 (hM:h' K.kM=some (.map (mapL (fun v:Vis=>ziD v.c) (fun _=>vb true) l')))
 (hS:h' K.kS=some (.rows 6 [[.t (.sl (p.cells.map Cell.enc)),.t (.sl (p.modules.map Contract.enc)),.t (.sl (p.locks.map Lock.enc)),.t (.sl (p.threads.map Thread.enc)),vi k,vV']] false)) (oV:zaF h' x' vV' 7 (zgS l')):RF K p k lim g env h' x' l' vV':=by
 obtain⟨b1,b2,b3,b4,b5,b6,b7,b8,b9,b10,b11,b12⟩:=R.bd
 have key: ∀j o,h j=o->j<x->(∀es,o≠some (.map es))->(∀rs,o≠some (.rows 6 rs false))->(∀rs,o≠some (.rows 7 rs false))->h' j=o:=fun j o e1 e2 e4 e5 e7=>by
  rw[hh j e2 (zcV e1 R.hM (e4 _)) (zcV e1 R.hS (e5 _)) (R.offV fun rs=>e1▸e7 rs),e1]
 have kL:h' K.kL=some (.rows 6 [g.cells] false):=by rw[hh _ b7 (zcV R.hL R.hM (by simp)) R.nLS (R.offV fun rs e=>by rw[R.hL]at e;cases e),R.hL]
 refine⟨key _ _ R.hk b1 ?_ ?_ ?_,R.e3,R.e4,R.e5,R.e6,R.e7,key _ _ R.h3 b2 ?_ ?_ ?_,key _ _ R.h4 b3 ?_ ?_ ?_,key _ _ R.h5 b4 ?_ ?_ ?_,key _ _ R.h6 b5 ?_ ?_ ?_,key _ _ R.h7 b6 ?_ ?_ ?_,R.n67,
  key _ _ R.hSV b9 ?_ ?_ ?_,key _ _ R.hY b10 ?_ ?_ ?_,key _ _ R.hSe b11 ?_ ?_ ?_,hM,hS,oV,kL,R.nLS,by omega⟩
 all_goals(intro rs h;simp at h;done)
theorem RF.le (R:RF K p k lim g env h x l vV) (hx:x<=x'):RF K p k lim g env h x' l vV:=R.next hx (fun _ _ _ _ _=>rfl) R.hM R.hS (R.oV.le hx)
theorem RF.yield {d:Vis} (R:RF K p k lim g env h x (l++[d]) vV) (K1:d.c.buf.length<2^48) (It:g.thread<d.c.at_.length) (hm:zGi d.c g=false) (Az:l.length≠lim):
 ∃h' n',DenY Γ G K.ky [vi l.length] h x=some (vb true,h',n')/\RF K p k lim g env h' n' (l++[d]) vV/\x<=n':=by
 obtain⟨b1,b2,b3,b4,b5,b6,b7,b8,b9,b10,b11,b12⟩:=R.bd;rcases R.oV with⟨_,h0⟩ | ⟨kV,rfl,c1,c2⟩
 ·have:=congrArg List.length h0;rw[zcZ]at this;simp at this
 have hS:=R.hS;rw[zcZ]at hS;obtain⟨h',n',q1,q2,q6,q7⟩:=zIl (l:=l++[d]) (d:=d) (i:=l.length) R.hk R.e3 R.e4 R.e5 R.h3 R.h4 R.h5 hS c2 (by simp) R.hL K1 It hm b1 b7 (by omega);have nSy:K.kS≠K.ky:=zcV R.hS R.hk (by simp);have nMy:K.kM≠K.ky:=zcV R.hM R.hk (by simp);have nVy:kV≠K.ky:=zcV c2 R.hk (by simp);refine⟨h',n',q1,R.next q6 (fun j j1 _ _ _=> ?_) ?_ ?_ ?_,q6⟩
 ·by_cases I5:j=K.ky
  ·rw[I5,q2,R.hk]
  ·exact q7 j j1 I5
 ·rw[q7 _ b12 nMy,R.hM]
 ·rw[q7 _ b8 nSy,R.hS]
 ·exact .inr ⟨kV,rfl,by omega,by rw[q7 _ c1 nVy];exact c2⟩
structure RHit (K:RK) (p:Prog) (k:Int) (env:Nat->V) (h:Nat->Option O) (x:Nat) (l:List Vis) (i:Nat):Prop where
 hk:h K.ky=some (.loop env [11] zfh (.done .ret))
 h6:h K.k6=some (.rows 1 [[vi i]] false)
 h7:h K.k7=some (.rows 1 [[vi 0]] false)
 oV: ∃kV,h K.kS=some (.rows 6 [[.t (.sl (p.cells.map Cell.enc)),.t (.sl (p.modules.map Contract.enc)),.t (.sl (p.locks.map Lock.enc)),.t (.sl (p.threads.map Thread.enc)),vi k,.ms kV 0 l.length]] false)/\h kV=some (.rows 7 (zgS l) false)/\kV<x
theorem RF.hit {d:Vis} (R:RF K p k lim g env h x (l++[d]) vV) (K1:d.c.buf.length<2^48) (It:g.thread<d.c.at_.length) (hm:zGi d.c g=true) (Az:l.length≠lim):
 ∃h' n',DenY Γ G K.ky [vi l.length] h x=some (vb false,h',n')/\RHit K p k env h' n' (l++[d]) l.length/\x<=n':=by
 obtain⟨b1,b2,b3,b4,b5,b6,b7,b8,b9,b10,b11,b12⟩:=R.bd;rcases R.oV with⟨_,h0⟩ | ⟨kV,rfl,c1,c2⟩
 ·have:=congrArg List.length h0;rw[zcZ]at this;simp at this
 have hS:=R.hS;rw[zcZ]at hS;obtain⟨h',n',q1,q2,q3,q4,q6,q7⟩:=zIj (l:=l++[d]) (d:=d) (i:=l.length) R.hk R.e3 R.e4 R.e5 R.e6 R.e7 R.h3 R.h4 R.h5 R.h6 R.h7 R.n67 hS c2 (by simp) R.hL K1 It hm b1 b7 (by omega);refine⟨h',n',q1,⟨q2,q3,q4,kV,?_,?_,by omega⟩,q6⟩
 ·rw[q7 _ b8 (zcV R.hS R.hk (by simp)) (zcV R.hS R.h6 (by simp)) (zcV R.hS R.h7 (by simp)),hS]
 ·rw[q7 _ c1 (zcV c2 R.hk (by simp)) (zcV c2 R.h6 (by simp)) (zcV c2 R.h7 (by simp)),c2]
theorem RF.stop (R:RF K p k lim g env h x l vV): ∃h' n',DenY Γ G K.ky [vi lim] h x=some (vb false,h',n')/\zoC K env h'/\x<=n':=by
 obtain⟨h',n',q1,q2,q3,q4,q5⟩:=zyc (n:=x) R.hk R.e4 R.e6 R.e7 R.h4 R.h6 R.h7 R.n67;exact⟨h',n',q1,⟨q2,q3,q4⟩,q5⟩
end
end Rg
end
