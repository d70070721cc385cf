/- Part of the proof of laws of relyguardtop. No condition. -/
import Derived.Test.YtdmkjfdlieokcaaGreatDoorHartAQ
import Derived.Test.YtdmkjfdlieokcaaGreatDoorHartAP
import Derived.Test.YtdmkjfdlieokcaaGreatDoorHartAO
import Derived.Test.YtdmkjfdlieokcaaGreatDoorHartAN
import Derived.Lib.IndexMore
import Derived.Test.YtdmkjfdlieokcaaGreatDoorHartAM
set_option linter.unusedSimpArgs false
set_option linter.unusedVariables false
section
namespace Rg
open Go
theorem zHo {K:RK} {p:Prog} (hf:zak p=true) {k:Int} {lim:Nat} {env:Nat->V} {H:Nat->Option O} {nx:Nat} {l:List Vis} {vV:V} {g:Goal} (hg:g.thread<p.threads.length) (R:RF K p k lim g env H nx l vV) (d:Vis) (hd:IsB p d.c) (Aa: ∀v∈l,IsB p v.c) (hl:l.length<2^29):
 ∃r h' n',DenR Γ G 393 [.agg (zxt d),.mp K.kSe 0 0,.mp K.kSV 0 0,.mp K.kY 0 0] H nx=some (r,h',n')/\(nx<=n'/\if zf9 l d.c then r=vb true/\ ∃vV',RF K p k lim g env h' n' l vV'
  else if l.length=lim then r=vb false/\zoC K env h' else if zGi d.c g then r=vb false/\RHit K p k env h' n' (l++[d]) l.length else r=vb true/\ ∃vV',RF K p k lim g env h' n' (l++[d]) vV'):=by
 obtain⟨b1,b2,b3,b4,b5,b6,b7,b8,b9,b10,b11,b12⟩:=R.bd;have DA:=zuD p hf d.c hd;have D3:=zuX (fun v:Vis=>ziD v.c) (fun _=>vb true) (ziD d.c) l;have C6:=znL hf Aa hd (l:=l);have hM:=R.hM;have hSe:=R.hSe;unfold zxt zue
 (refine zay Γ393 rfl ?_;dsimp only[zzQ])
 cases Dx:zf9 l d.c
 ·rw[Dx]at C6;have hz:l.find? (fun a=>ziD d.c==ziD a.c)=none:=by simpa using C6
  rw[hz]at D3
  have Jj:=zzI (fun v:Vis=>ziD v.c) (fun _=>vb true) (ziD d.c) (vb true) l fun a ha=>by
   have:=List.find?_eq_none.1 hz a ha;simpa using this
  have hSV:=R.hSV;have hS:=R.hS;have hY:=R.hY;have nSV:K.kSV≠K.kM:=zcV hSV hM (by simp);have nS:K.kS≠K.kM:=zcV hS hM (by simp);have nY:K.kY≠K.kM:=zcV hY hM (by simp);have nSSV:K.kSV≠K.kS:=zcV hSV hS (by simp);have nYS:K.kY≠K.kS:=zcV hY hS (by simp);have oVM:zbg vV K.kM:=R.offV fun rs e=>by rw[hM]at e;cases e
  have oV1:zaF (updC H K.kM (some (O.map (mapL (fun v:Vis=>ziD v.c) (fun _=>vb true) l++[(T.str (ziD d.c),vb true)])))) nx vV 7 (zgS l):=R.oV.keep (Nat.le_refl _) fun q _ h2=>by
   rw[zaa,if_neg];rintro rfl;exact h2 oVM
  have w1:=oV1.valOf;have w5:=oV1.r5;have n1:K.kSV≠nx+2+4+3+3+6:=by omega
  have n2:K.kS≠nx+2+4+3+3+6:=by omega
  simp -dsimp only[go_sem,seval,DA,hSe,hM,D3,Option.map_none,Option.getD_none,Jj,nSV,nS,hSV,hS,w1,w5,n1,n2];refine zav (oV1.upd (by omega) _) (by omega) (by rw[zcZ];omega) (by decide) rfl (zrI _) ?_;intro vV2 hp hO Bn A8;have w2:=hO.valOf;have w3:=hO.cellsV;unfold V.cells at w3;have oS:zbg vV K.kS:=R.offV fun rs e=>by rw[hS]at e;cases e
  have oSV:zbg vV K.kSV:=R.offV fun rs e=>by rw[hSV]at e;cases e
  have oY:zbg vV K.kY:=R.offV fun rs e=>by rw[hY]at e;cases e
  have y1:=A8 K.kS (by omega) oS;have y2:=A8 K.kSV (by omega) oSV;have y3:=A8 K.kY (by omega) oY;rw[zaa,if_neg n2,zaa,if_neg nS,hS]at y1;rw[zaa,if_neg n1,zaa,if_neg nSV,hSV]at y2;rw[zaa,if_neg (by omega),zaa,if_neg nY,hY]at y3;simp -dsimp only[go_sem,seval,w2,w3,y1,y2,y3,nSSV,nYS];refine⟨?_,?_⟩
  ·simp only[zgO,List.all_cons,List.all_nil,List.getElem?_cons_succ,List.getElem?_cons_zero,sep,AOp.looks,AOp.opds,AOp.wopd,zid,za2,List.flatMap_cons,List.flatMap_nil];simp -dsimp only[go_sem,seval,V.top,w1];rcases R.oV with⟨e,_⟩ | ⟨kV,e,_,e2⟩
   ·rw[e];rfl
   ·have:K.kSV≠kV:=zcV hSV e2 (by simp);rw[e];simp[this]
  have oF: ∀z,nx+2+4+3+3+8<=z->zaF (updC (At (updC (updC H K.kM (some (O.map (mapL (fun v:Vis=>ziD v.c) (fun _=>vb true) l++[(T.str (ziD d.c),vb true)])))) (nx+2+4+3+3+6) (some (O.rows 7 [[V.t (ints d.c.mem),V.t (ints d.c.at_),V.t (T.sl (d.c.buf.map fun b=>[T.sl (b.map Entry.enc)])),vi d.fr,vi d.x.thread,vi d.x.step,vi d.x.cell]] false))) hp) K.kS
   (some (O.rows 6 [[V.t (T.sl (p.cells.map Cell.enc)),V.t (T.sl (p.modules.map Contract.enc)),V.t (T.sl (p.locks.map Lock.enc)),V.t (T.sl (p.threads.map Thread.enc)),vi k,vV2]] false))) z vV2 7 (zgS (l++[d])):=fun z hz=>by
   rw[show zgS (l++[d])=zgS l++[[V.t (ints d.c.mem),V.t (ints d.c.at_),V.t (T.sl (d.c.buf.map fun b=>[T.sl (b.map Entry.enc)])),vi d.fr,vi d.x.thread,vi d.x.step,vi d.x.cell]]by simp[zgS,zxt,zue]];refine hO.keep hz fun q _ q2=> ?_
   rw[zaa,if_neg];rintro rfl;exact q2 (Bn _ (by omega))
  have BX:=(oF _ (Nat.le_refl _)).lenS;rw[zcZ,zM,List.length_singleton]at BX;have Er:IntKind.i64.wrap (((l.length+1:Nat):Int)-1)=(l.length:Int):=by rw[show((l.length+1:Nat):Int)-1=(l.length:Int)by omega];exact zaH (by omega)
  simp -dsimp only[go_sem,seval,w2,w3,BX,Er];have nM:K.kM≠K.kS:=Ne.symm nS
  have R2: ∀z,nx+2+4+3+3+8<=z->RF K p k lim g env (updC (At (updC (updC H K.kM (some (O.map (mapL (fun v:Vis=>ziD v.c) (fun _=>vb true) l++[(T.str (ziD d.c),vb true)])))) (nx+2+4+3+3+6) (some (O.rows 7 [[V.t (ints d.c.mem),V.t (ints d.c.at_),V.t (T.sl (d.c.buf.map fun b=>[T.sl (b.map Entry.enc)])),vi d.fr,vi d.x.thread,vi d.x.step,vi d.x.cell]] false))) hp) K.kS
   (some (O.rows 6 [[V.t (T.sl (p.cells.map Cell.enc)),V.t (T.sl (p.modules.map Contract.enc)),V.t (T.sl (p.locks.map Lock.enc)),V.t (T.sl (p.threads.map Thread.enc)),vi k,vV2]] false))) z (l++[d]) vV2:=fun z hz=>by
   have Aq: ∀j,j<nx->j≠K.kM->j≠K.kS->zbg vV j->updC (At (updC (updC H K.kM (some (O.map (mapL (fun v:Vis=>ziD v.c) (fun _=>vb true) l++[(T.str (ziD d.c),vb true)])))) (nx+2+4+3+3+6) (some (O.rows 7 [[V.t (ints d.c.mem),V.t (ints d.c.at_),V.t (T.sl (d.c.buf.map fun b=>[T.sl (b.map Entry.enc)])),vi d.fr,vi d.x.thread,vi d.x.step,vi d.x.cell]] false))) hp) K.kS
    (some (O.rows 6 [[V.t (T.sl (p.cells.map Cell.enc)),V.t (T.sl (p.modules.map Contract.enc)),V.t (T.sl (p.locks.map Lock.enc)),V.t (T.sl (p.threads.map Thread.enc)),vi k,vV2]] false)) j=H j:=fun j j1 j2 j3 j4=>by
    rw[zaa,if_neg j3,A8 j (by omega) j4,zaa,if_neg (by omega),zaa,if_neg j2]
   refine R.next (by omega) (fun j j1 j3 j4 j6=>Aq j j1 j3 j4 j6) ?_ (by rw[zaa,if_pos rfl]) (oF z hz);rw[zaa,if_neg nM,A8 _ (by omega) oVM,zaa,if_neg (by omega),zaa,if_pos rfl,zi7]
  generalize updC (At (updC (updC H K.kM (some (O.map (mapL (fun v:Vis=>ziD v.c) (fun _=>vb true) l++[(T.str (ziD d.c),vb true)])))) (nx+2+4+3+3+6) (some (O.rows 7 [[V.t (ints d.c.mem),V.t (ints d.c.at_),V.t (T.sl (d.c.buf.map fun b=>[T.sl (b.map Entry.enc)])),vi d.fr,vi d.x.thread,vi d.x.step,vi d.x.cell]] false))) hp) K.kS
   (some (O.rows 6 [[V.t (T.sl (p.cells.map Cell.enc)),V.t (T.sl (p.modules.map Contract.enc)),V.t (T.sl (p.locks.map Lock.enc)),V.t (T.sl (p.threads.map Thread.enc)),vi k,vV2]] false))=F at *
  have R3:=R2 (nx+2+4+3+3+11+9) (by omega)
  by_cases AC:l.length=lim
  ·obtain⟨h',n',q1,q2,q3⟩:=R3.stop;rw[AC];refine zas (P:=fun r h' n'=>r=vb false/\zoC K env h'/\nx+2+4+3+3+11+9<=n') ⟨_,h',n',q1,rfl,q2,q3⟩ ?_;rintro r h' n' ⟨rfl,q2,q3⟩;simp -dsimp only[go_sem,seval];refine⟨by omega,?_⟩;simp only[zG,if_false,if_true,eq_self_iff_true];exact⟨rfl,q2⟩
  ·have K1:d.c.buf.length<2^48:=by
    obtain⟨⟨_,_,_,l4⟩,_⟩:=zal (zam hf).1;have:=hd.lb;omega
   have It:g.thread<d.c.at_.length:=by rw[hd.la];exact hg
   cases Mt:zGi d.c g
   ·obtain⟨h',n',q1,q2,q3⟩:=R3.yield K1 It Mt AC;refine zas (P:=fun r h' n'=>r=vb true/\RF K p k lim g env h' n' (l++[d]) vV2/\nx+2+4+3+3+11+9<=n') ⟨_,h',n',q1,rfl,q2,q3⟩ ?_;rintro r h' n' ⟨rfl,q2,q3⟩;simp -dsimp only[go_sem,seval];refine⟨by omega,?_⟩;simp only[zG,if_false,AC];exact⟨rfl,vV2,q2⟩
   ·obtain⟨h',n',q1,q2,q3⟩:=R3.hit K1 It Mt AC;refine zas (P:=fun r h' n'=>r=vb false/\RHit K p k env h' n' (l++[d]) l.length/\nx+2+4+3+3+11+9<=n') ⟨_,h',n',q1,rfl,q2,q3⟩ ?_;rintro r h' n' ⟨rfl,q2,q3⟩;simp -dsimp only[go_sem,seval];refine⟨by omega,?_⟩;simp only[zG,if_false,if_true,AC];exact⟨rfl,q2⟩
 ·rw[Dx]at C6;obtain⟨z,hz⟩:=Option.isSome_iff_exists.1 C6;rw[hz]at D3;simp -dsimp only[go_sem,seval,DA,hSe,hM,D3,Option.map_some,Option.getD_some];refine⟨by simp -dsimp only[go_sem,seval];omega,rfl,vV,?_⟩;simp -dsimp only[go_sem,seval];exact R.le (by omega)
end Rg
end
section
namespace Rg
open Go
theorem zG2 {p:Prog} {k:Int} {lim:Nat}: ∀{f i:Nat} {l l':List Vis},goV p k lim f i l=some l'-> ∃s,l'=l++s
 | 0,i,l,l',h=>by cases h;exact⟨[],by simp⟩
 | f+1,i,l,l',h=>by
   rw[goV]at h
   cases hv:l[i]? with
   | none=>rw[hv]at h;cases h;exact⟨[],by simp⟩
   | some v=>
     rw[hv]at h;simp only[zB]at h;obtain⟨m,hm,h⟩:=h;obtain⟨_,s1,rfl⟩:=ziB hm;obtain⟨s2,rfl⟩:=zG2 h;exact⟨s1++s2,by simp⟩
structure HitL (p:Prog) (k:Int) (lim:Nat) (g:Goal) (l0:List Vis) (i:Nat):Prop where
 len:l0.length=i+1
 lm:l0.length<=lim
 fr: ∃n,FrOk l0 n
 hit: ∃v,l0[i]? =some v/\zGi v.c g=true
 no: ∀(j:Nat) (v:Vis),j<i->l0[j]? =some v->zGi v.c g=false
 pre: ∀l,zil p k lim=some l-> ∃s,l=l0++s
theorem zIn (p:Prog):FrOk [v0 p] 0:=by
 refine⟨⟨_,rfl,rfl⟩,fun j v hj hv=> ?_,fun j j' v v' S4 hv BQ=> ?_⟩
 ·have:=(zH.1 hv).1;simp at this;omega
 ·have a:=(zH.1 hv).1;have b:=(zH.1 BQ).1;simp at a b;subst a b;rw[hv]at BQ;cases BQ;exact Int.le_refl _
theorem zIa {p:Prog} {k:Int} {lim:Nat} {g:Goal} {l:List Vis} {d:Vis} {n:Nat} (AG:FrOk (l++[d]) n) (Be: ∀v∈l,zGi v.c g=false) (hm:zGi d.c g=true) (hl:l.length+1<=lim) (hp: ∀l',zil p k lim=some l'-> ∃s,l'=(l++[d])++s):HitL p k lim g (l++[d]) l.length:=by
 refine⟨by simp,by simpa using hl,⟨_,AG⟩,⟨d,by simp,hm⟩,fun j v hj hv=> ?_,hp⟩;rw[List.getElem?_append_left hj]at hv;exact Be v (zL hv)
theorem zH0 (K0:RK) (p:Prog) (hs:p.sane) (hf:zak p=true) (k:Int) (hk:0<=k/\k<=2) (lim:Nat) (h1:1<=lim) (h2:lim<=20000) (g:Goal) (B5:g.thread<p.threads.length) (env:Nat->V) (H:Nat->Option O) (nx:Nat)
 (DA:H K0.ky=some (.loop env [11] zfh .ready)) (e3:env 3= .mp K0.k3 0 0) (e4:env 4= .mp K0.k4 0 0) (e5:env 5= .mp K0.k5 0 0) (e6:env 6= .mp K0.k6 0 0) (e7:env 7= .mp K0.k7 0 0)
 (h3:H K0.k3=some (.rows 1 [[.mp K0.kS 0 0]] false)) (h4:H K0.k4=some (.rows 1 [[vi lim]] false)) (h5:H K0.k5=some (.rows 1 [[.fn 453 [] [.mp K0.kL 0 0]]] false)) (h6:H K0.k6=some (.rows 1 [[vi 0]] false)) (h7:H K0.k7=some (.rows 1 [[vi 0]] false)) (n67:K0.k6≠K0.k7)
 (hSV:H K0.kSV=some (.rows 1 [[.mp K0.kS 0 0]] false)) (hS:H K0.kS=some (.rows 6 [[.t (.sl (p.cells.map Cell.enc)),.t (.sl (p.modules.map Contract.enc)),.t (.sl (p.locks.map Lock.enc)),.t (.sl (p.threads.map Thread.enc)),vi k,.t .nils]] false))
 (hL:H K0.kL=some (.rows 6 [g.cells] false)) (nLS:K0.kL≠K0.kS) (bd:K0.ky<nx/\K0.k3<nx/\K0.k4<nx/\K0.k5<nx/\K0.k6<nx/\K0.k7<nx/\K0.kL<nx/\K0.kS<nx/\K0.kSV<nx):
 ∃r h' n',DenR Γ G 392 [.yl K0.ky,.mp K0.kSV 0 0] H nx=some (r,h',n')/\(nx<=n'/\
  ((∃l,zil p k lim=some l/\(∀v∈l,zGi v.c g=false)/\h' K0.ky=some (.loop env [11] zfh .ready)/\h' K0.k6=some (.rows 1 [[vi 0]] false)/\h' K0.k7=some (.rows 1 [[vi 0]] false))\/
   (∃l0 i,HitL p k lim g l0 i/\RHit K0 p k env h' n' l0 i)\/(zil p k lim=none/\zoC K0 env h'))):=by
 have AE:=zki p hs;obtain⟨b1,b2,b3,b4,b5,b6,b7,b8,b9⟩:=bd;have FT:=zfq hf k
 (refine zay Γ392 rfl ?_;dsimp only[zzR])
 have u1:(K0.kSV=nx+1+1)=False:=eq_false (by omega);have u2:(K0.kSV=nx+1+0)=False:=eq_false (by omega);have u3:(K0.kSV=nx+0)=False:=eq_false (by omega);have u4:(K0.kS=nx+1+1)=False:=eq_false (by omega);have u5:(K0.kS=nx+1+0)=False:=eq_false (by omega);have u6:(K0.kS=nx+0)=False:=eq_false (by omega);simp -dsimp only[go_sem,seval,hSV,hS,AE,u1,u2,u3,u4,u5,u6];obtain⟨K,hK⟩: ∃K:RK,K= { K0 with kY:=nx+0,kSe:=nx+1+1,kM:=nx+1+0 }:=⟨_,rfl⟩
 have keyS:K.ky=K0.ky/\K.k6=K0.k6/\K.k7=K0.k7/\K.kSV=K0.kSV/\K.kS=K0.kS/\K.kY=nx+0/\K.kSe=nx+1+1:=by rw[hK];exact⟨rfl,rfl,rfl,rfl,rfl,rfl,rfl⟩
 obtain⟨t1,t2,t3,t5,t6,t7,t8⟩:=keyS
 have R0: ∀z,nx+1+2<=z->RF K p k lim g env (updC (updC (updC (updC H (nx+0) (some (O.rows 1 [[V.yl K0.ky]] false))) (nx+1+0) (some (O.map []))) (nx+1+1) (some (O.rows 1 [[V.t T.nilm]] false))) (nx+1+1) (some (O.rows 1 [[V.mm (nx+1+0)]] false))) z [] (.t .nils):=fun z hz=>by
  have hh: ∀j,j<nx->updC (updC (updC (updC H (nx+0) (some (O.rows 1 [[V.yl K0.ky]] false))) (nx+1+0) (some (O.map []))) (nx+1+1) (some (O.rows 1 [[V.t T.nilm]] false))) (nx+1+1) (some (O.rows 1 [[V.mm (nx+1+0)]] false)) j=H j:=fun j hj=>by
   rw[zaa,if_neg (by omega),zaa,if_neg (by omega),zaa,if_neg (by omega),zaa,if_neg (by omega)]
  rw[hK];refine⟨(hh _ b1).trans DA,e3,e4,e5,e6,e7,(hh _ b2).trans h3,(hh _ b3).trans h4,(hh _ b4).trans h5,(hh _ b5).trans h6,(hh _ b6).trans h7,n67,(hh _ b9).trans hSV,?_,?_,?_,(hh _ b8).trans hS,.inl ⟨rfl,rfl⟩,(hh _ b7).trans hL,nLS,?_⟩
  ·show updC _ _ _ (nx+0)=_;rw[zaa,if_neg (by omega),zaa,if_neg (by omega),zaa,if_neg (by omega),zaa,if_pos rfl]
  ·show updC _ _ _ (nx+1+1)=_;rw[zaa,if_pos rfl]
  ·show updC _ _ _ (nx+1+0)=_;rw[zaa,if_neg (by omega),zaa,if_neg (by omega),zaa,if_pos rfl];rfl
  ·simp only;omega
 have DE: ∀{H':Nat->Option O} {nx':Nat} {l:List Vis} {vV:V},RF K p k lim g env H' nx' l vV-> ∀d:Vis,IsB p d.c->(∀v∈l,IsB p v.c)->l.length<=lim->
  ∃r h' n',DenR Γ G 393 [.agg [.t (ints d.c.mem),.t (ints d.c.at_),.t (.sl (d.c.buf.map fun b=>[.sl (b.map Entry.enc)])),vi d.fr,vi d.x.thread,vi d.x.step,vi d.x.cell],.mp (nx+1+1) 0 0,.mp K0.kSV 0 0,.mp (nx+0) 0 0] H' nx'=some (r,h',n')/\(nx'<=n'/\if zf9 l d.c then r=vb true/\ ∃vV',RF K p k lim g env h' n' l vV'
  else if l.length=lim then r=vb false/\zoC K env h' else if zGi d.c g then r=vb false/\RHit K p k env h' n' (l++[d]) l.length else r=vb true/\ ∃vV',RF K p k lim g env h' n' (l++[d]) vV'):=fun R d hd Aa hl=>by
  have:=zHo hf B5 R d hd Aa (by omega);rw[t5,t7,t8]at this;exact this
 have Ai: ∀h':Nat->Option O,zoC K env h'->zoC K0 env h':=fun h' ⟨q1,q2,q3⟩=>⟨t1▸q1,t2▸q2,t3▸q3⟩
 have S0: ∀(h':Nat->Option O) (n':Nat) (l:List Vis) (i:Nat),RHit K p k env h' n' l i->RHit K0 p k env h' n' l i:=fun h' n' l i q=>⟨t1▸q.hk,t2▸q.h6,t3▸q.h7,t6▸q.oV⟩
 refine zas (DE (R0 _ (by omega)) (v0 p) FT.b (by simp) (by simp)) ?_;rintro r h' n' ⟨Jt,hq⟩;rw[if_neg (by simp[zf9]),if_neg (by simp;omega)]at hq;have EV: ∀l',zil p k lim=some l'-> ∃s,l'=([]++[v0 p])++s:=fun l' h=>zG2 h
 by_cases S3:zGi (v0 p).c g=true
 ·rw[if_pos S3]at hq;obtain⟨rfl,hR⟩:=hq;simp -dsimp only[go_sem,seval];exact⟨by omega,.inr (.inl ⟨_,_,zIa (l:=[]) (d:=v0 p) (zIn p) (by simp) S3 (by simpa using h1) EV,S0 _ _ _ _ hR⟩)⟩
 rw[if_neg S3]at hq;obtain⟨rfl,vV,R⟩:=hq;rw[List.nil_append]at R;clear R0;simp -dsimp only[go_sem,seval]
 refine zaq 1208925819614629170513760 (lim+1) (fun i f h x=>(f 5).v=vi i/\nx<=x/\ ∃(l:List Vis) (vV:V),RF K p k lim g env h x l vV/\i<=l.length/\1<=l.length/\l.length<=lim/\(∀v∈l,IsK p k v.c)/\zil p k lim=goV p k lim (lim+1-i) i l/\FrOk l i/\ ∀v∈l,zGi v.c g=false) rfl
  ⟨by simp -dsimp only[go_sem,seval],by simp -dsimp only[go_sem,seval];omega,[v0 p],vV,by simp -dsimp only[go_sem,seval];exact R.le (by omega),by simp,by simp,by simpa using h1,fun v hv=>by simp only[List.mem_singleton]at hv;subst hv;exact FT,rfl,zIn p,fun v hv=>by simp only[List.mem_singleton]at hv;subst hv;simpa using S3⟩ ?_
 clear R;rintro i f u H2 x bs hi ⟨MH,ED,l,vV,R,g1,g2,g3,g4,g5,g6,g7⟩;have hw:=zan i (by omega);have r1:=R.hSV;have r2:=R.hS;rw[t5,t6]at r1;rw[t6]at r2;rcases R.oV with⟨_,e1⟩ | ⟨kV,rfl,e2,e3'⟩
 ·have:=zcZ l;rw[e1]at this;simp at this;omega
 rw[zcZ]at R r2
 by_cases Ad:i<l.length
 ·have Af:=eq_true Ad;obtain⟨v,hv,Kg⟩:=zai Ad;have Gm:=g4 v Kg;have Ch:=zh1 p hs hf k hk v.c Gm;have Ap:=zoZ hv;have i0:(0:Int)<=(i:Int):=by omega
  have i1:(i:Int)<(l.length:Int):=by omega
  simp -dsimp only[go_sem,seval,MH,r1,r2,e3',Af,i0,i1,Ap,zcZ,Ch]
  generalize AL:zaK p k v.c=cs at *
  have By:=zen hf (k:=k) Gm.b;rw[<- zd6 Gm,AL]at By;have G8:zjY p k v.c i=cs.map fun x=>⟨(zdk p k v.c x).1,i,x⟩:=by rw[zjY,AL]
  have Ds:zil p k lim=(zgc lim l (zjY p k v.c i)).bind fun l'=>goV p k lim (lim-i) (i+1) l':=by
   rw[g5,show lim+1-i=lim-i+1 by omega,goV,hv]
  refine zaq 1208925818488729267865344 cs.length (fun j f h x=>(f 50).v=vi j/\nx<=x/\ ∃(l':List Vis) (vV:V),RF K p k lim g env h x l' vV/\l'[i]? =some v/\l'.length<=lim/\(∀v∈l',IsK p k v.c)/\zgc lim l (zjY p k v.c i)=zgc lim l' ((zjY p k v.c i).drop j)/\FrOk l' i/\ ∀v∈l',zGi v.c g=false) rfl
   ⟨by simp -dsimp only[go_sem,seval],by simp -dsimp only[go_sem,seval];omega,l,_,by simp -dsimp only[go_sem,seval];exact R.le (by omega),hv,g3,g4,by rw[List.drop_zero],g6,g7⟩ ?_
  rintro j f2 u2 H3 x2 bs2 hj ⟨MG,Qn,l',vV',R',BQ,CE,Ii,Cc,DD,Le⟩;have BO:=zan j (by omega);have r1':=R'.hSV;have r2':=R'.hS;rw[t5,t6]at r1';rw[t6]at r2'
  by_cases AN:j<cs.length
  ·have Ba:=eq_true AN;obtain⟨y,hy,Eq⟩:=zai AN;have Hs:y∈zaK p k v.c:=by rw[AL];exact Eq
   have ED:=zi1 p hs hf k hk v.c Gm y;obtain⟨d,Bt,hd⟩:=zgY hf Gm Hs;rw[Bt]at ED
   have Gb:(zjY p k v.c i).drop j=⟨d,i,y⟩::(zjY p k v.c i).drop (j+1):=by
    have:(zjY p k v.c i)[j]? =some ⟨d,i,y⟩:=by rw[G8,zJ,hy];simp[Bt]
    exact zdo this
   rw[Gb,zgc,ztH]at Cc;simp -dsimp only[go_sem,seval,MG,MH,r1',r2',Ba,hy,ED];refine zas (DE (R'.le (by omega)) ⟨d,i,y⟩ hd.b (fun v hv=>(Ii v hv).b) CE) ?_;rintro r h' n' ⟨Jt,hq⟩;have AV:=(zH.1 BQ).1;cases Dx:zf9 l' d
   ·rw[if_neg (by simp only[Dx];simp)]at hq;rw[if_neg (by simp[Dx])]at Cc
    by_cases AC:l'.length=lim
    ·rw[if_pos AC]at hq;rw[if_pos (by omega),Option.bind_none]at Cc;rw[Cc,Option.bind_none]at Ds;obtain⟨rfl,Dk⟩:=hq;simp -dsimp only[go_sem,seval];exact⟨by omega,.inr (.inr ⟨Ds,Ai _ Dk⟩)⟩
    ·rw[if_neg AC]at hq;rw[if_neg (by omega),zD]at Cc;have LB:FrOk (l'++ [⟨d,i,y⟩]) i:=(DD.add (lim:=lim) (d:=d) (x:=y) AV (by rw[ztH,if_neg (by simp[Dx]),if_neg (by omega)])).1
     by_cases Mt:zGi d g=true
     ·rw[if_pos Mt]at hq;obtain⟨rfl,hR⟩:=hq;simp -dsimp only[go_sem,seval];refine⟨by omega,.inr (.inl ⟨_,_,zIa LB Le Mt (by omega) (fun l2 e=> ?_),S0 _ _ _ _ hR⟩)⟩;rw[Ds,Cc]at e;simp only[zB]at e;obtain⟨m,e1,e2⟩:=e;obtain⟨_,s1,rfl⟩:=ziB e1;obtain⟨s2,rfl⟩:=zG2 e2;exact⟨s1++s2,by simp⟩
     ·rw[if_neg Mt]at hq;obtain⟨rfl,vV2,R2⟩:=hq;simp -dsimp only[go_sem,seval,MG];refine⟨by omega,by simp -dsimp only[go_sem,seval,BO],by simp -dsimp only[go_sem,seval];omega,l'++ [⟨d,i,y⟩],vV2,by simp -dsimp only[go_sem,seval];exact R2.le (by omega),?_,by rw[zM,List.length_singleton];omega,fun v' BQ=> ?_,Cc,LB,fun v' BQ=> ?_⟩
      ·rw[List.getElem?_append_left AV];exact BQ
      ·rcases List.mem_append.1 BQ with h | h
       ·exact Ii v' h
       ·rw[List.mem_singleton]at h;subst h;exact hd
      ·rcases List.mem_append.1 BQ with h | h
       ·exact Le v' h
       ·rw[List.mem_singleton]at h;subst h;simpa using Mt
   ·rw[if_pos (by simp only[Dx])]at hq;rw[if_pos (by simp only[Dx]),zD]at Cc;obtain⟨rfl,vV2,R2⟩:=hq;simp -dsimp only[go_sem,seval,MG];exact⟨by omega,by simp -dsimp only[go_sem,seval,BO],by simp -dsimp only[go_sem,seval];omega,l',vV2,by simp -dsimp only[go_sem,seval];exact R2.le (by omega),BQ,CE,Ii,Cc,DD,Le⟩
  ·have Ba:=eq_false AN;have:j=cs.length:=by omega
   subst this;rw[show(zjY p k v.c i).drop cs.length=[]from List.drop_of_length_le (by rw[G8,List.length_map];omega),zgc]at Cc;rw[Cc,zD]at Ds;have AV:=(zH.1 BQ).1;simp -dsimp only[go_sem,seval,MG,MH,Ba];exact⟨by omega,by simp -dsimp only[go_sem,seval,hw],by simp -dsimp only[go_sem,seval];omega,l',vV',by simp -dsimp only[go_sem,seval];exact R'.le (by omega),by omega,by omega,CE,Ii,by rw[Ds,show lim+1-(i+1)=lim-i by omega],DD.le (by omega),Le⟩
 ·have Af:=eq_false Ad
  have hb:zil p k lim=some l:=by
   rw[g5]
   cases lim+1-i with
   | zero=>rfl
   | succ f=>rw[goV,List.getElem?_eq_none (by omega)]
  simp -dsimp only[go_sem,seval,MH,r1,r2,e3',Af,zcZ];refine⟨by simp -dsimp only[go_sem,seval];omega,.inl ⟨l,hb,g7,?_,?_,?_⟩⟩
  ·rw[<- t1];exact R.hk
  ·rw[<- t2];exact R.h6
  ·rw[<- t3];exact R.h7
theorem zHp (p:Prog) (hs:p.sane) (hf:zak p=true) (k:Int) (hk:0<=k/\k<=2) (lim:Nat) (h1:1<=lim) (h2:lim<=20000) (g:Goal) (B5:g.thread<p.threads.length) (kS kL:Nat) (H:Nat->Option O) (nx:Nat)
 (hS:H kS=some (.rows 6 [[.t (.sl (p.cells.map Cell.enc)),.t (.sl (p.modules.map Contract.enc)),.t (.sl (p.locks.map Lock.enc)),.t (.sl (p.threads.map Thread.enc)),vi k,.t .nils]] false))
 (hL:H kL=some (.rows 6 [g.cells] false)) (nLS:kL≠kS) (bS:kS<nx) (bL:kL<nx):
 ∃r h' n',DenR Γ G 375 [.mp kS 0 0,vi lim,.fn 453 [] [.mp kL 0 0]] H nx=some (r,h',n')/\(nx<=n'/\
  ((∃l,zil p k lim=some l/\(∀v∈l,zGi v.c g=false)/\r= .tup [vi 0,vi 4])\/
   (∃l0 i kV,HitL p k lim g l0 i/\r= .tup [vi i,vi 0]/\h' kS=some (.rows 6 [[.t (.sl (p.cells.map Cell.enc)),.t (.sl (p.modules.map Contract.enc)),.t (.sl (p.locks.map Lock.enc)),.t (.sl (p.threads.map Thread.enc)),vi k,.ms kV 0 l0.length]] false)/\h' kV=some (.rows 7 (zgS l0) false)/\kV<n')\/
   (zil p k lim=none/\r= .tup [vi 0,vi 2]))):=by
 have c1: ∀a b:Nat,a≠b->(nx+a=nx+b)=False:=fun a b h=>eq_false (by omega)
 have d1:=c1 0 4 (by decide);have d2:=c1 0 3 (by decide);have d3:=c1 0 2 (by decide);have d4:=c1 0 1 (by decide)
 (refine zay Γ375 rfl ?_;dsimp only[zz6])
 simp -dsimp only[go_sem,seval,d1,d2,d3,d4];refine zas (ztn kS _ _) ?_;rintro r h' n' ⟨rfl,rfl,hn⟩;simp -dsimp only[go_sem,seval]
 refine znN (P:=fun e h' n2=>nx+5+2<n'/\n'+1<=n2/\((e= .normal/\(∃l,zil p k lim=some l/\ ∀v∈l,zGi v.c g=false)/\h' (nx+3)=some (.rows 1 [[vi 0]] false)/\h' (nx+4)=some (.rows 1 [[vi 0]] false))\/
  (e= .ret/\(∃l0 i kV,HitL p k lim g l0 i/\h' (nx+3)=some (.rows 1 [[vi i]] false)/\h' (nx+4)=some (.rows 1 [[vi 0]] false)/\h' kS=some (.rows 6 [[.t (.sl (p.cells.map Cell.enc)),.t (.sl (p.modules.map Contract.enc)),.t (.sl (p.locks.map Lock.enc)),.t (.sl (p.threads.map Thread.enc)),vi k,.ms kV 0 l0.length]] false)/\h' kV=some (.rows 7 (zgS l0) false)/\kV<n2/\ ∀rs,h' n'≠some (O.rows 7 rs false)))\/
  (e= .ret/\zil p k lim=none/\h' (nx+3)=some (.rows 1 [[vi 0]] false)/\h' (nx+4)=some (.rows 1 [[vi 2]] false)))) ?_ ?_
 ·have hg:=zH0 ⟨n',nx+0,nx+1,nx+2,nx+3,nx+4,kL,kS,nx+5+2,0,0,0⟩ p hs hf k hk lim h1 h2 g B5 (envC (updC (updC (begC (updC (updC (updC (updC (updC (begC (slotsC [V.mp kS 0 0,vi lim,V.fn 453 [] [V.mp kL 0 0]] 0)) 3 ⟨V.mp (nx+0) 0 0,none,none⟩) 4 ⟨V.mp (nx+1) 0 0,none,none⟩) 5 ⟨V.mp (nx+2) 0 0,none,none⟩) 6 ⟨V.mp (nx+3) 0 0,none,none⟩) 7 ⟨V.mp (nx+4) 0 0,none,none⟩)) 9 ⟨V.mp kS 0 0,none,none⟩) 10 ⟨V.fn 392 [] [V.mp (nx+5+2) 0 0],none,none⟩))
   (updC (updC (updC (updC (updC (updC (updC H (nx+0) (some (O.rows 1 [[V.mp kS 0 0]] false))) (nx+1) (some (O.rows 1 [[vi lim]] false))) (nx+2) (some (O.rows 1 [[V.fn 453 [] [V.mp kL 0 0]]] false))) (nx+3) (some (O.rows 1 [[vi 0]] false))) (nx+4) (some (O.rows 1 [[vi 0]] false))) (nx+5+2) (some (O.rows 1 [[V.mp kS 0 0]] false))) n' (some (O.loop _ [11] zfh LSt.ready))) (n'+1)
   (by rw[zaa,if_pos rfl]) (by simp -dsimp only[go_sem,seval]) (by simp -dsimp only[go_sem,seval]) (by simp -dsimp only[go_sem,seval]) (by simp -dsimp only[go_sem,seval]) (by simp -dsimp only[go_sem,seval])
   (by simp only[zaa];repeat(first | rw[if_neg (by omega)] | rw[if_pos (by trivial)])) (by simp only[zaa];repeat(first | rw[if_neg (by omega)] | rw[if_pos (by trivial)])) (by simp only[zaa];repeat(first | rw[if_neg (by omega)] | rw[if_pos (by trivial)]))
   (by simp only[zaa];repeat(first | rw[if_neg (by omega)] | rw[if_pos (by trivial)])) (by simp only[zaa];repeat(first | rw[if_neg (by omega)] | rw[if_pos (by trivial)])) (by simp)
   (by simp only[zaa];repeat(first | rw[if_neg (by omega)] | rw[if_pos (by trivial)])) (by simp only[zaa];(repeat(first | rw[if_neg (by omega)] | rw[if_pos (by trivial)]));exact hS) (by simp only[zaa];(repeat(first | rw[if_neg (by omega)] | rw[if_pos (by trivial)]));exact hL) nLS (by simp only;omega)
  obtain⟨r,h',n2,q1,q2,⟨l,q3,q3',q4,q5,q6⟩ | ⟨l0,i,q3,q4,q5,q6,kV,q7,q8,q9⟩ | ⟨q3,q4,q5,q6⟩⟩:=hg
  ·exact⟨r,h',n2,q1,_,_,_,_,_,q4,rfl,hn,q2,.inl ⟨rfl,⟨l,q3,q3'⟩,q5,q6⟩⟩
  ·exact⟨r,h',n2,q1,_,_,_,_,_,q4,rfl,hn,q2,.inr (.inl ⟨rfl,l0,i,kV,q3,q5,q6,q7,q8,q9,fun rs e=>by rw[show h' n'=some _ from q4]at e;cases e⟩)⟩
  ·exact⟨r,h',n2,q1,_,_,_,_,_,q4,rfl,hn,q2,.inr (.inr ⟨rfl,q3,q5,q6⟩)⟩
 ·have m3:(nx+3=n')=False:=eq_false (by omega);have m4:(nx+4=n')=False:=eq_false (by omega);have m5:(nx+4=nx+3)=False:=eq_false (by omega);have m6:(nx+3=nx+4)=False:=eq_false (by omega);rintro e h' n2 ⟨Cg,Fh,⟨rfl,q1,q2,q3⟩ | ⟨rfl,l0,i,kV,q1,q2,q3,q4,q5,q6,q7⟩ | ⟨rfl,q1,q2,q3⟩⟩
  ·simp -dsimp only[go_sem,seval,q2,q3,m3,m4,m5,m6];obtain⟨l,q1,q1'⟩:=q1;exact⟨by simp -dsimp only[go_sem,seval];omega,.inl ⟨l,q1,q1',rfl⟩⟩
  ·simp -dsimp only[go_sem,seval,q2,q3,m3,m4];have nV:kV≠n':=by rintro rfl;exact q7 _ q5
   exact⟨by omega,.inr (.inl ⟨l0,i,kV,q1,rfl,by rw[zaa,if_neg (by omega)];exact q4,by rw[zaa,if_neg nV];exact q5,q6⟩)⟩
  ·simp -dsimp only[go_sem,seval,q2,q3,m3,m4];exact⟨by omega,.inr (.inr ⟨q1,rfl⟩)⟩
end Rg
end
section
namespace Rg
open Go
end Rg
end
section
set_option maxRecDepth 100000
namespace Rg
open Go
end Rg
end
section
namespace Rg
open Go
end Rg
end
section
namespace Rg
open Go
def zq4 {α:Type} (d:α) (l:List α) (i:Nat):List α:=(List.range l.length).map fun q=>l.getD (if q<i\/l.length<=q+i then l.length-1-q else q) d
theorem zef {α:Type} (d:α) (l:List α) (i:Nat):(zq4 d l i).length=l.length:=by simp[zq4]
theorem zfr {α:Type} (d:α) (l:List α) (i:Nat) {q:Nat} (h:q<l.length):(zq4 d l i)[q]? =some (l.getD (if q<i\/l.length<=q+i then l.length-1-q else q) d):=by
 rw[zq4,zJ,List.getElem?_range h];rfl
theorem zgT {α:Type} (d:α) (l:List α):zq4 d l 0=l:=by
 refine List.ext_getElem (by rw[zef]) fun q h1 h2=> ?_
 have:=zfr d l 0 h2;rw[if_neg (by omega),zK,zI h2,zI h1]at this;simpa using this
theorem zo3 {α:Type} (d:α) (l:List α) {i:Nat} (h:l.length<=i+i+1):zq4 d l i=l.reverse:=by
 refine List.ext_getElem? fun q=> ?_
 by_cases hq:q<l.length
 ·rw[zfr d l i hq,List.getElem?_reverse hq];have:(if q<i\/l.length<=q+i then l.length-1-q else q)=l.length-1-q:=by split<;>omega
  rw[this,zK,zI (show l.length-1-q<l.length by omega)];rfl
 ·rw[List.getElem?_eq_none (by rw[zef];omega),List.getElem?_eq_none (by rw[List.length_reverse];omega)]
theorem zmw {α:Type} (d:α) (l:List α) {i:Nat} (h:i+i+1<l.length):zq4 d l (i+1)=((zq4 d l i).set i (l.getD (l.length-1-i) d)).set (l.length-1-i) (l.getD i d):=by
 refine List.ext_getElem? fun q=> ?_
 by_cases hq:q<l.length
 ·rw[zfr d l _ hq]
  by_cases h1:q=l.length-1-i
  ·subst h1;rw[List.getElem?_set_self (by rw[List.length_set,zef];omega),if_pos (by omega)]
   congr 2;omega
  ·rw[List.getElem?_set_ne (Ne.symm h1)]
   by_cases h2:q=i
   ·subst h2;rw[List.getElem?_set_self (by rw[zef];omega),if_pos (by omega)]
   ·rw[List.getElem?_set_ne (Ne.symm h2),zfr d l _ hq]
    congr 2
    split<;>split<;>omega
 ·rw[List.getElem?_eq_none (by rw[zef];omega),List.getElem?_eq_none (by rw[List.length_set,List.length_set,zef];omega)]
def ch0:Choice:=⟨0,0,0⟩
theorem zli {l:List Choice} {i:Nat} {x:Choice} (h:l[i]? =some x):(zbe l)[i]? =some [vi x.thread,vi x.step,vi x.cell]:=by simp[zbe,h,Choice.enc]
theorem ziQ (l:List Choice) (i:Nat) (x:Choice):(zbe l).set i [vi x.thread,vi x.step,vi x.cell]=zbe (l.set i x):=by simp[zbe,List.map_set,Choice.enc]
theorem zo2 {H:Nat->Option O} {n:Nat} {v:V} {l:List Choice} (ho:zaF H n v 3 (zbe l)) (hl:l.length<2^30):
 ∃r h' n',DenR Γ G 390 [v] H n=some (r,h',n')/\(zaF h' n' v 3 (zbe l.reverse)/\n<=n'/\ ∀j,j<n->zbg v j->h' j=H j):=by
 rcases ho with⟨rfl,e⟩ | ⟨k,rfl,hk,hh⟩
 ·have:l=[]:=by simpa[zbe]using e
  subst this
  (refine zay Γ390 rfl ?_;dsimp only[zyO])
  simp -dsimp only[go_sem,seval];refine zaq 268435340 0 (fun i f h x=>(f 2).v=vi 0/\(f 3).v=vi (-1)/\n<=x/\h=H) rfl ⟨by simp -dsimp only[go_sem,seval],by simp -dsimp only[go_sem,seval],by simp -dsimp only[go_sem,seval];try omega,by simp -dsimp only[go_sem,seval]⟩ ?_;rintro i f u h x bs hi ⟨h2,h3,hx,rfl⟩;simp -dsimp only[go_sem,seval,h2,h3];exact⟨.inl ⟨rfl,rfl⟩,by simp -dsimp only[go_sem,seval];omega,fun j _ _=>rfl⟩
 ·rw[zbX]at *
  (refine zay Γ390 rfl ?_;dsimp only[zyO])
  have MP:=zaH (n:=(l.length:Int)-1) (by omega);simp -dsimp only[go_sem,seval,hh];refine zaq 268435340 l.length (fun i f h x=>(f 2).v=vi i/\(f 3).v=vi ((l.length:Int)-1-i)/\h k=some (.rows 3 (zbe (zq4 ch0 l i)) false)/\n<=x/\(i=0\/i+i<=l.length)/\ ∀j,j<n->zbg (.ms k 0 l.length) j->h j=H j) rfl ⟨by simp -dsimp only[go_sem,seval],by simp -dsimp only[go_sem,seval,MP];simp,by first | (rw[zgT];exact hh) | (simp -dsimp only[go_sem,seval];rw[zgT];exact hh),by first | omega | (simp -dsimp only[go_sem,seval];omega),.inl rfl,fun j _ _=>rfl⟩ ?_;rintro i f u h x bs hi ⟨h2,h3,h1,hx,Kr,A8⟩
  by_cases Ad:i+i+1<l.length
  ·obtain⟨m,hm⟩: ∃m,m=l.length-1-i:=⟨_,rfl⟩
   have BV:(f 3).v=vi m:=by rw[h3,hm];congr 2;congr 1;omega
   have Af:((i:Int)<(m:Int))=True:=eq_true (by omega);have EG:m<l.length:=by omega
   have B8:i<l.length:=by omega
   have a1:=zli (zfr ch0 l i EG);have a2:=zli (zfr ch0 l i B8);rw[if_neg (by omega)]at a1 a2;have Cj:=zan i (by omega);have BO:=zaH (n:=(m:Int)-1) (by omega);have st:=zmw ch0 l Ad;have a3:((zbe (zq4 ch0 l i)).set i [vi (l.getD m ch0).thread,vi (l.getD m ch0).step,vi (l.getD m ch0).cell])[m]? =some [vi (l.getD m ch0).thread,vi (l.getD m ch0).step,vi (l.getD m ch0).cell]:=by rw[List.getElem?_set_ne (by omega)];exact a1
   simp -dsimp only[go_sem,seval,h2,BV,Af,h1,eq_true EG,eq_true B8,a1,a2,a3,zef,zbX];refine⟨by omega,by simp -dsimp only[go_sem,seval,Cj],by simp -dsimp only[go_sem,seval,BO];omega,?_,by simp -dsimp only[go_sem,seval];omega,.inr (by omega),fun j hj FB=> ?_⟩
   ·rw[st,<- ziQ,<- ziQ,<- hm];simp -dsimp only[go_sem,seval]
   ·have:j≠k:=by rintro rfl;exact FB _ _ rfl
    simp -dsimp only[go_sem,seval,this];exact A8 j hj FB
  ·have Af:((i:Int)<(l.length:Int)-1-i)=False:=eq_false (by omega);simp -dsimp only[go_sem,seval,h2,h3,Af,h1];rw[zo3 ch0 l (by omega)]at h1;exact⟨.inr ⟨k,by rw[zbX,List.length_reverse],by simp -dsimp only[go_sem,seval];omega,h1⟩,by simp -dsimp only[go_sem,seval];omega,A8⟩
set_option maxHeartbeats 4000000 in
theorem zHd (p:Prog) (hs:p.sane) (hf:zak p=true) (k:Int) (hk:0<=k/\k<=2) (lim:Nat) (h1:1<=lim) (h2:lim<=20000) (g:Goal) (Dh:zGM p g=true):
 (∃l,zil p k lim=some l/\(∀v∈l,zGi v.c g=false)/\Den Γ G 444 [(zP p),vi k,.agg g.cells,vi lim]=some (.tup [.t (.sl []),vi 4]))\/
 (∃l0 i,HitL p k lim g l0 i/\Den Γ G 444 [(zP p),vi k,.agg g.cells,vi lim]=some (if(zGk l0 i).length>120 then .tup [.t (.sl []),vi 2]else .tup [.t (.sl ((zGk l0 i).map Choice.enc)),vi 0]))\/
 (zil p k lim=none/\Den Γ G 444 [(zP p),vi k,.agg g.cells,vi lim]=some (.tup [.t (.sl []),vi 2])):=by
 have BH:=zmH p hs hf k hk lim h1 h2;obtain⟨⟨_,_,_,l4⟩,_⟩:=zal (zam hf).1;have G3:=zGL p g (by omega);rw[Dh]at G3
 have B5:g.thread<p.threads.length:=by
  rw[zGM]at Dh;simp only[zF,decide_eq_true_eq]at Dh;exact Dh.1.1.2
 obtain⟨r,h',n',hd,hn,hc⟩:=zHp p hs hf k hk lim h1 h2 g B5 18 1
  (updC (updC (fun x=>none) 1 (some (O.rows 6 [[vi g.thread,vi g.point,V.t (ti g.expr.op),V.t (ti g.expr.w),V.t (ti g.expr.n),V.t (T.sl (List.map Expr.enc g.expr.kids))]] false))) 18 (some (O.rows 6 [[V.t (T.sl (List.map Cell.enc p.cells)),V.t (T.sl (List.map Contract.enc p.modules)),V.t (T.sl (List.map Lock.enc p.locks)),V.t (T.sl (List.map Thread.enc p.threads)),V.t (T.int IntKind.i64 k),zn]] false))) 29
  (by rw[zaa,if_pos rfl]) (by rw[zaa,if_neg (by decide),zaa,if_pos rfl];rfl) (by decide) (by decide) (by decide)
 unfold Goal.cells at G3⊢;rcases hc with⟨l,c1,c2,rfl⟩ | ⟨l0,i,kV,c1,rfl,c2,c3,c4⟩ | ⟨c1,rfl⟩
 ·refine .inl ⟨l,c1,c2,?_⟩
  (refine zag Γ444 rfl ?_;dsimp only[zIi])
  simp -dsimp only[go_sem,seval,BH,G3];refine zas (P:=fun a b c=>a=_/\b=h'/\c=n') ⟨_,_,_,hd,rfl,rfl,rfl⟩ ?_;rintro _ _ _ ⟨rfl,rfl,rfl⟩;simp -dsimp only[go_sem,seval]
  done
 ·refine .inr (.inl ⟨l0,i,c1,?_⟩)
  (refine zag Γ444 rfl ?_;dsimp only[zIi])
  simp -dsimp only[go_sem,seval,BH,G3];refine zas (P:=fun a b c=>a=_/\b=h'/\c=n') ⟨_,_,_,hd,rfl,rfl,rfl⟩ ?_;rintro _ hz nz ⟨rfl,rfl,rfl⟩;simp -dsimp only[go_sem,seval];obtain⟨nF,Q1⟩:=c1.fr;have Ac:=c1.len;have Hy:=c1.lm
  refine zaq 147573952039920609280 (zGq l0 (i+1) i).length (fun j f h x=> ∃(c:Nat) (cv:Vis),l0[c]? =some cv/\(f 11).v=vi c/\zaF h x (f 13).v 3 (zbe ((zGq l0 (i+1) i).take j))/\(zGq l0 (i+1) i).drop j=zGq l0 (c+1) c/\nz<=x/\(∀q,q<nz->h q=hz q)/\ ∀q,q<nz->zbg (f 13).v q) rfl
   ⟨i,l0[i]'(by omega),zI _,by simp -dsimp only[go_sem,seval],by simp -dsimp only[go_sem,seval];exact .inl ⟨rfl,by simp[zbe]⟩,rfl,by simp -dsimp only[go_sem,seval];omega,fun q _=>rfl,fun q _=>by simp -dsimp only[go_sem,seval];intro a b e;cases e⟩ ?_
  rintro j f u h x bb hj ⟨c,cv,S1,Bg,hO,hB,hx,A8,Bn⟩;have By:=(zH.1 S1).1;have Ap:=zoZ S1;have i0:(0:Int)<=(c:Int):=by omega
  have i1:(c:Int)<(l0.length:Int):=by omega
  have e1:=(A8 18 (by omega)).trans c2;have e2:=(A8 kV c4).trans c3;rcases Q1.fr S1 with⟨CM,LF⟩ | ⟨CM,LF,Ad,cu,SJ⟩
  ·have FX:(cv.fr>=0)=False:=eq_false (by omega)
   have H1:j=(zGq l0 (i+1) i).length:=by
    have:(zGq l0 (i+1) i).drop j=[]:=by rw[hB,zGq,S1];simp only;rw[if_pos LF]
    have:=List.drop_eq_nil_iff.1 this;omega
   rw[H1,List.take_length]at hO;have hv:=hO.valOf;have BX:=hO.lenS;rw[zbX]at BX;have BL:(zGk l0 i).length=(zGq l0 (i+1) i).length:=by rw[zGk,List.length_reverse]
   by_cases Im:(((zGq l0 (i+1) i).length:Nat):Int)>120
   ·rw[if_pos (by omega)];simp -dsimp only[go_sem,seval,Bg,e1,e2,zcZ,i0,i1,Ap,FX,hv,BX,Im]
    done
   ·rw[if_neg (by omega)];simp -dsimp only[go_sem,seval,Bg,e1,e2,zcZ,i0,i1,Ap,FX,hv,BX,Im];refine zas (zo2 (hO.le (by omega)) (by omega)) ?_;rintro r h2 n2 ⟨Cz,_,_⟩;have hR: ∀L:List Choice,(zbe L).mapM (fun row=>row.mapM (toT h2 999))=some (L.map Choice.enc):=fun L=>zdJ h2 999 _ (zcN _)
    rcases Cz with⟨h4,e0⟩ | ⟨kk,h4,_,AB⟩
    ·have:(zGq l0 (i+1) i).reverse=[]:=by simpa[zbe]using e0
     simp -dsimp only[go_sem,seval,h4];rw[zGk,this];rfl
    ·simp -dsimp only[go_sem,seval,h4,AB];rw[if_pos (Nat.le_refl _),List.take_length,zD,hR];rfl
  ·have FX:(cv.fr>=0)=True:=eq_true (by omega);have hv:=hO.valOf
   have SM:zGq l0 (c+1) c=cv.x::zGq l0 (cv.fr.toNat+1) cv.fr.toNat:=by
    rw[zGq,S1];simp only;rw[if_neg LF,Q1.bck c (cv.fr.toNat+1) _ Ad (by omega)]
   rw[SM]at hB
   have AN:j<(zGq l0 (i+1) i).length:=by
    rcases Nat.lt_or_ge j (zGq l0 (i+1) i).length with h | h
    ·exact h
    ·rw[List.drop_of_length_le h]at hB;cases hB
   have SN:(zGq l0 (i+1) i)[j]? =some cv.x:=by
    have:=congrArg (fun z=>z[0]?) hB;simpa using this
   have ht:(zGq l0 (i+1) i).take (j+1)=(zGq l0 (i+1) i).take j++[cv.x]:=by rw[List.take_add_one,SN];rfl
   have Kx:(zGq l0 (i+1) i).drop (j+1)=zGq l0 (cv.fr.toNat+1) cv.fr.toNat:=by
    have:=congrArg (List.drop 1) hB;rw[List.drop_drop]at this;simpa using this
   have AG:cv.fr=((cv.fr.toNat:Nat):Int):=by omega
   have SF:(zGq l0 (i+1) i).length<=20000:=by
    rw[zGK]
    have : ∀f c,zHt l0 f c<=f:=by
     intro f
     induction f with
     | zero=>intro c;exact Nat.le_refl _
     | succ f ih=>
       intro c;rw[zHt];split
       ·split
        ·omega
        ·exact Nat.succ_le_succ (ih _)
       ·omega
    have:=this (i+1) i;omega
   have r1:=(hO.upd (q:=x+9+9) (by omega) (some (O.rows 3 [[vi cv.x.thread,vi cv.x.step,vi cv.x.cell]] false))).rowsS;simp -dsimp only[go_sem,seval,Bg,e1,e2,zcZ,i0,i1,Ap,FX,hv,r1];refine zav (hO.upd (q:=x+9+9) (by omega) _) (by omega) (by rw[zbX,List.length_take];omega) (by decide) rfl (zd0 _) ?_;intro v hp hP Jp GK;have w1:=hP.valOf;have w2:=hP.cellsV;unfold V.cells at w2;have y1:=GK 18 (by omega) (Bn 18 (by omega));rw[zaa,if_neg (by omega),e1]at y1;have y2:=GK kV (by omega) (Bn kV c4);rw[zaa,if_neg (by omega),e2]at y2;simp -dsimp only[go_sem,seval,w1,w2,y1,y2,Bg,zcZ,i0,i1,Ap];refine⟨AN,cv.fr.toNat,cu,SJ,by simp -dsimp only[go_sem,seval,<- AG],?_,Kx,by simp -dsimp only[go_sem,seval];omega,fun q hq=> ?_,fun q hq=> ?_⟩
   ·rw[ht,zcY];simp -dsimp only[go_sem,seval];exact hP.le (by omega)
   ·simp -dsimp only[go_sem,seval];rw[GK q (by omega) (Bn q hq),zaa,if_neg (by omega),A8 q hq]
   ·simp -dsimp only[go_sem,seval];exact Jp q (by omega)
 ·refine .inr (.inr ⟨c1,?_⟩)
  (refine zag Γ444 rfl ?_;dsimp only[zIi])
  simp -dsimp only[go_sem,seval,BH,G3];refine zas (P:=fun a b c=>a=_/\b=h'/\c=n') ⟨_,_,_,hd,rfl,rfl,rfl⟩ ?_;rintro _ _ _ ⟨rfl,rfl,rfl⟩;simp -dsimp only[go_sem,seval]
  done
theorem zHM (p:Prog) (hs:p.sane) (hf:zak p=true) (k:Int) (hk:0<=k/\k<=2) (lim:Nat) (h1:1<=lim) (h2:lim<=20000) (g:Goal) (Dh:zGM p g=false):
 Den Γ G 444 [(zP p),vi k,.agg g.cells,vi lim]=some (.tup [.t (.sl []),vi 1]):=by
 have BH:=zmH p hs hf k hk lim h1 h2;obtain⟨⟨_,_,_,l4⟩,_⟩:=zal (zam hf).1;have G3:=zGL p g (by omega);rw[Dh]at G3;unfold Goal.cells at G3⊢
 (refine zag Γ444 rfl ?_;dsimp only[zIi])
 simp -dsimp only[go_sem,seval,BH,G3]
 done
end Rg
end
section
namespace Rg
open Go
def zGI (x:Choice):Bool:=decide (x=⟨0,0,0⟩)||(decide (0<=x.thread)&&decide (x.thread<4)&&if x.step= -1 then decide (0<=x.cell)&&decide (x.cell<32)else decide (0<=x.step)&&decide (x.step<64)&&decide (x.cell=0))
theorem zGz (x:Choice):Den Γ G 456 [.agg [vi x.thread,vi x.step,vi x.cell]]=some (vb (zGI x)):=by
 obtain⟨t,s,c⟩:=x
 (refine zag Γ456 rfl ?_;dsimp only[zIC])
 simp -dsimp only[go_sem,seval];have e:zGI ⟨t,s,c⟩=(decide (t=0/\s=0/\c=0)||(decide (0<=t)&&decide (t<4)&&if s= -1 then decide (0<=c)&&decide (c<32)else decide (0<=s)&&decide (s<64)&&decide (c=0))):=by simp[zGI]
 rw[e]
 by_cases h0:t=0/\s=0/\c=0
 ·obtain⟨rfl,rfl,rfl⟩:=h0;simp -dsimp only[go_sem,seval,Bool.bne_false]
  try rfl
 ·have h1:(decide (t=0)&&(decide (s=0)&&decide (c=0)))=false:=by
   rw[<- Bool.decide_and,<- Bool.decide_and];exact decide_eq_false h0
  rw[decide_eq_false h0,Bool.false_or];simp -dsimp only[go_sem,seval,h1,Bool.bne_false]
  repeat'(refine zac (fun h=> ?_) (fun h=> ?_)<;>(try rw[h])<;>(try simp only[zah]at h)<;>(try simp -dsimp only[go_sem,seval]))
  all_goals first | (simp[*];done) | (simp[*];omega) | omega | skip
theorem zHN (n:Nat) (h:n<=1099511627776):((n:Int)<=1099511627776)=True:=eq_true (by omega)
def zGp (x:Choice):List UInt8:=if x.step= -1 then num x.thread++33::num x.cell else num x.thread++46::num x.step
theorem zHP (x:Choice) (h1:0<=x.thread/\x.thread<4) (h2: -1<=x.step/\x.step<64) (h3:0<=x.cell/\x.cell<64):Den Γ G 458 [.agg [vi x.thread,vi x.step,vi x.cell]]=some (.t (.str (bs (zGp x)))):=by
 obtain⟨t,s,c⟩:=x;simp only at h1 h2 h3;have i1:=zuI t (by omega);have i2:=zuI s (by omega);have i3:=zuI c (by omega);have l1:=zwL t (by omega);have l2:=zwL s (by omega);have l3:=zwL c (by omega)
 (refine zag Γ458 rfl ?_;dsimp only[zIA])
 unfold zGp
 by_cases hs:s= -1
 ·subst hs;simp -dsimp -implicitDefEqProofs (disch:=first | omega | (simp only[zM,List.length_cons,List.length_nil];omega) | simp only[go_sem,seval]) only[go_sem,seval,i1,i3,zHN];simp
 ·have Gv:=eq_false hs;simp -dsimp -implicitDefEqProofs (disch:=first | omega | (simp only[zM,List.length_cons,List.length_nil];omega) | simp only[go_sem,seval]) only[go_sem,seval,i1,i2,Gv,zHN];simp
theorem zGv (l:List UInt8) (i:Nat):(bs l)[i]? =l[i]? :=by
 by_cases h:i<l.length
 ·rw[getElem?_pos (bs l) i (by rw[zxe];exact h),zI h];show some (l.toArray[i]'(by simpa using h))=_;simp
 ·rw[getElem?_neg (bs l) i (by rw[zxe];exact h),List.getElem?_eq_none (by omega)]
theorem zG0 (a:UInt8) (ha:48<=a.toNat/\a.toNat<=57):Den Γ G 463 [.t (.str (bs [a]))]=some (.tup [vi (a.toNat-48),vb true]):=by
 (refine zag Γ463 rfl ?_;dsimp only[zIr])
 simp -dsimp only[go_sem,seval,zGv];refine zaD ?_;have e1:IntKind.u8.wrap ((a.toNat:Int)-48)=(a.toNat:Int)-48:=by show((a.toNat:Int)-48) % 256=_;omega
 have e2:IntKind.i64.wrap ((a.toNat:Int)-48)=(a.toNat:Int)-48:=zaH (by omega);simp -dsimp only[go_sem,seval,zGv,e1,e2];refine zaD ?_;simp -dsimp only[go_sem,seval,zGv,e1,e2];rw[Int.zero_add];exact e2
theorem zGZ (a b:UInt8) (ha:49<=a.toNat/\a.toNat<=57) (hb:48<=b.toNat/\b.toNat<=57):Den Γ G 463 [.t (.str (bs [a,b]))]=some (.tup [vi (10*(a.toNat-48)+(b.toNat-48)),vb true]):=by
 (refine zag Γ463 rfl ?_;dsimp only[zIr])
 have OJ:((a.toNat:Int)=48)=False:=eq_false (by omega);simp -dsimp only[go_sem,seval,zGv,OJ,decide_false];refine zaD ?_;have e1:IntKind.u8.wrap ((a.toNat:Int)-48)=(a.toNat:Int)-48:=by show((a.toNat:Int)-48) % 256=_;omega
 have e2:IntKind.i64.wrap ((a.toNat:Int)-48)=(a.toNat:Int)-48:=zaH (by omega);have f1:IntKind.u8.wrap ((b.toNat:Int)-48)=(b.toNat:Int)-48:=by show((b.toNat:Int)-48) % 256=_;omega
 have f2:IntKind.i64.wrap ((b.toNat:Int)-48)=(b.toNat:Int)-48:=zaH (by omega);have g1:IntKind.i64.wrap (10*((a.toNat:Int)-48))=10*((a.toNat:Int)-48):=zaH (by omega);have g2:IntKind.i64.wrap (10*((a.toNat:Int)-48)+((b.toNat:Int)-48))=10*((a.toNat:Int)-48)+((b.toNat:Int)-48):=zaH (by omega);simp -dsimp only[go_sem,seval,zGv,e1,e2];refine zaD ?_;simp -dsimp only[go_sem,seval,zGv,f1,f2,g1,g2];refine zaD ?_;simp -dsimp only[go_sem,seval,zGv];rw[Int.zero_add,e2,g1];exact g2
theorem zIb (l:List UInt8) (i j:Nat):(bs l).extract i j=bs ((l.take j).drop i):=by
 apply ByteArray.ext;simp[bs,List.extract_toArray,List.drop_take]
theorem zHq (A B:List UInt8) (c:UInt8) (t n:Int) (hA:Den Γ G 463 [.t (.str (bs A))]=some (.tup [vi t,vb true])) (hB:Den Γ G 463 [.t (.str (bs B))]=some (.tup [vi n,vb true])) (lA:A.length<=100) (lB:B.length<=100)
 (x:Choice) (hx:x=if c=33 then⟨t,-1,n⟩else⟨t,n,0⟩):
 Den Γ G 460 [.t (.str (bs (A++c::B))),vi A.length]=some (.tup [.agg [vi x.thread,vi x.step,vi x.cell],vb (zGI x)]):=by
 have hw:=zGz x;have FZ:(A++c::B).length=A.length+1+B.length:=by simp;omega
 have h1:((A.length:Int)<=((A.length+1+B.length:Nat):Int))=True:=eq_true (by omega);have h2:(bs (A++c::B)).extract 0 A.length=bs A:=by rw[zIb];simp
 have h3:IntKind.i64.wrap ((A.length:Int)+1)=((A.length+1:Nat):Int):=zaH (by omega)
 have h4:(bs (A++c::B)).extract (A.length+1) (A.length+1+B.length)=bs B:=by
  rw[zIb,<- FZ,List.take_length,show A++c::B=(A++[c])++B by simp,List.drop_left' (by simp)]
 have h5:(((A.length+1:Nat):Int)<=((A.length+1+B.length:Nat):Int))=True:=eq_true (by omega);have h6:(bs (A++c::B))[A.length]? =some c:=by rw[zGv];simp
 have h7:((c.toNat:Int)=33)=(c=33):=propext ⟨fun h=>UInt8.toNat_inj.1 (by simpa using Int.ofNat.inj h),fun h=>by rw[h];rfl⟩
 (refine zag Γ460 rfl ?_;dsimp only[zIz])
 by_cases hc:c=33
 ·rw[if_pos hc]at hx;subst hx;have h8:=eq_true hc;simp -dsimp only[go_sem,seval,hA,hB,FZ,h1,h2,h3,h4,h5,h6,h7,Int.le_refl,h8,hw]
  done
 ·rw[if_neg hc]at hx;subst hx;have h8:=eq_false hc;simp -dsimp only[go_sem,seval,hA,hB,FZ,h1,h2,h3,h4,h5,h6,h7,Int.le_refl,h8,hw]
  done
theorem zHH: ∀z:_root_.Fin 64,(z.1<10/\num z.1=[UInt8.ofNat (48+z.1)])\/(10<=z.1/\num z.1=[UInt8.ofNat (48+z.1/ 10),UInt8.ofNat (48+z.1 % 10)]):=by decide+kernel
theorem zHv {n:Nat} (h:n<256):(UInt8.ofNat n).toNat=n:=by simp[UInt8.toNat_ofNat'];omega
theorem zG8 {z:Int} (h:0<=z/\z<64):Den Γ G 463 [.t (.str (bs (num z)))]=some (.tup [vi z,vb true])/\(num z).length<=2/\1<=(num z).length/\ ∀b∈num z,48<=b.toNat/\b.toNat<=57:=by
 obtain⟨n,rfl⟩:=Int.eq_ofNat_of_zero_le h.1;have hn:n<64:=by omega
 rcases zHH ⟨n,hn⟩with⟨h1,h2⟩ | ⟨h1,h2⟩
 ·simp only at h1 h2;have e:=zHv (n:=48+n) (by omega);refine⟨?_,by rw[h2];simp,by rw[h2];simp,fun b hb=> ?_⟩
  ·rw[h2];refine(zG0 (UInt8.ofNat (48+n)) (by omega)).trans ?_;rw[e,show(((48+n:Nat):Int)-48)=(n:Int)by omega]
  ·rw[h2,List.mem_singleton]at hb;subst hb;omega
 ·simp only at h1 h2;have e:=zHv (n:=48+n/ 10) (by omega);have e':=zHv (n:=48+n % 10) (by omega);refine⟨?_,by rw[h2];simp,by rw[h2];simp,fun b hb=> ?_⟩
  ·rw[h2];refine(zGZ (UInt8.ofNat (48+n/ 10)) (UInt8.ofNat (48+n % 10)) (by omega) (by omega)).trans ?_;rw[e,e',show(10*(((48+n/ 10:Nat):Int)-48)+(((48+n % 10:Nat):Int)-48))=(n:Int)by omega]
  ·rw[h2,List.mem_cons,List.mem_singleton]at hb;rcases hb with rfl | rfl<;>omega
theorem zGA {x:Choice}:zGI x=true<->(0<=x.thread/\x.thread<4)/\((x.step= -1/\0<=x.cell/\x.cell<32)\/(0<=x.step/\x.step<64/\x.cell=0)):=by
 obtain⟨t,s,c⟩:=x;simp only[zGI,Bool.or_eq_true,zF,decide_eq_true_eq,Choice.mk.injEq];constructor
 ·rintro(⟨rfl,rfl,rfl⟩ | ⟨⟨h1,h2⟩,h3⟩)
  ·omega
  ·split at h3
   ·simp only[zF,decide_eq_true_eq]at h3;omega
   ·simp only[zF,decide_eq_true_eq]at h3;omega
 ·rintro⟨⟨h1,h2⟩,h3⟩;refine .inr ⟨⟨h1,h2⟩,?_⟩;split
  ·simp only[zF,decide_eq_true_eq];omega
  ·simp only[zF,decide_eq_true_eq];omega
def zHs (x:Choice):UInt8:=if x.step= -1 then 33 else 46
def zH1 (x:Choice):List UInt8:=if x.step= -1 then num x.cell else num x.step
theorem zGu (x:Choice):zGp x=num x.thread++zHs x::zH1 x:=by
 unfold zGp zHs zH1;split<;>rfl
structure WordOk (x:Choice):Prop where
 a:(num x.thread).length<=2/\1<=(num x.thread).length/\ ∀b∈num x.thread,48<=b.toNat/\b.toNat<=57
 b:(zH1 x).length<=2/\1<=(zH1 x).length/\ ∀b∈zH1 x,48<=b.toNat/\b.toNat<=57
 den:Den Γ G 460 [.t (.str (bs (zGp x))),vi (num x.thread).length]=some (.tup [.agg [vi x.thread,vi x.step,vi x.cell],vb true])
theorem zHu {x:Choice} (h:zGI x=true):WordOk x:=by
 obtain⟨h1,h2⟩:=zGA.1 h;obtain⟨a1,a2⟩:=zG8 (z:=x.thread) (by omega)
 have hb: ∃n,0<=n/\n<64/\zH1 x=num n/\x=if zHs x=33 then⟨x.thread,-1,n⟩else⟨x.thread,n,0⟩:=by
  obtain⟨t,s,c⟩:=x;simp only at h1 h2;rcases h2 with⟨rfl,g1,g2⟩ | ⟨g1,g2,rfl⟩
  ·exact⟨c,g1,by omega,by simp[zH1],by simp[zHs]⟩
  ·have:s≠ -1:=by omega
   exact⟨s,g1,g2,by simp[zH1,this],by simp[zHs,this]⟩
 obtain⟨n,n0,n1,n2,n3⟩:=hb;obtain⟨b1,b2⟩:=zG8 (z:=n) ⟨n0,n1⟩;refine⟨a2,by rw[n2];exact b2,?_⟩;have:=zHq (num x.thread) (num n) (zHs x) x.thread n a1 b1 (by omega) (by omega) x n3;rw[h]at this;rw[zGu,n2];exact this
theorem zGt {x:Choice} (h:zGI x=true):(zGp x).length<=5/\3<=(zGp x).length:=by
 have w:=zHu h;rw[zGu,zM,List.length_cons];have:=w.a;have:=w.b;omega
theorem zG7 {x:Choice} (h:zGI x=true): ∀b∈zGp x,b≠32:=by
 have w:=zHu h;intro b hb e;subst e;rw[zGu,List.mem_append,List.mem_cons]at hb;rcases hb with hb | hb | hb
 ·have:=(w.a.2.2 _ hb).1;exact absurd this (by decide)
 ·unfold zHs at hb;split at hb<;>exact absurd hb (by decide)
 ·have:=(w.b.2.2 _ hb).1;exact absurd this (by decide)
def zGn:List Choice->List UInt8
 | []=>[]
 | [x]=>zGp x
 | x::y::r=>zGp x++32::zGn (y::r)
theorem zHb: ∀(w:List UInt8),(∀b∈w,b≠32)->Go.Lib.index w [32]= -1
 | [],_=>rfl
 | b::w,h=>by
   have hb:=h b (by simp);have ih:=zHb w fun c hc=>h c (by simp[hc])
   rw[Go.Lib.index,ih];have:List.isPrefixOf [32] (b::w)=false:=by simp[List.isPrefixOf];exact fun e=>hb e.symm
   rw[this];rfl
theorem zHc: ∀(w r:List UInt8),(∀b∈w,b≠32)->Go.Lib.index (w++32::r) [32]=w.length
 | [],r,_=>by
   show Go.Lib.index (32::r) [32]=0
   rw[Go.Lib.index,if_pos (by simp[List.isPrefixOf])]
 | b::w,r,h=>by
   have hb:=h b (by simp);have ih:=zHc w r fun c hc=>h c (by simp[hc])
   show Go.Lib.index (b::(w++32::r)) [32]=_;rw[Go.Lib.index,ih];have:List.isPrefixOf [32] (b::(w++32::r))=false:=by simp[List.isPrefixOf];exact fun e=>hb e.symm
   have h2:(((w.length:Int))== -1)=false:=by rw[beq_eq_false_iff_ne];omega
   rw[this,h2];simp
theorem zH4 {w:List UInt8} (h: ∀b∈w,b≠32):Go.Lib.cut w [32]=(w,[],false):=by
 rw[Go.Lib.cut,zHb w h];rfl
theorem zH3 {w:List UInt8} (r:List UInt8) (h: ∀b∈w,b≠32):Go.Lib.cut (w++32::r) [32]=(w,r,true):=by
 rw[Go.Lib.cut,zHc w r h,if_pos (by omega)];simp
theorem zH2 (x:Choice) (r:List Choice) (h:zGI x=true):Go.Lib.cut (zGn (x::r)) [32]=(zGp x,zGn r,decide (r≠[])):=by
 cases r with
 | nil=>exact zH4 (zG7 h)
 | cons y r=>exact zH3 (zGn (y::r)) (zG7 h)
theorem zGC: ∀(run:List Choice),(∀x∈run,zGI x=true)->(zGn run).length<=6*run.length
 | [],_=>by simp[zGn]
 | [x],h=>by have:=zGt (h x (by simp));simp only[zGn,List.length_singleton];omega
 | x::y::r,h=>by
   have:=zGt (h x (by simp));have ih:=zGC (y::r) fun z hz=>h z (by simp only[List.mem_cons]at hz⊢;exact .inr hz)
   simp only[zGn,zM,List.length_cons]at ih⊢;omega
theorem zGr {p:Prog} (hf:zak p=true) {k:Int}: ∀(r:List Choice) (c:Config),IsK p k c-> ∀(n:Nat) (d:Config),(c::(zGm p k c r).1)[n]? =some d->n<=r.length/\okC p k c (r.take n)/\d=zHU p k c (r.take n)/\IsK p k d
 | r,c,hc,0,d,h=>by
   cases h
   exact⟨Nat.zero_le _,by rw[List.take_zero];trivial,by rw[List.take_zero];rfl,hc⟩
 | [],c,hc,n+1,d,h=>by simp[zGm]at h
 | x::r,c,hc,n+1,d,h=>by
   rw[List.getElem?_cons_succ,zGm]at h;split at h
   ·rename_i h0;have hx:=(zGS hf hc x).1 h0;obtain⟨a1,a2,a3,a4⟩:=zGr hf r _ (zGB hf hc hx).1 n d h;exact⟨by simpa using a1,by rw[List.take_succ_cons];exact⟨hx,a2⟩,by rw[List.take_succ_cons];exact a3,a4⟩
   ·simp at h
theorem zHA {p:Prog} (hf:zak p=true) {k:Int}: ∀(r:List Choice) (c:Config),IsK p k c->okC p k c r->(zGm p k c r).2=true/\(zGm p k c r).1.length=r.length
 | [],c,hc,_=>⟨rfl,rfl⟩
 | x::r,c,hc,h=>by
   have h0:=(zGS hf hc x).2 h.1;obtain⟨a1,a2⟩:=zHA hf r _ (zGB hf hc h.1).1 h.2;rw[zGm,if_pos h0];exact⟨a1,by simpa using a2⟩
theorem zHf {l0 s:List Vis}: ∀(f j:Nat) {n:Nat},FrOk l0 n->j<l0.length->zGq (l0++s) f j=zGq l0 f j
 | 0,j,n,_,_=>rfl
 | f+1,j,n,h,hj=>by
   rw[zGq,zGq,List.getElem?_append_left hj];have hv:l0[j]? =some l0[j]:=zI hj;rw[hv];simp only;rcases h.fr hv with⟨_,h1⟩ | ⟨h0,h1,h2,_⟩
   ·rw[if_pos h1,if_pos h1]
   ·rw[if_neg h1,if_neg h1,zHf f _ h (by omega)]
theorem zGR {l0 s:List Vis} {n j:Nat} (h:FrOk l0 n) (hj:j<l0.length):zGk (l0++s) j=zGk l0 j:=by rw[zGk,zGk,zHf _ _ h hj]
theorem zG6 {p:Prog} (hf:zak p=true) {k:Int} {c:Config} (hc:IsK p k c) {x:Choice} (h:x∈zaK p k c):zGI x=true:=by
 obtain⟨⟨l1,_,_,l4⟩,l5⟩:=zal (zam hf).1;rcases zsb hf hc h with⟨t,y,i,s,hy,hs,_,rfl,_⟩ | ⟨_,t,i,e,ht,hi,_,rfl,_⟩
 ·have h1:=(zH.1 hy).1;have h2:=(zH.1 hs).1;have h3:=(l5 y (zL hy)).2.1;exact zGA.2 ⟨by simp only;omega,.inr ⟨by simp only;omega,by simp only;omega,rfl⟩⟩
 ·have hb:c.buf[t]? =some (za1 c t):=by
   have:t<c.buf.length:=by rw[hc.b.lb];exact ht
   simp[za1,this]
  have he:=(hc.b.buf t _ hb).2.1 e (zL hi)
  have hh:0<=zcg e/\zcg e<p.cells.length:=by
   have Az:=he.ne;have Ac:=he.len;have By:=he.cell;unfold zcg
   cases AL:e.cells with
   | nil=>exact absurd AL Az
   | cons a r=>
     cases Au:e.values with
     | nil=>rw[AL,Au]at Ac;simp at Ac
     | cons b q=>
       obtain⟨q1,y,q2,_⟩:=By 0 a b (by rw[AL];rfl) (by rw[Au];rfl);have:=(zH.1 q2).1;simp only[List.headD_cons];omega
  exact zGA.2 ⟨by simp only;omega,.inl ⟨rfl,by simp only;omega,by simp only;omega⟩⟩
theorem zHF {p:Prog} (hf:zak p=true) {k:Int}: ∀(r:List Choice) (c:Config),IsK p k c->okC p k c r-> ∀x∈r,zGI x=true
 | [],c,hc,_,x,hx=>by simp at hx
 | y::r,c,hc,h,x,hx=>by
   rcases List.mem_cons.1 hx with rfl | hx
   ·exact zG6 hf hc h.1
   ·exact zHF hf r _ (zGB hf hc h.1).1 h.2 x hx
structure FindOk (p:Prog) (k:Int) (g:Goal) (P:List Choice):Prop where
 wr: ∀x∈P,zGI x=true
 ok:(zGm p k (zcm p) P).2=true
 len:(zGm p k (zcm p) P).1.length=P.length
 mt: ∀(n:Nat) (d:Config),(zcm p::(zGm p k (zcm p) P).1)[n]? =some d->IsK p k d/\zGi d g=decide (n=P.length)
 gv: ∀(run:List Choice) (n:Nat) (d:Config),(zcm p::(zGm p k (zcm p) run).1)[n]? =some d->IsK p k d/\(n<P.length->zGi d g=false)
theorem zHL {p:Prog} (hf:zak p=true) {k:Int} {lim:Nat} {g:Goal} (h1:1<=lim) {l l0:List Vis} {i:Nat} (hb:zil p k lim=some l) (hh:HitL p k lim g l0 i):FindOk p k g (zGk l0 i):=by
 obtain⟨Q1,SA⟩:=zHK h1 hb;obtain⟨hV,_⟩:=zoG hf h1 hb;obtain⟨s,rfl⟩:=hh.pre l hb;obtain⟨n0,h0⟩:=hh.fr;have AV:i<l0.length:=by rw[hh.len];omega
 rw[<- zGR (s:=s) h0 AV];obtain⟨v,hv,hm⟩:=hh.hit;have BQ:(l0++s)[i]? =some v:=by rw[List.getElem?_append_left AV];exact hv
 have Be: ∀(j:Nat) (w:Vis),j<i->(l0++s)[j]? =some w->zGi w.c g=false:=fun j w hj hw=>hh.no j w hj (by rw[List.getElem?_append_left (by omega)]at hw;exact hw)
 obtain⟨p1,p2,p3⟩:=zHW Q1 hV i v BQ;have FT:=zfq hf k;obtain⟨y1,y2⟩:=zHA hf _ _ FT p1;refine⟨zHF hf _ _ FT p1,y1,y2,fun n d hd=> ?_,fun run n d hd=> ?_⟩
 ·obtain⟨a1,a2,a3,a4⟩:=zGr hf _ _ FT n d hd;refine⟨a4,?_⟩;rcases Nat.lt_or_ge n (zGk (l0++s) i).length with Ad | Bv
  ·obtain⟨q,u,b1,b2,b3⟩:=p3 n Ad;rw[a3,<- b3,Be q u b1 b2,decide_eq_false (by omega)]
  ·have hn:n=(zGk (l0++s) i).length:=by omega
   rw[a3,hn,List.take_length,p2,hm,decide_eq_true rfl]
 ·obtain⟨a1,a2,a3,a4⟩:=zGr hf _ _ FT n d hd;refine⟨a4,fun hn=> ?_⟩;rw[a3];exact zG4 Q1 SA hV (m:=fun c=>zGi c g) (by rw[zM];omega) Be a2 (by rw[List.length_take];omega)
theorem zHI {p:Prog} (hf:zak p=true) {k:Int} {lim:Nat} {g:Goal} (h1:1<=lim) {l:List Vis} (hb:zil p k lim=some l) (Be: ∀v∈l,zGi v.c g=false) (run:List Choice) (n:Nat) (d:Config) (hd:(zcm p::(zGm p k (zcm p) run).1)[n]? =some d):
 IsK p k d/\zGi d g=false:=by
 obtain⟨Q1,SA⟩:=zHK h1 hb;obtain⟨hV,_⟩:=zoG hf h1 hb;have FT:=zfq hf k;obtain⟨a1,a2,a3,a4⟩:=zGr hf _ _ FT n d hd;obtain⟨j,v,b1,b2,_⟩:=zGP Q1 SA hV a2;exact⟨a4,by rw[a3,<- b2];exact Be v (zL b1)⟩
theorem zGx: ∀(l:List Choice) (x:Choice),zGn (l++[x])=if l=[]then zGp x else zGn l++32::zGp x
 | [],x=>rfl
 | [y],x=>rfl
 | y::z::r,x=>by
   have ih:=zGx (z::r) x;rw[if_neg (by simp)]at ih⊢;show zGp y++32::zGn ((z::r)++[x])=_;rw[ih];simp[zGn]
set_option maxHeartbeats 4000000 in
theorem zHJ (run:List Choice) (hr: ∀x∈run,zGI x=true) (hl:run.length<=120):
 Den Γ G 457 [.t (.sl (run.map Choice.enc)),.t (.str (bs [32])),.t (.fn 458 [] [])]=some (.t (.str (bs (zGn run)))):=by
 (refine zag Γ457 rfl ?_;dsimp only[zIB])
 simp -dsimp only[go_sem,seval]
 refine zaq 67105536 run.length (fun i f h x=>(f 12).v=vi i/\Bld h 1 (zGn (run.take i))/\zGF h x) rfl
  ⟨by simp -dsimp only[go_sem,seval],by simp -dsimp only[go_sem,seval];exact .inl ⟨by simp -dsimp only[go_sem,seval],rfl⟩,by simp -dsimp only[go_sem,seval];exact fun q hq=>by rw[zaa,if_neg (by omega)]⟩ ?_
 rintro i f u h x bb hi ⟨h12,hB,hF⟩;have BF:=zan i (by omega)
 by_cases AV:i<run.length
 ·have DB:=eq_true AV;obtain⟨y,hy,Eq⟩:=zai AV;have Sw:=hr y Eq;obtain⟨b1,b2⟩:=zGA.1 Sw;have Sx:=zHP y b1 (by omega) (by omega);have Er:=zGt Sw;have ht:run.take (i+1)=run.take i++[y]:=by rw[List.take_add_one,hy];rfl
  have Ac:=zGC (run.take i) fun z hz=>hr z (List.mem_of_mem_take hz)
  rw[List.length_take]at Ac;have Ap:(run.map Choice.enc)[i]? =some [ti y.thread,ti y.step,ti y.cell]:=by rw[zJ,hy];rfl
  simp -dsimp only[go_sem,seval,h12,DB,Ap,Choice.enc]
  by_cases h0:i=0
  ·subst h0;simp -dsimp only[go_sem,seval,Sx];refine zas (zGJ (s:=bs (zGp y)) hB (hF.mono (by omega)) (by rw[zxe];simp[zGn];omega)) ?_;rintro r h' n' ⟨q1,_,q3,q4⟩;simp -dsimp only[go_sem,seval,BF,h12];refine⟨AV,by simp -dsimp only[go_sem,seval,h12,BF],?_,by simp -dsimp only[go_sem,seval];exact q4.mono (by omega)⟩;rw[ht,zGx,List.take_zero,if_pos rfl];rw[List.take_zero,zxf]at q1;exact q1
  ·have Mi:((i:Int)>0)=True:=eq_true (by omega);simp -dsimp only[go_sem,seval,Mi];refine zas (zGJ (s:=bs [32]) hB (hF.mono (by omega)) (by rw[zxe];simp;omega)) ?_;rintro r h' n' ⟨q1,_,q3,q4⟩;simp -dsimp only[go_sem,seval,Sx,Ap,h12,Choice.enc];refine zas (zGJ (s:=bs (zGp y)) q1 (q4.mono (by omega)) (by rw[zxe,zxf];simp;omega)) ?_;rintro r h2 n2 ⟨p1,_,p3,p4⟩;simp -dsimp only[go_sem,seval,BF,h12];refine⟨AV,by simp -dsimp only[go_sem,seval,h12,BF],?_,by simp -dsimp only[go_sem,seval];exact p4.mono (by omega)⟩;rw[ht,zGx,if_neg (by rw[List.take_eq_nil_iff];exact fun e=>e.elim h0 fun e=>absurd AV (by rw[e];simp))];rw[zxf,zxf]at p1;simpa using p1
 ·have DB:=eq_false AV;have:i=run.length:=by omega
  subst this;rw[List.take_length]at hB;simp -dsimp only[go_sem,seval,h12,DB];refine zas (zH6 hB) ?_;rintro r h' n' rfl;simp -dsimp only[go_sem,seval]
  done
end Rg
end
section
namespace Rg
open Go
theorem zGO (run:List Choice) (hr: ∀x∈run,zGI x=true) (hl:run.length<=120):Den Γ G 447 [.t (.sl (run.map Choice.enc))]=some (.tup [.t (.str (bs (zGn run))),vi 0]):=by
 have hj:=zHJ run hr hl;have Bb:(run.map Choice.enc).length=run.length:=by simp
 have Im: ¬((run.length:Int)>120):=by omega
 (refine zag Γ447 rfl ?_;dsimp only[zIK])
 simp -dsimp only[go_sem,seval,Bb,Im];refine zaT 522284 run.length (fun i f=>(f 11).v=vi i) rfl rfl (by simp -dsimp only[go_sem,seval]) ?_;rintro i f u kk bb hi Bg;have hw:=zan i (by omega)
 by_cases AV:i<run.length
 ·have DB:=eq_true AV;obtain⟨y,hy,Eq⟩:=zai AV;have Ap:(run.map Choice.enc)[i]? =some [ti y.thread,ti y.step,ti y.cell]:=by rw[zJ,hy];rfl
  have Sx:=zGz y;rw[hr y Eq]at Sx;simp -dsimp only[go_sem,seval,Bg,DB,Ap,Sx];exact⟨AV,by simp -dsimp only[go_sem,seval,hw]⟩
 ·have DB:=eq_false AV;have:i=run.length:=by omega
  subst this;simp -dsimp only[go_sem,seval,Bg,DB,hj]
theorem zGY (run:List Choice) (hl:run.length<2^40):Den Γ G 449 [.t (.sl (run.map Choice.enc)),.t (.sl (run.map Choice.enc))]=some (vb true):=by
 have Bb:(run.map Choice.enc).length=run.length:=by simp
 (refine zag Γ449 rfl ?_;dsimp only[zIJ])
 simp -dsimp only[go_sem,seval,Bb,bne_self_eq_false];refine zaT 67106864 run.length (fun i f=>(f 5).v=vi i) rfl rfl (by simp -dsimp only[go_sem,seval]) ?_;rintro i f u kk bb hi h5;have hw:=zan i (by omega)
 by_cases AV:i<run.length
 ·have DB:=eq_true AV;obtain⟨y,hy,Eq⟩:=zai AV;have Ap:(run.map Choice.enc)[i]? =some [ti y.thread,ti y.step,ti y.cell]:=by rw[zJ,hy];rfl
  simp -dsimp only[go_sem,seval,h5,DB,Ap,Bb,bne_self_eq_false];exact⟨AV,by simp -dsimp only[go_sem,seval,hw]⟩
 ·have DB:=eq_false AV;have:i=run.length:=by omega
  subst this;simp -dsimp only[go_sem,seval,h5,DB,Bb]
end Rg
end
section
-- APPS
set_option maxRecDepth 100000
namespace Rg
open Go
def zHm:Expr:=.mk 1 1 1 []
def zGl:Prog:=
 ⟨[⟨bs [77,46,120],1,0,-1,false,0⟩,⟨bs [77,46,103],2,2,-1,true,0⟩],[⟨bs [77],bs [65,110,110],zHm,zHm,[0,1]⟩],[],
  [⟨bs [116],2,[zHm,zHm],[0,0],[⟨3,0,1,zHm,[⟨0,zHm⟩,⟨1,.mk 1 2 3 []⟩],false,0,0⟩],[],false⟩]⟩
def zGH:Goal:=⟨-1,0,.mk 2 1 0 []⟩
theorem zHx:zGl.sane:=⟨by decide,by decide,by decide,by decide,by decide+kernel,by decide+kernel,by decide+kernel,by decide+kernel,by decide+kernel⟩
theorem zGW:zak zGl=true:=by decide+kernel
set_option maxHeartbeats 4000000 in
theorem zHQ:Den Γ G 450 []=some (zP zGl):=by
 have c1:=zfI 1 1;have c2:=zfI 3 2;simp only[Expr.op,Expr.w,Expr.n,Expr.kids,List.map_nil]at c1 c2
 (refine zag Γ450 rfl ?_;dsimp only[zII])
 simp -dsimp -implicitDefEqProofs only[go_sem,seval,zck,c1,c2];exact⟨rfl,rfl,rfl,rfl⟩
def l14:List Vis:=(zil zGl 1 100).getD []
theorem zH9 {l:List Vis} (h:zil zGl 1 100=some l):l=l14:=by rw[l14,h];rfl
theorem zHa:zil zGl 1 100=some l14:=by
 have:(zil zGl 1 100).isSome=true:=by decide+kernel
 cases h:zil zGl 1 100 with
 | none=>rw[h]at this;cases this
 | some l=>rw[zH9 h]
theorem m14: ∀j,j<2-> ∀v,l14[j]? =some v->zGi v.c zGH=false:=by
 have : ∀j,j<2->(l14[j]?).all (fun v=> !zGi v.c zGH)=true:=by decide+kernel
 intro j hj v hv;have:=this j hj;rw[hv]at this;simpa using this
theorem zJQ: ∃v,l14[2]? =some v/\zGi v.c zGH=true:=by
 have:(l14[2]?).any (fun v=>zGi v.c zGH)=true:=by decide+kernel
 cases h:l14[2]? with
 | none=>rw[h]at this;cases this
 | some v=>rw[h]at this;exact⟨v,rfl,this⟩
theorem zIo:Den Γ G 444 [(zP zGl),vi 1,.agg zGH.cells,vi (100:Nat)]=some (.tup [.t (.sl ([⟨0,0,0⟩,⟨0,-1,0⟩].map Choice.enc)),vi 0]):=by
 obtain⟨v2,e2,e3⟩:=zJQ;rcases zHd zGl zHx zGW 1 (by decide) 100 (by decide) (by decide) zGH (by decide+kernel)with⟨l,h1,h2,_⟩ | ⟨l0,i,hh,h⟩ | ⟨h1,_⟩
 ·obtain rfl:=zH9 h1;have:=h2 v2 (zL e2);rw[this]at e3;cases e3
 ·obtain⟨s,hs⟩:=hh.pre _ zHa;obtain⟨v,hv,hm⟩:=hh.hit;have hl:=hh.len
  have hi:i=2:=by
   rcases Nat.lt_trichotomy i 2 with q | q | q
   ·have:=m14 i q v (by rw[hs,List.getElem?_append_left (by omega)];exact hv);rw[this]at hm;cases hm
   ·exact q
   ·have:=hh.no 2 v2 q (by rw[hs,List.getElem?_append_left (by omega)]at e2;exact e2);rw[this]at e3;cases e3
  subst hi;obtain⟨n,AG⟩:=hh.fr
  have hp:zGk l0 2=[⟨0,0,0⟩,⟨0,-1,0⟩]:=by
   rw[<- zGR (s:=s) AG (by omega),<- hs]
   decide+kernel
  rw[h,hp];rfl
 ·rw[zHa]at h1;cases h1
theorem zG3:Den Γ G 442 []=some (vb true):=by
 have h1:=zHQ;have h2:=zvn 0 1;have h3:Den Γ G 444 [(zP zGl),vi 1,.agg [vi (-1),vi 0,.t (ti 2),.t (ti 1),.t (ti 0),.t (.sl [])],vi 100]=some (.tup [.t (.sl ([⟨0,0,0⟩,⟨0,-1,0⟩].map Choice.enc)),vi 0]):=zIo;have SH:=zGO [⟨0,0,0⟩,⟨0,-1,0⟩] (by decide) (by decide);have h5:zGn [⟨0,0,0⟩,⟨0,-1,0⟩]=[48,46,48,32,48,33,48]:=by decide+kernel
 rw[h5]at SH;have h4:Den Γ G 447 [.t (.sl [[ti 0,ti 0,ti 0],[ti 0,ti (-1),ti 0]])]=some (.tup [.t (.str (bs [48,46,48,32,48,33,48])),vi 0]):=SH;simp only[Expr.op,Expr.w,Expr.n,Expr.kids,List.map_nil]at h2
 (refine zag Γ442 rfl ?_;dsimp only[zIO])
 simp -dsimp only[go_sem,seval,zck,h1,h2,h3,h4,beq_self_eq_true]
 done
end Rg
end
section
namespace Rg
open Go
def zH7:Prop:= ∀l:List UInt8,l.length<=100000->Den Γ G 459 [.t (.str (bs l)),.t (.str (bs [32]))]=some (.tup [.t (.str (bs (Go.Lib.cut l [32]).1)),.t (.str (bs (Go.Lib.cut l [32]).2.1)),vb (Go.Lib.cut l [32]).2.2])
theorem zHR {x:Choice} {r:List Choice} (h:zGI x=true):zGn (x::r)≠[]:=by
 have:=zGt h;intro e
 cases r with
 | nil=>rw[zGn]at e;rw[e]at this;simp at this
 | cons y r=>rw[zGn]at e;simp at e
set_option maxHeartbeats 4000000 in
theorem zHE (SP:zH7) (run:List Choice) (hr: ∀x∈run,zGI x=true) (hl:run.length<=120) (h0:run≠[]):
 Den Γ G 448 [.t (.str (bs (zGn run)))]=some (.tup [.t (.sl (run.map Choice.enc)),vi 0]):=by
 have CB:0<run.length:=List.length_pos_iff.2 h0
 have Az:((bs (zGn run)).toList==(bs []).toList)=false:=by
  rw[beq_eq_false_iff_ne,ByteArray.toList_eq,ByteArray.toList_eq,zxf,zxf]
  cases run with
  | nil=>exact absurd rfl h0
  | cons x r=>exact zHR (hr x (by simp))
 (refine zag Γ448 rfl ?_;dsimp only[zIs])
 simp -dsimp only[go_sem,seval,Az]
 refine zaq 590295810358705537008 run.length (fun i f h x=>(f 7).v=vb (decide (i<run.length))/\(f 6).v= .t (.str (bs (zGn (run.drop i))))/\(f 5).v=vb true/\zaF h x (f 4).v 3 (zbe (run.take i))) rfl
  ⟨by simp -dsimp only[go_sem,seval,CB],by simp -dsimp only[go_sem,seval],by simp -dsimp only[go_sem,seval],by simp -dsimp only[go_sem,seval];exact .inl ⟨rfl,by simp[zbe]⟩⟩ ?_
 rintro i f u h x bb hi ⟨h7,h6,h5,hO⟩
 by_cases AV:i<run.length
 ·obtain⟨y,hy,Eq⟩:=zai AV;have Sw:=hr y Eq;have hd:run.drop i=y::run.drop (i+1):=zdo hy;have Ez:=SP (zGn (run.drop i)) (by have:=zGC (run.drop i) (fun z hz=>hr z (List.mem_of_mem_drop hz));rw[List.length_drop]at this;omega);rw[hd,zH2 y _ Sw]at Ez;rw[hd]at h6;have W:=zHu Sw;have hA:=W.a;have hB:=W.b;have Er:(zGp y).length=(num y.thread).length+1+(zH1 y).length:=by rw[zGu,zM,List.length_cons];omega
  simp -dsimp only[go_sem,seval,h7,AV,h6,Ez]
  refine zaq 1125899839737376 (zGp y).length (fun j g h' x'=>(g 26).v=vi j/\(g 9).v=vi (if j<=(num y.thread).length then -1 else(num y.thread).length)/\(g 5).v=vb true/\h'=h/\x<=x') rfl
   ⟨by simp -dsimp only[go_sem,seval],by simp -dsimp only[go_sem,seval,Nat.zero_le],by simp -dsimp only[go_sem,seval,h5],rfl,by simp -dsimp only[go_sem,seval];omega⟩ ?_
  rintro j g u' h' x' bb' hj ⟨g26,g9,g5,rfl,Dc⟩;have C9:=zan j (by omega)
  by_cases AN:j<(zGp y).length
  ·have Ba:=eq_true AN;obtain⟨b,hb,EW⟩:=zai AN;have Om:(bs (zGp y))[j]? =some b:=by rw[zGv];exact hb
   have Cx:=hb;rw[zGu]at Cx;rcases Nat.lt_trichotomy j (num y.thread).length with Ad | Fq | B5
   ·rw[List.getElem?_append_left Ad]at Cx;have Kx:=hA.2.2 b (zL Cx);rw[if_pos (by omega)]at g9;have e1:((b.toNat:Int)=46)=False:=eq_false (by omega);have e2:((b.toNat:Int)=33)=False:=eq_false (by omega);have e3:((b.toNat:Int)<48)=False:=eq_false (by omega);have e4:((b.toNat:Int)>57)=False:=eq_false (by omega);simp -dsimp only[go_sem,seval,g26,g9,Ba,Om,e1,e2,e3,e4];exact⟨AN,by simp -dsimp only[go_sem,seval,C9],by simp -dsimp only[go_sem,seval,g9];rw[if_pos (by omega)],by simp -dsimp only[go_sem,seval,g5],rfl,by simp -dsimp only[go_sem,seval];omega⟩
   ·subst Fq;rw[List.getElem?_append_right (Nat.le_refl _),Nat.sub_self]at Cx;cases Cx;rw[if_pos (Nat.le_refl _)]at g9;rcases(show zHs y=33\/zHs y=46 by unfold zHs;split<;>simp)with hm | hm
    ·have Pc:((zHs y).toNat:Int)=33:=by rw[hm];rfl
     simp -dsimp only[go_sem,seval,g26,g9,Ba,Om,Pc];exact⟨AN,by simp -dsimp only[go_sem,seval,C9],by simp -dsimp only[go_sem,seval];rw[if_neg (by omega)],by simp -dsimp only[go_sem,seval,g5],rfl,by simp -dsimp only[go_sem,seval];omega⟩
    ·have Pc:((zHs y).toNat:Int)=46:=by rw[hm];rfl
     simp -dsimp only[go_sem,seval,g26,g9,Ba,Om,Pc];exact⟨AN,by simp -dsimp only[go_sem,seval,C9],by simp -dsimp only[go_sem,seval];rw[if_neg (by omega)],by simp -dsimp only[go_sem,seval,g5],rfl,by simp -dsimp only[go_sem,seval];omega⟩
   ·rw[List.getElem?_append_right (by omega),show j-(num y.thread).length=(j-(num y.thread).length-1)+1 by omega,List.getElem?_cons_succ]at Cx;have Kx:=hB.2.2 b (zL Cx);rw[if_neg (by omega)]at g9;have e3:((b.toNat:Int)<48)=False:=eq_false (by omega);have e4:((b.toNat:Int)>57)=False:=eq_false (by omega);have e5:((((num y.thread).length:Nat):Int)<0)=False:=eq_false (by omega);simp -dsimp only[go_sem,seval,g26,g9,Ba,Om,e3,e4,e5];exact⟨AN,by simp -dsimp only[go_sem,seval,C9],by simp -dsimp only[go_sem,seval,g9];rw[if_neg (by omega)],by simp -dsimp only[go_sem,seval,g5],rfl,by simp -dsimp only[go_sem,seval];omega⟩
  ·have Ba:=eq_false AN;have:j=(zGp y).length:=by omega
   subst this;rw[if_neg (by omega)]at g9;have e5:((((num y.thread).length:Nat):Int)<0)=False:=eq_false (by omega);have BX:=hO.lenS;rw[zbe,List.length_map,List.length_map,List.length_take,Nat.min_eq_left (by omega)]at BX;have e6:((i:Int)=120)=False:=eq_false (by omega);have hv:=hO.valOf;have r1:=(hO.upd (q:=x'+1+7+9+2+2) (by omega) (some (O.rows 3 [[vi y.thread,vi y.step,vi y.cell]] false))).rowsS;simp -dsimp only[go_sem,seval,g26,g9,Ba,e5,BX,e6,W.den,hv,r1];refine zav (hO.upd (q:=x'+1+7+9+2+2) (by omega) _) (by omega) (by rw[zbe,List.length_map,List.length_map,List.length_take];omega) (by decide) rfl (zd0 _) ?_;intro v hp hP _ _;have w1:=hP.valOf;have w2:=hP.cellsV;unfold V.cells at w2;simp -dsimp only[go_sem,seval,w1,w2];have ht:run.take (i+1)=run.take i++[y]:=by rw[List.take_add_one,hy];rfl
   have Sy:decide (run.drop (i+1)≠[])=decide (i+1<run.length):=by
    have:(run.drop (i+1)≠[])<->i+1<run.length:=by rw[Ne,List.drop_eq_nil_iff];omega
    exact decide_eq_decide.2 this
   refine⟨AV,by simp -dsimp only[go_sem,seval,Sy],by simp -dsimp only[go_sem,seval],by simp -dsimp only[go_sem,seval,g5],?_⟩;rw[ht,zcY];simp -dsimp only[go_sem,seval];exact hP.le (by omega)
 ·have:i=run.length:=by omega
  subst this;have Kr:=eq_false (Nat.lt_irrefl run.length);rw[List.take_length]at hO;rcases hO with⟨_,h4⟩ | ⟨kk,h4,_,AB⟩
  ·have:=congrArg List.length h4;rw[zbX]at this;exact absurd CB (by rw[show run.length=0 from this];exact Nat.lt_irrefl 0)
  ·simp -dsimp only[go_sem,seval,h7,Kr,h5,h4,AB];rw[if_pos (Nat.le_refl _),List.take_length,zD,show(zbe run).mapM (fun row=>row.mapM (toT h 999))=some (run.map Choice.enc)from zdJ h 999 _ (zcN _)];rfl
theorem zHl:Den Γ G 448 [.t (.str (bs []))]=some (.tup [.t (.sl []),vi 0]):=by
 (refine zag Γ448 rfl ?_;dsimp only[zIs])
 simp -dsimp only[go_sem,seval,beq_self_eq_true]
 try rfl
end Rg
end
section
namespace Rg
open Go
def zGD (e:Expr):Bool:=decide ((e.size:Int)<=40)
def smA (a:Assign):Bool:=zGD a.to
def smS (s:Step):Bool:=decide ((s.set.length:Int)<=4)&&zGD s.guard&&s.set.all smA
def smL (l:Loop):Bool:=decide ((l.body.length:Int)<=8)&&zGD l.variant
def smT (x:Thread):Bool:=(decide (x.points<=8)&&decide ((x.asserts.length:Int)<=8)&&decide ((x.modules.length:Int)<=8)&&decide ((x.steps.length:Int)<=10)&&decide ((x.loops.length:Int)<=3))&&x.asserts.all zGD&&x.loops.all smL&&x.steps.all smS
theorem zHS (x:Thread):Den Γ G 451 [(zT x)]=some (vb (smT x)):=by
 have A3:(decide (x.points<=8)&&decide ((x.asserts.length:Int)<=8)&&decide ((x.modules.length:Int)<=8)&&decide ((x.steps.length:Int)<=10)&&decide ((x.loops.length:Int)<=3))=false->smT x=false:=fun h=>by rw[smT,h];rfl
 (refine zag Γ451 rfl ?_;dsimp only[zIH])
 simp -dsimp only[go_sem,seval]
 by_cases h1:x.points>8
 ·simp -dsimp only[go_sem,seval,h1];exact(A3 (by simp[show ¬x.points<=8 by omega])).symm
 by_cases h2:(x.asserts.length:Int)>8
 ·simp -dsimp only[go_sem,seval,h1,h2];exact(A3 (by simp[show ¬(x.asserts.length:Int)<=8 by omega])).symm
 by_cases h3:(x.modules.length:Int)>8
 ·simp -dsimp only[go_sem,seval,h1,h2,h3];exact(A3 (by simp[show ¬(x.modules.length:Int)<=8 by omega])).symm
 by_cases h4:(x.steps.length:Int)>10
 ·simp -dsimp only[go_sem,seval,h1,h2,h3,h4];exact(A3 (by simp[show ¬(x.steps.length:Int)<=10 by omega])).symm
 by_cases h5:(x.loops.length:Int)>3
 ·simp -dsimp only[go_sem,seval,h1,h2,h3,h4,h5];exact(A3 (by simp[show ¬(x.loops.length:Int)<=3 by omega])).symm
 have hT:smT x=(x.asserts.all zGD&&x.loops.all smL&&x.steps.all smS):=by
  rw[smT];simp only[decide_eq_true (show x.points<=8 by omega),decide_eq_true (show(x.asserts.length:Int)<=8 by omega),decide_eq_true (show(x.modules.length:Int)<=8 by omega),decide_eq_true (show(x.steps.length:Int)<=10 by omega),decide_eq_true (show(x.loops.length:Int)<=3 by omega),Bool.true_and]
 simp -dsimp only[go_sem,seval,h1,h2,h3,h4,h5];refine zaT 4503462188417052 x.asserts.length (fun i f=>(f 3).v=vi i/\x.asserts.all zGD=(x.asserts.drop i).all zGD) rfl rfl ⟨by simp -dsimp only[go_sem,seval],rfl⟩ ?_;rintro i f u kk bb hi ⟨g3,Aa⟩;have hw:=zan i (by omega);simp -dsimp only[go_sem,seval,g3];refine zac (fun h=> ?_) (fun h=> ?_)<;>(try rw[h])<;>(try simp only[zah]at h)<;>(try simp -dsimp only[go_sem,seval,g3])
 ·obtain⟨e,he,_⟩:=zai ‹i<x.asserts.length›;have hg:=zdX e 40 (by omega);simp -dsimp only[go_sem,seval,g3,he,hg];refine zac (fun h=> ?_) (fun h=> ?_)<;>(try rw[h])<;>(try simp only[zah]at h)<;>(try simp -dsimp only[go_sem,seval,g3])
  ·rw[hT,Aa,za6 he (by simp[zGD];omega)];rfl
  ·refine⟨by omega,by simp -dsimp only[go_sem,seval,hw],?_⟩;rw[Aa,za7 he (by simp[zGD];omega)]
 ·have:i=x.asserts.length:=by omega
  subst this;rw[zbB]at Aa;clear g3 hw;refine zaT 151115722948229019467812 x.loops.length (fun i f=>(f 5).v=vi i/\x.loops.all smL=(x.loops.drop i).all smL) rfl rfl ⟨by simp -dsimp only[go_sem,seval],rfl⟩ ?_;rintro i f u kk bb hi ⟨g5,Ci⟩;have hw:=zan i (by omega);simp -dsimp only[go_sem,seval,g5];refine zac (fun h=> ?_) (fun h=> ?_)<;>(try rw[h])<;>(try simp only[zah]at h)<;>(try simp -dsimp only[go_sem,seval,g5])
  ·obtain⟨l,hl,_⟩:=zai ‹i<x.loops.length›;have hg:=zdX l.variant 40 (by omega);have Be:smL l=false->false=smT x:=fun h0=>by rw[hT,Aa,Ci,za6 hl h0];rfl
   simp -dsimp only[go_sem,seval,g5,hl,hg];refine zac (fun h=> ?_) (fun h=> ?_)<;>(try rw[h])<;>(try simp only[zah]at h)<;>(try simp -dsimp only[go_sem,seval,g5,hl,hg])
   ·exact Be (by simp[smL];omega)
   ·refine zac (fun h=> ?_) (fun h=> ?_)<;>(try rw[h])<;>(try simp only[zah]at h)<;>(try simp -dsimp only[go_sem,seval,g5,hl])
    ·exact Be (by simp[smL,zGD];omega)
    ·refine⟨by omega,by simp -dsimp only[go_sem,seval,hw],?_⟩;rw[Ci,za7 hl (by simp[smL,zGD];omega)]
  ·have:i=x.loops.length:=by omega
   subst this;rw[zbB]at Ci;clear g5 hw;refine zaT 41538374868127505300792141986923460 x.steps.length (fun i f=>(f 6).v=vi i/\x.steps.all smS=(x.steps.drop i).all smS) rfl rfl ⟨by simp -dsimp only[go_sem,seval],rfl⟩ ?_;rintro i f u kk bb hi ⟨g6,Fw⟩;have hw:=zan i (by omega);simp -dsimp only[go_sem,seval,g6];refine zac (fun h=> ?_) (fun h=> ?_)<;>(try rw[h])<;>(try simp only[zah]at h)<;>(try simp -dsimp only[go_sem,seval,g6])
   ·obtain⟨s,hs,_⟩:=zai ‹i<x.steps.length›;have hg:=zdX s.guard 40 (by omega);have Be:smS s=false->false=smT x:=fun h0=>by rw[hT,Aa,Ci,Fw,za6 hs h0];rfl
    simp -dsimp only[go_sem,seval,g6,hs,hg];refine zac (fun h=> ?_) (fun h=> ?_)<;>(try rw[h])<;>(try simp only[zah]at h)<;>(try simp -dsimp only[go_sem,seval,g6,hs,hg])
    ·exact Be (by simp[smS];omega)
    ·refine zac (fun h=> ?_) (fun h=> ?_)<;>(try rw[h])<;>(try simp only[zah]at h)<;>(try simp -dsimp only[go_sem,seval,g6,hs])
     ·exact Be (by simp[smS,zGD];omega)
     ·have BA:s.set.length<=4:=by omega
      refine zaT 41537741042978506913543222282158852 s.set.length (fun k f'=>(f' 8).v=vi k/\s.set.all smA=(s.set.drop k).all smA) rfl rfl ⟨by simp -dsimp only[go_sem,seval],rfl⟩ ?_;rintro k f' u' kk' bb' hk ⟨g8,G2⟩;have Aw:=zan k (by omega);simp -dsimp only[go_sem,seval,g6,g8,hs];refine zac (fun h=> ?_) (fun h=> ?_)<;>(try rw[h])<;>(try simp only[zah]at h)<;>(try simp -dsimp only[go_sem,seval,g6,g8])
      ·obtain⟨a,ha,_⟩:=zai ‹k<s.set.length›;have QB:=zdX a.to 40 (by omega);simp -dsimp only[go_sem,seval,g6,g8,hs,ha,QB];refine zac (fun h=> ?_) (fun h=> ?_)<;>(try rw[h])<;>(try simp only[zah]at h)<;>(try simp -dsimp only[go_sem,seval,g6,g8])
       ·exact Be (by rw[smS,G2,za6 ha (by simp[smA,zGD];omega)];simp)
       ·refine⟨by omega,by simp -dsimp only[go_sem,seval,Aw],?_⟩;rw[G2,za7 ha (by simp[smA,zGD];omega)]
      ·have:k=s.set.length:=by omega
       subst this;rw[zbB]at G2;refine⟨by omega,by simp -dsimp only[go_sem,seval,hw],?_⟩;rw[Fw,za7 hs (by rw[smS,G2];simp[zGD];omega)]
   ·have:i=x.steps.length:=by omega
    subst this;rw[zbB]at Fw;rw[hT,Aa,Ci,Fw];rfl
def smM (m:Contract):Bool:=decide ((m.frame.length:Int)<=12)&&zGD m.rely&&zGD m.guar
def smK (l:Lock):Bool:=zGD l.inv
def zH8 (p:Prog):Bool:=(decide ((p.cells.length:Int)<=12)&&decide ((p.modules.length:Int)<=3)&&decide ((p.locks.length:Int)<=2)&&decide ((p.threads.length:Int)<=3))&&p.modules.all smM&&p.locks.all smK&&p.threads.all smT&&decide ((zbM p).1=0)
theorem zGX (p:Prog) (hs:p.sane):Den Γ G 443 [(zP p)]=some (vb (zH8 p)):=by
 have A3:(decide ((p.cells.length:Int)<=12)&&decide ((p.modules.length:Int)<=3)&&decide ((p.locks.length:Int)<=2)&&decide ((p.threads.length:Int)<=3))=false->zH8 p=false:=fun h=>by rw[zH8,h];rfl
 have BP:=zhk p hs
 (refine zag Γ443 rfl ?_;dsimp only[zIN])
 simp -dsimp only[go_sem,seval]
 by_cases h1:(p.cells.length:Int)>12
 ·simp -dsimp only[go_sem,seval,h1];exact(A3 (by simp[show ¬(p.cells.length:Int)<=12 by omega])).symm
 by_cases h2:(p.modules.length:Int)>3
 ·simp -dsimp only[go_sem,seval,h1,h2];exact(A3 (by simp[show ¬(p.modules.length:Int)<=3 by omega])).symm
 by_cases h3:(p.locks.length:Int)>2
 ·simp -dsimp only[go_sem,seval,h1,h2,h3];exact(A3 (by simp[show ¬(p.locks.length:Int)<=2 by omega])).symm
 by_cases h4:(p.threads.length:Int)>3
 ·simp -dsimp only[go_sem,seval,h1,h2,h3,h4];exact(A3 (by simp[show ¬(p.threads.length:Int)<=3 by omega])).symm
 have hT:zH8 p=(p.modules.all smM&&p.locks.all smK&&p.threads.all smT&&decide ((zbM p).1=0)):=by
  rw[zH8];simp only[decide_eq_true (show(p.cells.length:Int)<=12 by omega),decide_eq_true (show(p.modules.length:Int)<=3 by omega),decide_eq_true (show(p.locks.length:Int)<=2 by omega),decide_eq_true (show(p.threads.length:Int)<=3 by omega),Bool.true_and]
 simp -dsimp only[go_sem,seval,h1,h2,h3,h4];refine zaT 4611686001247518748 p.modules.length (fun i f=>(f 3).v=vi i/\p.modules.all smM=(p.modules.drop i).all smM) rfl rfl ⟨by simp -dsimp only[go_sem,seval],rfl⟩ ?_;rintro i f u kk bb hi ⟨g3,Aa⟩;have hw:=zan i (by omega);simp -dsimp only[go_sem,seval,g3];refine zac (fun h=> ?_) (fun h=> ?_)<;>(try rw[h])<;>(try simp only[zah]at h)<;>(try simp -dsimp only[go_sem,seval,g3])
 ·obtain⟨m,hm,_⟩:=zai ‹i<p.modules.length›;have L9:=zdX m.rely 40 (by omega);have GS:=zdX m.guar 40 (by omega);have Be:smM m=false->false=zH8 p:=fun h0=>by rw[hT,Aa,za6 hm h0];rfl
  simp -dsimp only[go_sem,seval,g3,hm];refine zac (fun h=> ?_) (fun h=> ?_)<;>(try rw[h])<;>(try simp only[zah]at h)<;>(try simp -dsimp only[go_sem,seval,g3,hm,L9])
  ·exact Be (by simp[smM];omega)
  ·refine zac (fun h=> ?_) (fun h=> ?_)<;>(try rw[h])<;>(try simp only[zah]at h)<;>(try simp -dsimp only[go_sem,seval,g3,hm,L9,GS])
   ·exact Be (by simp[smM,zGD];omega)
   ·refine zac (fun h=> ?_) (fun h=> ?_)<;>(try rw[h])<;>(try simp only[zah]at h)<;>(try simp -dsimp only[go_sem,seval,g3,hm,GS])
    ·exact Be (by simp[smM,zGD];omega)
    ·refine⟨by omega,by simp -dsimp only[go_sem,seval,hw],?_⟩;rw[Aa,za7 hm (by simp[smM,zGD];omega)]
 ·have:i=p.modules.length:=by omega
  subst this;rw[zbB]at Aa;clear g3 hw;refine zaT 302226843217638866288740 p.locks.length (fun i f=>(f 5).v=vi i/\p.locks.all smK=(p.locks.drop i).all smK) rfl rfl ⟨by simp -dsimp only[go_sem,seval],rfl⟩ ?_;rintro i f u kk bb hi ⟨g5,Ci⟩;have hw:=zan i (by omega);simp -dsimp only[go_sem,seval,g5];refine zac (fun h=> ?_) (fun h=> ?_)<;>(try rw[h])<;>(try simp only[zah]at h)<;>(try simp -dsimp only[go_sem,seval,g5])
  ·obtain⟨l,hl,_⟩:=zai ‹i<p.locks.length›;have hg:=zdX l.inv 40 (by omega);simp -dsimp only[go_sem,seval,g5,hl,hg];refine zac (fun h=> ?_) (fun h=> ?_)<;>(try rw[h])<;>(try simp only[zah]at h)<;>(try simp -dsimp only[go_sem,seval,g5])
   ·rw[hT,Aa,Ci,za6 hl (by simp[smK,zGD];omega)];rfl
   ·refine⟨by omega,by simp -dsimp only[go_sem,seval,hw],?_⟩;rw[Ci,za7 hl (by simp[smK,zGD];omega)]
  ·have:i=p.locks.length:=by omega
   subst this;rw[zbB]at Ci;clear g5 hw;refine zaT 9903218082828138541899317636 p.threads.length (fun i f=>(f 7).v=vi i/\p.threads.all smT=(p.threads.drop i).all smT) rfl rfl ⟨by simp -dsimp only[go_sem,seval],rfl⟩ ?_;rintro i f u kk bb hi ⟨g7,Fw⟩;have hw:=zan i (by omega);simp -dsimp only[go_sem,seval,g7];refine zac (fun h=> ?_) (fun h=> ?_)<;>(try rw[h])<;>(try simp only[zah]at h)<;>(try simp -dsimp only[go_sem,seval,g7])
   ·obtain⟨x,hx,_⟩:=zai ‹i<p.threads.length›;have hg:=zHS x;simp -dsimp only[go_sem,seval,g7,hx,hg];refine zac (fun h=> ?_) (fun h=> ?_)<;>(try rw[h])<;>(try simp only[zah]at h)<;>(try simp -dsimp only[go_sem,seval,g7])
    ·rw[hT,Aa,Ci,Fw,za6 hx (by simpa using‹_›)];rfl
    ·refine⟨by omega,by simp -dsimp only[go_sem,seval,hw],?_⟩;rw[Fw,za7 hx (by simpa using‹_›)]
   ·have:i=p.threads.length:=by omega
    subst this;rw[zbB]at Fw;simp -dsimp only[go_sem,seval,BP];rw[hT,Aa,Ci,Fw];rfl
theorem zHh (p:Prog) (hs:p.sane) (hf:zak p=true) (k:Int) (hk:0<=k/\k<=2) (lim:Nat) (h1:1<=lim) (h2:lim<=20000) (H:Nat->Option O) (n:Nat):
 ∃r h' n',DenR Γ G 360 [(zP p),vi k,vi lim] H n=some (r,h',n')/\
  ((∃l vL,zil p k lim=some l/\r= .tup [vL,vi 0]/\zaF h' n' vL 3 (zGj (l.map Vis.c)))\/(zil p k lim=none/\r= .tup [.t .nils,vi 2])):=by
 have BH:=zmH p hs hf k hk lim h1 h2
 (refine zay Γ360 rfl ?_;dsimp only[zAi])
 simp -dsimp only[go_sem,seval,BH];refine zas (zoi p hs hf k hk lim h1 h2 (n+3+5+1+3) (n+3+5+0) _ _ (by rw[zaa,if_pos rfl]) (by rw[zaa,if_neg (by omega),zaa,if_pos rfl]) (by omega) (by omega)) ?_;rintro r h' n' (⟨l,vL,q1,rfl,q2,q3⟩ | ⟨q1,rfl⟩)
 ·have e0:zdg l=zGj (l.map Vis.c):=by rw[zdg,zGj,List.map_map,List.map_map];rfl
  rw[e0]at q3;have q4:=q3;rcases q3 with⟨rfl,e1⟩ | ⟨kL,rfl,e2,e3⟩
  ·simp -dsimp only[go_sem,seval,q2];exact .inl ⟨l,_,q1,rfl,q4.le (by simp -dsimp only[go_sem,seval];omega)⟩
  ·simp -dsimp only[go_sem,seval,q2];exact .inl ⟨l,_,q1,rfl,q4.le (by simp -dsimp only[go_sem,seval];omega)⟩
 ·simp -dsimp only[go_sem,seval];exact .inr ⟨q1,rfl⟩
end Rg
end
