/- Part of the proof of laws of relyguardtop. No condition. -/
import Derived.Test.YtoidcnbdndioaaaGreatDoorKartAQ
import Derived.Test.YtoidcnbdndioaaaGreatDoorKartAN
import Derived.Test.YtoidcnbdndioaaaGreatDoorKartAM
import Derived.Test.YtoidcnbdndioaaaGreatDoorKartAO
import Derived.Test.YtoidcnbdndioaaaGreatDoorKartAP
set_option linter.unusedSimpArgs false
set_option linter.unusedVariables false
section
namespace Rg
open Go
def sX (p:Prog) (l:List Int) (n:Nat):List Int:=stM (pC p.cells) l (n:Int) zGi
def s0 (p:Prog) (l:List Int) (n:Nat):List Int:=stM (pC p.cells) l (n:Int) (List.replicate p.cells.length 0)
def lkB (p:Prog) (m:List Int):Bool:=p.locks.all fun k=> !decide (atI m k.cell=0)||decide (k.inv.eval m m=1)
def zOm (p:Prog) (l:List Int) (t:Int) (x y:Nat):Bool:=l.any fun c=>zar p t c&& !decide (atI (s0 p l x) c=atI (s0 p l y) c)
def zIR (p:Prog) (l:List Int) (t:Int) (rely:Expr):List Nat:=(rpL p.cells l rely 4096).filter fun n=>lkB p (s0 p l (n/ 64))&&lkB p (s0 p l (n % 64))&& !zOm p l t (n/ 64) (n % 64)
structure LOk (p:Prog) (l:List Int) (rely:Expr):Prop where
 pw:l.Pairwise (· < ·)
 lc: ∀c∈l,0<=c/\c<p.cells.length
 c32:p.cells.length<=32
 wd: ∀c∈l,∃y,p.cells[c.toNat]? =some y/\1<=y.w/\y.w<=8
 lk: ∀k∈p.locks,k.cell∈l/\wOf p k.cell=1/\k.inv.valid p.cells false=true/\k.inv.w=1/\ ∀c∈k.inv.sup 2,c∈l
 rv:VS p l rely
theorem LOk.ne {p:Prog} {l:List Int} {rely:Expr} (O:LOk p l rely):l.Pairwise (fun a b=>a.toNat≠b.toNat):=
 O.pw.imp_of_mem fun ha hb h=>by have:=O.lc _ ha;have:=O.lc _ hb;omega
theorem LOk.val {p:Prog} {l:List Int} {rely:Expr} (O:LOk p l rely) (n:Nat) {c:Int} (hc:c∈l):0<=atI (sX p l n) c/\atI (sX p l n) c<2^wOf p c/\atI (s0 p l n) c=atI (sX p l n) c:=by
 obtain⟨v,h0,h1,h2⟩:=zMj (p:=pC p.cells) (n:Int) O.ne c hc;have a:=h2 zGi fun d hd=>by have:=O.lc d hd;have:=O.c32;simp[zGi];omega
 have b:=h2 (List.replicate p.cells.length 0) fun d hd=>by have:=O.lc d hd;simp;omega
 unfold sX s0;rw[a,b];exact⟨h0,h1,rfl⟩
theorem zN4 (n:Nat) (c:Int):atI (List.replicate n 0) c=0:=by
 rw[atI,zK,List.getElem?_replicate];split<;>rfl
theorem LOk.off {p:Prog} {l:List Int} {rely:Expr} (O:LOk p l rely) (n:Nat) {c:Int} (h0:0<=c) (hc:c∉ l):atI (sX p l n) c=0:=by
 unfold sX
 rw[atI,zHh fun d hd e=>hc (by have:=O.lc d hd;have:d=c:=by omega
                               rwa[this]at hd)]
 exact zN4 32 c
theorem LOk.rng {p:Prog} {l:List Int} {rely:Expr} (O:LOk p l rely) (n:Nat) {c:Int} (h0:0<=c):0<=atI (sX p l n) c/\atI (sX p l n) c<2^wOf p c:=by
 by_cases hc:c∈l
 ·exact⟨(O.val n hc).1,(O.val n hc).2.1⟩
 ·rw[O.off n h0 hc];exact⟨Int.le_refl _,zcn _⟩
theorem LOk.lkB_eq {p:Prog} {l:List Int} {rely:Expr} (O:LOk p l rely) {m m':List Int} (h: ∀c∈l,atI m c=atI m' c):lkB p m=lkB p m':=by
 unfold lkB;refine zhf fun k hk=> ?_
 obtain⟨k1,k2,k3,k4,k5⟩:=O.lk k hk;rw[h k.cell k1,zIc (p:=p) k3 (o:=m) (o':=m') (m:=m) (m':=m') fun c hc=>by rw[h c (k5 c hc)]]
theorem LOk.mem {p:Prog} {l:List Int} {rely:Expr} (O:LOk p l rely) {t:Int} {n:Nat}:n∈zIR p l t rely<->n<4096/\(n/ 64<2^zcD (pC p.cells) l/\n % 64<2^zcD (pC p.cells) l/\rely.eval (sX p l (n/ 64)) (sX p l (n % 64))=1)/\
 lkB p (sX p l (n/ 64))=true/\lkB p (sX p l (n % 64))=true/\ ∀c∈l,zar p t c=true->atI (sX p l (n/ 64)) c=atI (sX p l (n % 64)) c:=by
 unfold zIR rpL;rw[List.mem_filter,List.mem_filter,List.mem_range,O.lkB_eq (m:=s0 p l (n/ 64)) fun c hc=>(O.val _ hc).2.2,O.lkB_eq (m:=s0 p l (n % 64)) fun c hc=>(O.val _ hc).2.2]
 have hm:zOm p l t (n/ 64) (n % 64)=false<-> ∀c∈l,zar p t c=true->atI (sX p l (n/ 64)) c=atI (sX p l (n % 64)) c:=by
  unfold zOm;rw[List.any_eq_false];refine forall_congr' fun c=>forall_congr' fun hc=> ?_
  rw[(O.val _ hc).2.2,(O.val _ hc).2.2];cases zar p t c<;>simp
 unfold rpB;simp only[zF,decide_eq_true_eq,Bool.not_eq_true',hm];unfold sX;exact⟨fun⟨⟨a,⟨b,c⟩,d⟩,⟨e,f⟩,g⟩=>⟨a,⟨b,c,d⟩,e,f,g⟩,fun⟨a,⟨b,c,d⟩,e,f,g⟩=>⟨⟨a,⟨b,c⟩,d⟩,⟨e,f⟩,g⟩⟩
theorem LOk.mem2 {p:Prog} {l:List Int} {rely:Expr} (O:LOk p l rely) (hb:zcD (pC p.cells) l<=6) {t:Int} {x y:Nat} (hy:y<64):64*x+y∈zIR p l t rely<->(x<2^zcD (pC p.cells) l/\y<2^zcD (pC p.cells) l/\rely.eval (sX p l x) (sX p l y)=1)/\
 lkB p (sX p l x)=true/\lkB p (sX p l y)=true/\ ∀c∈l,zar p t c=true->atI (sX p l x) c=atI (sX p l y) c:=by
 have S7:(2:Nat)^zcD (pC p.cells) l<=2^6:=Nat.pow_le_pow_right (by omega) hb;rw[O.mem,show(64*x+y)/ 64=x by omega,show(64*x+y) % 64=y by omega];exact⟨fun h=>h.2,fun h=>⟨by have:=h.1.1;omega,h⟩⟩
theorem LOk.prs {p:Prog} {l:List Int} {rely:Expr} (O:LOk p l rely) (t:Int):Prs (zcD (pC p.cells) l) (zIR p l t rely):=
 ⟨List.Pairwise.filter _ zJV,fun n hn=>⟨(O.mem.1 hn).2.1.1,(O.mem.1 hn).2.1.2.1⟩⟩
def fcE (c:Int):Expr:=.mk 4 1 0 [.mk 2 1 c []]
def lkE (p:Prog):Expr:=zHc (p.locks.map fun k=>zLo (fcE k.cell) k.inv)
def wI (p:Prog) (c:Int):Int:=match p.cells[c.toNat]? with
 | some x=>x.w
 | none=>0
def eqE (p:Prog) (c:Int):Expr:=.mk 11 1 0 [.mk 3 (wI p c) c [],.mk 2 (wI p c) c []]
def zHV (p:Prog) (l:List Int) (t:Int) (rely:Expr):List Expr:=[zNn (lkE p),lkE p,rely]++(l.filter (zar p t)).map (eqE p)
theorem zKS {a b:Expr} (hz:(zLo a b).op≠0):a.formed=true/\b.formed=true:=by
 unfold zLo at hz;cases hc:zIe a&&zIe b
 ·rw[hc,if_pos rfl]at hz;exact absurd rfl hz
 ·simp only[zIe,zF,decide_eq_true_eq]at hc;exact⟨hc.1.2,hc.2.2⟩
theorem zM4 {c:Int} (hf:(fcE c).formed=true) {o m:List Int} (h0:0<=atI m c) (h1:atI m c<2):(fcE c).eval o m=1<->atI m c=0:=by
 have e1:(fcE c).eval o m=1-atI m c:=by
  rw[Expr.eval,if_pos hf,fcE,Expr.ev_eq];simp only[Expr.op_mk,Expr.w_mk,Expr.kids_mk,List.map_cons,List.map_nil,List.getD_cons_zero];rw[Expr.ev_eq o m (.mk 2 1 c [])];simp only[Expr.op_mk,Expr.w_mk,Expr.n_mk,opv];simp only[if_neg (show ¬(4:Int)=1 by decide),if_neg (show ¬(4:Int)=2 by decide),if_neg (show ¬(4:Int)=3 by decide),if_neg (show ¬(2:Int)=1 by decide),if_true];rw[show(2:Int)^(1:Int).toNat=2 from rfl,Int.emod_eq_of_lt h0 h1];omega
 rw[e1];omega
theorem zRc {p:Prog} {l:List Int} {c:Int} (hf:(fcE c).formed=true) (hc:c∈l) {y:Cell} (hy:p.cells[c.toNat]? =some y) (hw:y.w=1):VS p l (fcE c):=
 VS.of_lv hf fun x hx=>by
  rw[fcE,Expr.lv_eq,if_neg (by simp[Expr.kids_mk])]at hx;simp only[Expr.kids_mk,List.flatMap_cons,List.flatMap_nil,List.append_nil]at hx;rw[Expr.lv_eq,if_pos (by simp[Expr.kids_mk]),List.mem_singleton]at hx;subst hx;exact .inr ⟨.inl rfl,hc,y,hy,hw⟩
theorem LOk.cell {p:Prog} {l:List Int} {rely:Expr} (O:LOk p l rely) {c:Int} (hc:c∈l): ∃y,p.cells[c.toNat]? =some y/\1<=y.w/\y.w<=8/\y.w=(wOf p c:Int)/\wI p c=y.w:=by
 obtain⟨y,hy,h1,h2⟩:=O.wd c hc;have e:wOf p c=y.w.toNat:=by rw[wOf,hy]
 exact⟨y,hy,h1,h2,by omega,by rw[wI,hy]⟩
theorem LOk.lkE_ok {p:Prog} {l:List Int} {rely:Expr} (O:LOk p l rely) (hz:(lkE p).op≠0):VS p l (lkE p)/\ ∀o m,(∀c∈l,0<=atI m c/\atI m c<2^wOf p c)->((lkE p).eval o m=1<->lkB p m=true):=by
 have A:=zJJ hz;have hi: ∀k∈p.locks,(zLo (fcE k.cell) k.inv).op≠0:=fun k hk=>zIy (zLF hz _ (List.mem_map.2 ⟨k,hk,rfl⟩)).2
 constructor
 ·refine VS.and hz fun e he=> ?_
  obtain⟨k,hk,rfl⟩:=List.mem_map.1 he;obtain⟨k1,k2,k3,k4,k5⟩:=O.lk k hk;obtain⟨y,hy,_,_,hw,_⟩:=O.cell k1;exact(zMX (hi k hk)).2 p l (zRc (zKS (hi k hk)).1 k1 hy (by omega)) (VS.of_false k3 k5)
 ·intro o m hm;unfold lkE;rw[A.eval];unfold lkB;rw[zN];constructor
  ·intro h k hk;have h1:=((zMX (hi k hk)).1 o m).1 (h _ (List.mem_map.2 ⟨k,hk,rfl⟩));obtain⟨k1,k2,k3,k4,k5⟩:=O.lk k hk;have hr:=hm _ k1;rw[k2]at hr;rw[zM4 (zKS (hi k hk)).1 hr.1 hr.2]at h1
   by_cases h2:atI m k.cell=0
   ·have h3:=h1 h2;rw[zIc (p:=p) k3 (o:=o) (o':=m) (m':=m) fun _ _=>rfl]at h3;simp[h3]
   ·simp[h2]
  ·intro h e he;obtain⟨k,hk,rfl⟩:=List.mem_map.1 he;obtain⟨k1,k2,k3,k4,k5⟩:=O.lk k hk;have hr:=hm _ k1;rw[k2]at hr;refine((zMX (hi k hk)).1 o m).2 fun h1=> ?_
   rw[zM4 (zKS (hi k hk)).1 hr.1 hr.2]at h1;have h2:=h k hk;rw[h1]at h2;rw[zIc (p:=p) k3 (o:=o) (o':=m) (m':=m) fun _ _=>rfl];simpa using h2
theorem zO1 {p:Prog} {c:Int} (hf:(eqE p c).formed=true) (o m:List Int):(eqE p c).eval o m=1<->atI o c % 2^(wI p c).toNat=atI m c % 2^(wI p c).toNat:=by
 have e1:(eqE p c).eval o m=if atI o c % 2^(wI p c).toNat=atI m c % 2^(wI p c).toNat then 1 else 0:=by
  rw[Expr.eval,if_pos hf,eqE,Expr.ev_eq];simp only[Expr.op_mk,Expr.w_mk,Expr.kids_mk,List.map_cons,List.map_nil,List.getD_cons_zero,List.getD_cons_succ];rw[Expr.ev_eq o m (.mk 2 (wI p c) c []),Expr.ev_eq o m (.mk 3 (wI p c) c [])];simp[Expr.op_mk,Expr.w_mk,Expr.n_mk,opv]
 rw[e1];split<;>simp[*]
theorem zRg {p:Prog} {l:List Int} {c:Int} (hf:(eqE p c).formed=true) (hc:c∈l) {y:Cell} (hy:p.cells[c.toNat]? =some y):VS p l (eqE p c):=
 VS.of_lv hf fun x hx=>by
  have hw:wI p c=y.w:=by rw[wI,hy]
  rw[eqE,Expr.lv_eq,if_neg (by simp[Expr.kids_mk])]at hx;simp only[Expr.kids_mk,List.flatMap_cons,List.flatMap_nil,List.append_nil,List.mem_append]at hx;rcases hx with hx | hx<;>rw[Expr.lv_eq,if_pos (by simp[Expr.kids_mk]),List.mem_singleton]at hx<;>subst hx
  ·exact .inr ⟨.inr rfl,hc,y,hy,hw.symm⟩
  ·exact .inr ⟨.inl rfl,hc,y,hy,hw.symm⟩
theorem LOk.all_ok {p:Prog} {l:List Int} {rely:Expr} (O:LOk p l rely) {t:Int} (hz:(zHc (zHV p l t rely)).op≠0):VS p l (zHc (zHV p l t rely))/\(zHc (zHV p l t rely)).w=1/\rpL p.cells l (zHc (zHV p l t rely)) 4096=zIR p l t rely:=by
 have A:=zJJ hz;have C:=zLF hz;have f1:=(C (zNn (lkE p)) (by simp[zHV])).2;have f2:=(C (lkE p) (by simp[zHV])).2;have f4: ∀c∈l,zar p t c=true->(eqE p c).formed=true:=fun c hc ho=>(C (eqE p c) (by unfold zHV;exact List.mem_append_right _ (List.mem_map.2 ⟨c,List.mem_filter.2 ⟨hc,ho⟩,rfl⟩))).2
 obtain⟨v2,l2⟩:=O.lkE_ok (zIy f2);obtain⟨b1,b2⟩:=zPN f2 f1;refine⟨VS.and hz fun e he=> ?_,A.w,?_⟩
 ·unfold zHV at he;rcases List.mem_append.1 he with he | he
  ·simp only[List.mem_cons,List.not_mem_nil,or_false]at he;rcases he with rfl | rfl | rfl
   ·exact b2 p l v2
   ·exact v2
   ·exact O.rv
  ·obtain⟨c,hc,rfl⟩:=List.mem_map.1 he;obtain⟨hc,ho⟩:=List.mem_filter.1 hc;obtain⟨y,hy,_⟩:=O.cell hc;exact zRg (f4 c hc ho) hc hy
 ·refine List.Perm.eq_of_pairwise (le:=(· < ·)) (fun a b _ _ h1 h2=>by omega) zJV (O.prs t).inc ((List.perm_ext_iff_of_nodup (zJV.imp fun h=>by omega) ((O.prs t).inc.imp fun h=>by omega)).2 fun n=> ?_);rw[O.mem];unfold rpL;rw[List.mem_filter,List.mem_range];unfold rpB;simp only[zF,decide_eq_true_eq];have e1:=l2 (sX p l (n/ 64)) (sX p l (n/ 64)) fun c hc=>⟨(O.val _ hc).1,(O.val _ hc).2.1⟩
  have e2:=l2 (sX p l (n/ 64)) (sX p l (n % 64)) fun c hc=>⟨(O.val _ hc).1,(O.val _ hc).2.1⟩
  have hA:=A.eval (sX p l (n/ 64)) (sX p l (n % 64))
  have key:(∀e∈zHV p l t rely,e.eval (sX p l (n/ 64)) (sX p l (n % 64))=1)<->rely.eval (sX p l (n/ 64)) (sX p l (n % 64))=1/\lkB p (sX p l (n/ 64))=true/\lkB p (sX p l (n % 64))=true/\ ∀c∈l,zar p t c=true->atI (sX p l (n/ 64)) c=atI (sX p l (n % 64)) c:=by
   have q: ∀c∈l,zar p t c=true->((eqE p c).eval (sX p l (n/ 64)) (sX p l (n % 64))=1<->atI (sX p l (n/ 64)) c=atI (sX p l (n % 64)) c):=fun c hc ho=>by
    obtain⟨y,hy,_,_,h5,h6⟩:=O.cell hc;have r1:=O.val (n/ 64) hc;have r2:=O.val (n % 64) hc;rw[zO1 (f4 c hc ho),show(wI p c).toNat=wOf p c by omega,Int.emod_eq_of_lt r1.1 r1.2.1,Int.emod_eq_of_lt r2.1 r2.2.1]
   constructor
   ·intro h;have h1:=h (zNn (lkE p)) (by simp[zHV]);rw[b1]at h1;exact⟨h rely (by simp[zHV]),e1.1 h1,e2.1 (h (lkE p) (by simp[zHV])),fun c hc ho=>(q c hc ho).1 (h (eqE p c) (by unfold zHV;exact List.mem_append_right _ (List.mem_map.2 ⟨c,List.mem_filter.2 ⟨hc,ho⟩,rfl⟩)))⟩
   ·rintro⟨h1,h2,h3,h4⟩ e he;unfold zHV at he;rcases List.mem_append.1 he with he | he
    ·simp only[List.mem_cons,List.not_mem_nil,or_false]at he;rcases he with rfl | rfl | rfl
     ·rw[b1];exact e1.2 h2
     ·exact e2.2 h3
     ·exact h1
    ·obtain⟨c,hc,rfl⟩:=List.mem_map.1 he;obtain⟨hc,ho⟩:=List.mem_filter.1 hc;exact(q c hc ho).2 (h4 c hc ho)
  rw[key]at hA;unfold sX at hA⊢;rw[hA];exact⟨fun⟨a,⟨b,c⟩,d,e,f,g⟩=>⟨a,⟨b,c,d⟩,e,f,g⟩,fun⟨a,⟨b,c,d⟩,e,f,g⟩=>⟨a,⟨b,c⟩,d,e,f,g⟩⟩
def wkL (L:List Nat):Nat->List Nat->Option (List Nat)
 | 0,_=>none
 | f+1,s=>if zHe L s=s then some s else wkL L f (zHe L s)
theorem zG7 (L s:List Nat):(zHe L s).Sublist s:=List.filter_sublist
theorem zN9 {b:Nat} {L:List Nat} (hb:b<=6) (P:Prs b L): ∀(f:Nat) (s:List Nat),s.length<f->
 ∃r,wkL L f s=some r/\zHe L r=r/\r.Sublist s/\ ∀I:List Nat,(∀x∈I,x∈s)->(∀x∈I,∀y,y<64->64*x+y∈L->y∈I)-> ∀x∈I,x∈r
 | 0,s,h=>by omega
 | f+1,s,h=>by
   by_cases hs:zHe L s=s
   ·exact⟨s,by rw[wkL,if_pos hs],hs,List.Sublist.refl _,fun I h1 _=>h1⟩
   ·have Ad:(zHe L s).length<s.length:=by
     have h1:=(zG7 L s).length_le;rcases Nat.lt_or_ge (zHe L s).length s.length with h2 | h2
     ·exact h2
     ·exact absurd ((zG7 L s).eq_of_length (by omega)) hs
    obtain⟨r,h1,h2,h3,h4⟩:=zN9 hb P f (zHe L s) (by omega);refine⟨r,by rw[wkL,if_neg hs];exact h1,h2,h3.trans (zG7 L s),fun I i1 i2=>h4 I (fun x hx=>(zHS hb P).2 ⟨i1 x hx,fun y hy hm=>i1 y (i2 x hx y hy hm)⟩) i2⟩
theorem zMg {p:Prog} {l l':List Int} {rely x:Expr} {t:Int} (O:LOk p l rely) (O':LOk p l' rely) (D5: ∀c∈l',c∈l) (hb:zcD (pC p.cells) l<=6) (Bf:zcD (pC p.cells) l'<=6) {s:List Nat} (hf:x.formed=true)
 (D:Des (pC p.cells) l 40 (fun m=>zGE (pC p.cells) m l∈nI s) (fun m=>zGE (pC p.cells) m l∉ nI s) x) (Uu:zHe (zIR p l t rely) s=s):
 zHe (zIR p l' t rely) (inL (pC p.cells) l' zGi x)=inL (pC p.cells) l' zGi x:=by
 have S7:(2:Nat)^zcD (pC p.cells) l<=2^6:=Nat.pow_le_pow_right (by omega) hb
 have Aj: ∀m,x.eval m m=1<->(zGE (pC p.cells) m l).toNat∈s:=fun m=>by
  obtain⟨h1,h2⟩:=zHm (p:=pC p.cells) (mem:=m) l
  have h3:zGE (pC p.cells) m l∈nI s<->(zGE (pC p.cells) m l).toNat∈s:=by
   generalize zGE (pC p.cells) m l=z at *
   unfold nI;constructor
   ·intro h;obtain⟨a,ha,he⟩:=List.mem_map.1 h;have:z.toNat=a:=by omega
    rw[this];exact ha
   ·intro h;exact List.mem_map.2 ⟨z.toNat,h,h1⟩
  rw[<- h3,Expr.eval,if_pos hf]
  by_cases h4:zGE (pC p.cells) m l∈nI s
  ·exact⟨fun _=>h4,fun _=>D.one m h4⟩
  ·rw[D.zero m h4];exact⟨fun h=>by omega,fun h=>absurd h h4⟩
 have key: ∀z:Nat,∀c∈l,atI (sX p l (zGE (pC p.cells) (sX p l' z) l).toNat) c=atI (sX p l' z) c:=fun z c hc=>by
  obtain⟨h1,h2⟩:=zHm (p:=pC p.cells) (mem:=sX p l' z) l;have h3:=zKy (p:=pC p.cells) (mem:=sX p l' z) (s:=zGi) O.ne (fun d hd=>by have:=O.lc d hd;have:=O.c32;simp[zGi];omega) c hc;have h4:=O'.rng z (O.lc c hc).1;show atI (stM (pC p.cells) l (((zGE (pC p.cells) (sX p l' z) l).toNat:Nat):Int) zGi) c=_;rw[h1,h3];exact Int.emod_eq_of_lt h4.1 h4.2
 refine List.filter_eq_self.2 fun z hz=> ?_
 have Ce:z∈zHe (zIR p l' t rely) (inL (pC p.cells) l' zGi x):=by
  refine(zHS Bf (O'.prs t)).2 ⟨hz,fun y hy hm=> ?_⟩;obtain⟨FM,Tv⟩:=zHo.1 hz;obtain⟨⟨g1,g2,g3⟩,g4,g5,g6⟩:=(O'.mem2 Bf hy).1 hm;have hX:=(Aj (sX p l' z)).1 Tv;obtain⟨_,nX⟩:=zHm (p:=pC p.cells) (mem:=sX p l' z) l;obtain⟨_,nY⟩:=zHm (p:=pC p.cells) (mem:=sX p l' y) l;have kX:=key z;have kY:=key y
  generalize(zGE (pC p.cells) (sX p l' z) l).toNat=X at *
  have Vj:(zGE (pC p.cells) (sX p l' y) l).toNat∈s:=by
   generalize(zGE (pC p.cells) (sX p l' y) l).toNat=Y at *
   have Vk:64*X+Y∈zIR p l t rely:=by
    refine(O.mem2 hb (by omega)).2 ⟨⟨nX,nY,?_⟩,?_,?_,fun c hc ho=> ?_⟩
    ·rw[zM6 (p:=p) (o:=sX p l X) (o':=sX p l' z) (m:=sX p l Y) (m':=sX p l' y) O.rv.valid (fun c hc=>by rw[kY c (O.rv.sup 2 (.inl rfl) c hc)]) (fun c hc=>by rw[kX c (O.rv.sup 3 (.inr rfl) c hc)])];exact g3
    ·rw[O.lkB_eq kX];exact g4
    ·rw[O.lkB_eq kY];exact g5
    ·rw[kX c hc,kY c hc]
     by_cases Bz:c∈l'
     ·exact g6 c Bz ho
     ·rw[O'.off z (O.lc c hc).1 Bz,O'.off y (O.lc c hc).1 Bz]
   rw[<- Uu,zHS hb (O.prs t)]at hX;exact hX.2 Y (by omega) Vk
  exact zHo.2 ⟨g2,(Aj (sX p l' y)).2 Vj⟩
 unfold zHe at Ce;exact(List.mem_filter.1 Ce).2
end Rg
end
section
namespace Rg
open Go
theorem zMP (s:List Bool) (hs:s.length=32):Den Γ G 564 [.t (.ip (s.map fun b=>tb b))]=some (.t (ints (zbJ s 32))):=by
 (refine zag Γ564 rfl ?_;dsimp only[zQc])
 simp -dsimp -implicitDefEqProofs only[go_sem,seval];refine zaq 524216 32 (fun i f h x=>(f 7).v=vi i/\zaF h x (f 3).v 1 (zae (zbJ s i))) rfl ⟨by simp -dsimp -implicitDefEqProofs only[go_sem,seval],.inl ⟨by simp -dsimp -implicitDefEqProofs only[go_sem,seval],rfl⟩⟩ ?_;rintro i f u h x bs hi ⟨g7,hO⟩;have hw:=zan i (by omega)
 by_cases AV:i<32
 rotate_left
 ·have DB:((i:Int)<32)=False:=eq_false (by omega);have:i=32:=by omega
  subst this;have v1:=hO.valOf;have v5:=hO.resVal;simp only[Rg.resVal]at v5;have v6:=hO.reify (es:=(zbJ s 32).map fun n=>[ti n]) (zbP _);simp only[Rg.reify,toT1]at v6;simp -dsimp -implicitDefEqProofs only[go_sem,seval,g7,DB,v1,v5];exact v6
 have DB:((i:Int)<32)=True:=eq_true (by omega);have hx:s[i]? =some s[i]:=zI (by omega);have gx:s.getD i false=s[i]:=by simp[List.getD,hx]
 have BA:(s.map fun b=>tb b).length=32:=by simpa using hs
 have c1:i*1<=31:=by omega
 have hd:List.drop (i*1) (s.map fun b=>tb b)=tb s[i]::List.drop (i+1) (s.map fun b=>tb b):=by
  rw[Nat.mul_one];exact zdo (by rw[zJ,hx];rfl)
 have c2:(1<=(List.drop (i+1) (s.map fun b=>tb b)).length+1)=True:=eq_true (by omega)
 have N4:(zbJ s i).length<=i:=by
  unfold zbJ;rw[List.length_map];exact Nat.le_trans (List.length_filter_le _ _) (by simp)
 cases hb:s[i]with
 | false=>
   have FY:zbJ s (i+1)=zbJ s i:=by rw[ze4,gx,hb];simp
   rw[hb]at hd;simp -dsimp -implicitDefEqProofs only[go_sem,seval,g7,DB,BA,c1,hd,List.length_cons,c2,List.take_succ_cons,List.take_zero];refine⟨AV,by simp -dsimp -implicitDefEqProofs only[go_sem,seval,hw],?_⟩;simp -dsimp -implicitDefEqProofs only[go_sem,seval,FY]
   exact hO.le (by omega)
 | true=>
   have FY:zbJ s (i+1)=zbJ s i++[(i:Int)]:=by rw[ze4,gx,hb];rfl
   rw[hb]at hd;have v1:=hO.valOf;have v2:=hO.r2;have v3:=hO.r3;have v4:=hO.r4;have v5:=hO.r5;simp -dsimp -implicitDefEqProofs only[go_sem,seval,g7,DB,BA,c1,hd,List.length_cons,c2,List.take_succ_cons,List.take_zero,v1,v2,v3,v4,v5];refine zav (hO.upd (by omega) _) (by omega) (by rw[zab];omega) (by decide) rfl (zaQ _) ?_;intro v hp hP Bp Aq;have y1:=hP.valOf;simp -dsimp -implicitDefEqProofs only[go_sem,seval,y1,g7];refine⟨AV,by simp -dsimp -implicitDefEqProofs only[go_sem,seval,hw],?_⟩;simp -dsimp -implicitDefEqProofs only[go_sem,seval];rw[FY,za4];exact hP.le (by omega)
theorem zLD (p:Prog) (l:List Int) (hl:l.length<=40) (hc: ∀c∈l,0<=c/\ ∃y,p.cells[c.toNat]? =some y/\0<=y.w/\y.w<=8):Den Γ G 565 [(zP p),.t (ints l)]=some (vi (zcD p l)):=by
 have hb: ∀i,zcD p (l.take i)<=8*i:=by
  intro i
  induction i with
  | zero=>simp[zcD]
  | succ i ih=>
    by_cases hi:i<l.length
    ·obtain⟨c,hn,hm⟩:=zai hi;obtain⟨_,y,hy,y0,y8⟩:=hc c hm;have e:wOf p c=y.w.toNat:=by rw[wOf,hy]
     rw[zaf hn,zhF];omega
    ·rw[List.take_of_length_le (by omega)]at ih⊢;omega
 (refine zag Γ565 rfl ?_;dsimp only[zQb])
 simp -dsimp -implicitDefEqProofs only[go_sem,seval];refine zaT 8387744 l.length (fun i f=>(f 10).v=vi i/\(f 5).v=vi (zcD p (l.take i))) rfl rfl ⟨by simp -dsimp -implicitDefEqProofs only[go_sem,seval],by simp -dsimp -implicitDefEqProofs only[go_sem,seval];rfl⟩ ?_;rintro i f u x bs hi ⟨h4,h3⟩;have hw:=zan i (by omega)
 by_cases AV:i<l.length
 ·have DB:=eq_true AV;obtain⟨c,hn,hm⟩:=zai AV;obtain⟨c0,y,hy,y0,y8⟩:=hc c hm;have e:wOf p c=y.w.toNat:=by rw[wOf,hy]
  have h2:=hb (i+1);rw[zaf hn,zhF]at h2
  have Ht:IntKind.i64.wrap ((zcD p (l.take i):Int)+y.w)=((zcD p (l.take i)+wOf p c:Nat):Int):=by
   rw[show(zcD p (l.take i):Int)+y.w=((zcD p (l.take i)+wOf p c:Nat):Int)by omega];exact zaH (by omega)
  simp -dsimp -implicitDefEqProofs only[go_sem,seval,h4,h3,DB,hn,c0,hy,Cell.enc,Ht];refine⟨by omega,by simp -dsimp -implicitDefEqProofs only[go_sem,seval,hw],by simp -dsimp -implicitDefEqProofs only[go_sem,seval,zaf hn,zhF]⟩
 ·have DB:=eq_false AV;have:i=l.length:=by omega
  subst this;rw[List.take_length]at h3;simp -dsimp -implicitDefEqProofs only[go_sem,seval,h4,DB,h3]
theorem zLf (p:Prog) (t n:Nat) (x:Thread) (m:Int) (c:Contract) (hx:p.threads[t]? =some x) (hm:x.modules[n]? =some m) (m0:0<=m) (hc:p.modules[m.toNat]? =some c):Den Γ G 563 [(zP p),vi t,vi n]=some (eV c.rely):=by
 unfold eV
 (refine zag Γ563 rfl ?_;dsimp only[zQd])
 simp -dsimp -implicitDefEqProofs only[go_sem,seval,hx,hm,m0,hc,Thread.enc,Contract.enc]
theorem zJ8 (p:Prog) (st:List Int) (hl:p.locks.length<2^20) (hc: ∀k∈p.locks,0<=k.cell/\k.cell<st.length):Den Γ G 586 [(zP p),.t (ints st)]=some (vb (lkB p st)):=by
 (refine zag Γ586 rfl ?_;dsimp only[zPU])
 simp -dsimp -implicitDefEqProofs only[go_sem,seval];refine zaT 536869968 p.locks.length (fun i f=>(f 10).v=vi i/\(p.locks.take i).all (fun k=> !decide (atI st k.cell=0)||decide (k.inv.eval st st=1))=true) rfl rfl ⟨by simp -dsimp -implicitDefEqProofs only[go_sem,seval],rfl⟩ ?_;rintro i f u x bs hi ⟨h4,h3⟩;have hw:=zan i (by omega)
 by_cases AV:i<p.locks.length
 ·have DB:=eq_true AV;obtain⟨k,hk,It⟩:=zai AV;obtain⟨k0,k1⟩:=hc k It;have ev:=zd4 k.inv st st
  have AE:st[k.cell.toNat]? =some (atI st k.cell):=by
   rw[atI,zK,zI (by omega),Option.getD_some]
  have OU:(p.locks.take (i+1)).all (fun k=> !decide (atI st k.cell=0)||decide (k.inv.eval st st=1))=(!decide (atI st k.cell=0)||decide (k.inv.eval st st=1)):=by
   rw[zaf hk,List.all_append,h3];simp
  by_cases c1:atI st k.cell=0
  ·have c1':=eq_true c1
   by_cases c2:k.inv.eval st st=1
   ·have c2':=eq_true c2;simp -dsimp -implicitDefEqProofs only[go_sem,seval,h4,DB,hk,Lock.enc,Expr.enc_eq,k0,AE,c1',ev,c2'];exact⟨AV,by simp -dsimp -implicitDefEqProofs only[go_sem,seval,hw],by rw[OU];simp[c2]⟩
   ·have c2':=eq_false c2;have hf:lkB p st=false:=List.all_eq_false.2 ⟨k,It,by simp[c1,c2]⟩;simp -dsimp -implicitDefEqProofs only[go_sem,seval,h4,DB,hk,Lock.enc,Expr.enc_eq,k0,AE,c1',ev,c2',hf]
  ·have c1':=eq_false c1;simp -dsimp -implicitDefEqProofs only[go_sem,seval,h4,DB,hk,Lock.enc,Expr.enc_eq,k0,AE,c1'];exact⟨AV,by simp -dsimp -implicitDefEqProofs only[go_sem,seval,hw],by rw[OU];simp[c1]⟩
 ·have DB:=eq_false AV;have:i=p.locks.length:=by omega
  subst this;rw[List.take_length]at h3;have hf:lkB p st=true:=h3;simp -dsimp -implicitDefEqProofs only[go_sem,seval,h4,DB,hf]
theorem zL6 (F:T) (P:Int->Bool) (D:Int->Prop) (hP:zB3 F P D) (l:List Int) (hD: ∀n∈l,D n) (hl:l.length<2^50):
 Den Γ G 145 [.t (ints l),.t F]=some (vi (match l.findIdx? P with | some i=>i | none=> -1)):=by
 (refine zag Γ145 rfl ?_;dsimp only[f145])
 obtain⟨_,g,a,b,hf,hm,ha,hd⟩:=hP;have hK:=zsE hf;simp -dsimp -implicitDefEqProofs only[go_sem,seval];refine zaT 524080 l.length (fun i f=>(f 8).v=vi i/\ ∀x∈l.take i,P x=false) rfl rfl ⟨by simp -dsimp -implicitDefEqProofs only[go_sem,seval],by simp⟩ ?_;rintro i f u kk bb hi ⟨h8,Aa⟩;have hw:=zan i (by omega)
 by_cases AV:i<l.length
 ·have DB:=eq_true AV;obtain⟨y,hy,Fm⟩:=zai AV;have TO:=hd y (hD y Fm);cases hp:P y
  ·rw[hp]at TO;simp -dsimp -implicitDefEqProofs only[go_sem,seval,h8,DB,hy,hK,hm,ha,TO];refine⟨by omega,by simp -dsimp -implicitDefEqProofs only[go_sem,seval,hw],fun x hx=> ?_⟩;rw[zaf hy]at hx;rcases List.mem_append.1 hx with hx | hx
   ·exact Aa x hx
   ·rw[List.mem_singleton.1 hx];exact hp
  ·rw[hp]at TO
   have:l.findIdx? P=some i:=by
    rw[List.findIdx?_eq_some_iff_getElem];have HG:l[i]=y:=by rw[zI AV]at hy;exact Option.some.inj hy
    refine⟨AV,by rw[HG];exact hp,fun j hj=> ?_⟩;have:=Aa l[j] (by rw[List.mem_take_iff_getElem];exact⟨j,by omega,rfl⟩);simp[this]
   simp -dsimp -implicitDefEqProofs only[go_sem,seval,h8,DB,hy,hK,hm,ha,TO,this]
 ·have DB:=eq_false AV;have:i=l.length:=by omega
  subst this;rw[List.take_length]at Aa;have:l.findIdx? P=none:=by rw[List.findIdx?_eq_none_iff];exact Aa
  simp -dsimp -implicitDefEqProofs only[go_sem,seval,h8,DB,this]
theorem zJz (F:T) (P:Int->Bool) (D:Int->Prop) (hP:zB3 F P D) (l:List Int) (hD: ∀n∈l,D n) (hl:l.length<2^50):
 Den Γ G 131 [.t (ints l),.t F]=some (vb (l.any P)):=by
 (refine zag Γ131 rfl ?_;dsimp only[f131])
 have hd:=zL6 F P D hP l hD hl;have hn:=hP.1;simp only[T.norm]at hn;simp -dsimp -implicitDefEqProofs only[go_sem,seval,hd,hn]
 cases h:l.findIdx? P with
 | none=>
   rw[List.findIdx?_eq_none_iff]at h;have:l.any P=false:=by rw[List.any_eq_false];intro x hx;simp[h x hx]
   simp[this]
 | some i=>
   have:l.any P=true:=by
    rw[List.findIdx?_eq_some_iff_getElem]at h;obtain⟨hi,hp,_⟩:=h;rw[List.any_eq_true];exact⟨_,List.getElem_mem hi,hp⟩
   simp[this]
theorem zLM (p:Prog) (l s:List Int) (S:Shp l (wsM p l)) (n:Nat) (hn:n<2^40) (base:List Int) (hb:base.length<2^30) (D4: ∀c∈l,c.toNat<base.length):
 Den Γ G 531 [zGj l (wsM p l) s,vi n,.t (ints base)]=some (.t (ints (stM p l n base))):=by
 have a1:=zGX l (wsM p l) s S.inc S.len S.shp S.w S.sum.2;have FZ:l.length<=32:=S.len;unfold zGj at a1⊢
 (refine zag Γ531 rfl ?_;dsimp only[zPH])
 simp -dsimp -implicitDefEqProofs only[go_sem,seval];refine zni (by omega) ?_;rintro v hp hO hf Bn ⟨hv,hc⟩;rcases hO with⟨rfl,h0⟩ | ⟨k,rfl,ND,hk⟩
 ·have h1:=congrArg List.length h0;rw[zab]at h1;have H8:base=[]:=List.eq_nil_of_length_eq_zero h1
  have BX:l=[]:=by
   cases l with
   | nil=>rfl
   | cons c r=>have:=D4 c (by simp);rw[H8]at this;simp at this
  subst H8 BX;simp -dsimp -implicitDefEqProofs only[go_sem,seval,a1];refine zaD ?_;simp -dsimp -implicitDefEqProofs only[go_sem,seval];rfl
 rw[zab]at hv⊢
 have Ad: ∀i c,l[i]? =some c->0<=c/\c<32/\c.toNat<base.length/\1<=wOf p c/\wOf p c<=8:=fun i c hc=>by
  have h1:=S.shp;simp only[zHi,zF,zN,decide_eq_true_eq]at h1;have h2:=h1.2 (c,(wOf p c:Int)) (zL (i:=i) (by rw[List.getElem?_zip_eq_some];exact⟨hc,by rw[wsM,zJ,hc];rfl⟩));have h3:=D4 c (zL hc);simp only at h2;omega
 simp -dsimp -implicitDefEqProofs only[go_sem,seval,hv,a1];refine zaq 70368743130882 l.length (fun i f h x=>(f 20).v=vi i/\(f 1).v=vi ((n:Int)/ 2^zcD p (l.take i))/\h k=some (.rows 1 (zae (stM p (l.take i) n base)) false)/\k<x) rfl ⟨by simp -dsimp -implicitDefEqProofs only[go_sem,seval],by simp -dsimp -implicitDefEqProofs only[go_sem,seval];simp[zcD],by simp -dsimp -implicitDefEqProofs only[go_sem,seval];exact hk,by simp -dsimp -implicitDefEqProofs only[go_sem,seval];omega⟩ ?_;rintro i f u h x bb hi ⟨g20,g1,hh,hx⟩;have hw:=zan i (by omega)
 by_cases AV:i<l.length
 ·have DB:=eq_true AV;obtain⟨c,hc,_⟩:=zai AV;obtain⟨c0,_,c1,w0,w1⟩:=Ad i c hc;have FQ:(wsM p l)[i]? =some (wOf p c:Int):=by rw[wsM,zJ,hc];rfl
  have b1:(c<(base.length:Int))=True:=eq_true (by omega);have Nt:=zcn (wOf p c);have RF:(2:Int)^wOf p c<=2^8:=by exact_mod_cast Nat.pow_le_pow_right (n:=2) (by omega) w1
  have KN:0<=(n:Int)/ 2^zcD p (l.take i):=Int.ediv_nonneg (by omega) (Int.le_of_lt (zcn _));have Iz:(n:Int)/ 2^zcD p (l.take i)<=n:=Int.ediv_le_self _ (by omega);have s0:((wOf p c:Int)<0)=False:=eq_false (by omega)
  have s1:IntKind.i64.wrap (1*2^min (wOf p c) 64)=2^wOf p c:=by
   rw[Nat.min_eq_left (by omega),Int.one_mul];exact zaH (by omega)
  have s2:IntKind.i64.wrap (2^wOf p c-1)=2^wOf p c-1:=zaH (by omega);have s3:=ziA ((n:Int)/ 2^zcD p (l.take i)) (wOf p c:Int) (by omega);rw[Int.toNat_natCast]at s3
  have s4:((n:Int)/ 2^zcD p (l.take i)).fdiv (2^min (wOf p c) 64)=(n:Int)/ 2^zcD p (l.take i)/ 2^wOf p c:=by
   rw[Nat.min_eq_left (by omega),Int.fdiv_eq_ediv_of_nonneg _ (Int.le_of_lt Nt)]
  have BA:c.toNat<(stM p (l.take i) n base).length:=by rw[zlf];omega
  have B5:=zud BA;simp -dsimp -implicitDefEqProofs only[go_sem,seval,g20,g1,DB,hc,FQ,b1,hh,c0,s0,s1,s2,s3,s4,B5,zuc];refine⟨AV,by simp -dsimp -implicitDefEqProofs only[go_sem,seval,hw],?_,?_,by simp -dsimp -implicitDefEqProofs only[go_sem,seval];omega⟩
  ·simp -dsimp -implicitDefEqProofs only[go_sem,seval,zaf hc,zhF,Int.pow_add];rw[Int.ediv_ediv_of_nonneg (Int.le_of_lt (zcn _))]
  ·simp -dsimp -implicitDefEqProofs only[go_sem,seval,zaf hc,zoQ]
 ·have DB:=eq_false AV;have:i=l.length:=by omega
  subst this;rw[List.take_length]at hh;simp -dsimp -implicitDefEqProofs only[go_sem,seval,g20,DB];have Ac:(zae (stM p l n base)).length=base.length:=by rw[zab,zlf]
  simp only[hh];rw[if_pos (by omega),zD,List.take_of_length_le (by omega),zHM];rfl
theorem zK2 (p:Prog) (hs:p.sane) (G2:(zbM p).1=0) (t n:Nat) (x:Thread) (m:Int) (c:Contract) (hx:p.threads[t]? =some x) (hn:(n:Int)<x.points) (hm:x.modules[n]? =some m) (m0:0<=m) (hc:p.modules[m.toNat]? =some c):
 Den Γ G 560 [(zP p),vi t,vi n]=some (vb (decide (c.rely.op≠0))):=by
 have a1:=zeV p hs;rw[G2]at a1;have a2:=zLf p t n x m c hx hm m0 hc;unfold eV at a2;have e1:((t:Int)<0)=False:=eq_false (by omega);have e2:((n:Int)<0)=False:=eq_false (by omega);have e3:((t:Int)>=(p.threads.length:Int))=False:=eq_false (by have:=(zH.1 hx).1;omega);have e4:((n:Int)>=x.points)=False:=eq_false (by omega)
 (refine zag Γ560 rfl ?_;dsimp only[zPG])
 simp -dsimp -implicitDefEqProofs only[go_sem,seval,a1,a2,e1,e2,e3,e4,hx,Thread.enc]
def zIQ (p:Prog) (l:List Int) (i:Nat):List (List T):=(List.range i).map fun n:Nat=>[ints (s0 p l n)]
theorem zJW {p:Prog} {l:List Int} {i j:Nat} (h:j<i):(zIQ p l i)[j]? =some [ints (s0 p l j)]:=by
 unfold zIQ;rw[zJ,List.getElem?_range h];rfl
def mvT (p:Prog) (l:List Int) (t:Int) (N x y:Nat):T:=.fn 587 [] [.ip [.sl (p.cells.map Cell.enc),.sl (p.modules.map Contract.enc),.sl (p.locks.map Lock.enc),.sl (p.threads.map Thread.enc)],.ip [ti t],.ip [.sl (zIQ p l N)],.ip [ti x],.ip [ti y]]
theorem zMq (p:Prog) (l:List Int) (n:Nat):(s0 p l n).length=p.cells.length:=by rw[s0,zlf];simp
theorem zOP (p:Prog) (l:List Int) (t:Int) (N x y:Nat) (hx:x<N) (hy:y<N) (c:Int) (hc:0<=c) (By:c<p.cells.length):Den Γ G 587 [vi c,.t (.ip [.sl (p.cells.map Cell.enc),.sl (p.modules.map Contract.enc),.sl (p.locks.map Lock.enc),.sl (p.threads.map Thread.enc)]),.t (.ip [ti t]),.t (.ip [.sl (zIQ p l N)]),.t (.ip [ti x]),.t (.ip [ti y])]=
 some (vb (zar p t c&& !decide (atI (s0 p l x) c=atI (s0 p l y) c))):=by
 obtain⟨z,hz⟩: ∃z,p.cells[c.toNat]? =some z:=⟨_,zI (by omega)⟩
 have g1:(s0 p l x)[c.toNat]? =some (atI (s0 p l x) c):=by
  have:=zMq p l x;rw[atI,zK,zI (by omega),Option.getD_some]
 have g2:(s0 p l y)[c.toNat]? =some (atI (s0 p l y) c):=by
  have:=zMq p l y;rw[atI,zK,zI (by omega),Option.getD_some]
 have t1:=zJW (p:=p) (l:=l) hx;have t2:=zJW (p:=p) (l:=l) hy;have ho:=zb6 (p:=p) (t:=t) hc hz;rw[ho]
 (refine zag Γ587 rfl ?_;dsimp only[zPT])
 by_cases c1:z.thread=t
 ·have c1':=eq_true c1
  by_cases c2:atI (s0 p l x) c=atI (s0 p l y) c
  ·have c2':=eq_true c2;simp -dsimp -implicitDefEqProofs only[go_sem,seval,hz,Cell.enc,hc,c1',t1,t2,g1,g2,c2']
  ·have c2':=eq_false c2;simp -dsimp -implicitDefEqProofs only[go_sem,seval,hz,Cell.enc,hc,c1',t1,t2,g1,g2,c2']
   (try rfl)
 ·have c1':=eq_false c1;simp -dsimp -implicitDefEqProofs only[go_sem,seval,hz,Cell.enc,hc,c1']
  (try rfl)
theorem zRs (p:Prog) (l:List Int) (t:Int) (N x y:Nat) (hx:x<N) (hy:y<N):zB3 (mvT p l t N x y) (fun c=>zar p t c&& !decide (atI (s0 p l x) c=atI (s0 p l y) c)) (fun c=>0<=c/\c<p.cells.length):=by
 refine⟨rfl,587,[],_,rfl,fun hh n=> ?_,fun n=> ?_,fun n hn=>zOP p l t N x y hx hy n hn.1 hn.2⟩
 ·exact zhl hh (ti n::[.ip [.sl (p.cells.map Cell.enc),.sl (p.modules.map Contract.enc),.sl (p.locks.map Lock.enc),.sl (p.threads.map Thread.enc)],.ip [ti t],.ip [.sl (zIQ p l N)],.ip [ti x],.ip [ti y]]) (fun t ht=>by
   simp only[List.mem_cons,List.not_mem_nil,or_false]at ht
   rcases ht with rfl | rfl | rfl | rfl | rfl | rfl<;>rfl)
 ·rfl
theorem zNQ (p:Prog) (l:List Int) (t:Int) (N x y:Nat) (hx:x<N) (hy:y<N) (hl:l.length<2^40) (Mv: ∀c∈l,0<=c/\c<p.cells.length):Den Γ G 131 [.t (ints l),.t (mvT p l t N x y)]=some (vb (zOm p l t x y)):=
 zJz _ _ _ (zRs p l t N x y hx hy) l Mv (by omega)
end Rg
end
section
set_option maxRecDepth 100000
namespace Rg
open Go
theorem LOk.shp {p:Prog} {l:List Int} {rely:Expr} (O:LOk p l rely):zHi l (wsC p.cells l)=true:=by
 unfold zHi wsC;rw[List.length_map,zF];refine⟨by simp,?_⟩;rw[zN];intro q hq;obtain⟨i,hi,rfl⟩:=List.getElem_of_mem hq;rw[List.getElem_zip,List.getElem_map];have AV:i<l.length:=by simp at hi;exact hi
 have hm:=List.getElem_mem AV;obtain⟨c0,c1⟩:=O.lc _ hm;obtain⟨y,hy,w1,w8⟩:=O.wd _ hm;have UK:=O.c32;rw[zK,hy,Option.getD_some];simp only[zF,decide_eq_true_eq];omega
theorem LOk.sum {p:Prog} {l:List Int} {rely:Expr} (O:LOk p l rely):zGp (wsC p.cells l)=(zcD (pC p.cells) l:Int):=by rw[zGw O.lc O.shp,zHb]
theorem LOk.len {p:Prog} {l:List Int} {rely:Expr} (O:LOk p l rely):l.length<=32:=by
 have h:=zHn (N:=32) (L:=l.map Int.toNat) (List.pairwise_map.2 (O.pw.imp_of_mem fun ha hb h=>by have:=O.lc _ ha;have:=O.lc _ hb;omega)) (fun n hn=>by
  obtain⟨c,hc,rfl⟩:=List.mem_map.1 hn;have:=O.lc c hc;have:=O.c32
  omega)
 simpa using h
theorem LOk.S {p:Prog} {l:List Int} {rely:Expr} (O:LOk p l rely) (hb:zcD (pC p.cells) l<=12):Shp l (wsC p.cells l):=by
 rw[zGw O.lc O.shp];exact zLb O.pw O.lc O.shp (by rw[O.sum];omega)
def zKu (p:Prog) (l:List Int) (i:Nat):List (List V):=(List.range i).map fun n:Nat=>[.t (ints (s0 p l n))]
theorem zMh {p:Prog} {l:List Int} {i:Nat}:zKu p l (i+1)=zKu p l i++[[.t (ints (s0 p l i))]]:=by
 unfold zKu;rw[List.range_succ,List.map_append];rfl
theorem zHL {p:Prog} {l:List Int} {i:Nat}:(zKu p l i).length=i:=by simp[zKu]
theorem zNv {p:Prog} {l:List Int} {i:Nat}:((zKu p l i).all fun r=>decide (r.length=1))=true:=by simp[zKu]
def hoR (p:Prog) (l:List Int) (i:Nat):List (List V):=(List.range i).map fun n:Nat=>[vb (lkB p (s0 p l n))]
theorem zNV {p:Prog} {l:List Int} {i:Nat}:hoR p l (i+1)=hoR p l i++[[vb (lkB p (s0 p l i))]]:=by
 unfold hoR;rw[List.range_succ,List.map_append];rfl
theorem zHD {p:Prog} {l:List Int} {i:Nat}:(hoR p l i).length=i:=by simp[hoR]
theorem zOW {p:Prog} {l:List Int} {i:Nat}:((hoR p l i).all fun r=>decide (r.length=1))=true:=by simp[hoR]
theorem zMZ {p:Prog} {l:List Int} {i j:Nat} (h:j<i):(hoR p l i)[j]? =some [vb (lkB p (s0 p l j))]:=by
 unfold hoR;rw[zJ,List.getElem?_range h];rfl
theorem zQ6 {g:Nat} {args rs:List V} {hp:Nat->Option O} {n:Nat} {r:V} (hd:Den Γ G g rs=some r) (AD:args.mapM (toT1 hp)=some rs) (P:Nat->Prop) (hP: ∀j∈args.flatMap (zba hp),P j):
 ∃r' h' n',DenR Γ G g args hp n=some (r',h',n')/\(r'=r/\n'=n/\ ∀j,¬P j->h' j=hp j):=by
 refine⟨_,_,_,zKi hd AD,rfl,rfl,fun j hj=> ?_⟩;rw[<- zek];refine zKe fun x hx=> ?_
 split at hx
 ·cases hx
 ·simp only[freezes,List.mem_filterMap]at hx;obtain⟨q,hq,hx⟩:=hx;split at hx
  ·cases hx;rintro rfl;exact hj (hP _ hq)
  ·cases hx
theorem zPl {p:Prog} {l:List Int} {N:Nat}:zKu p l N=(zIQ p l N).map (·.map V.t):=by
 unfold zKu zIQ;rw[List.map_map];rfl
theorem zNu {p:Prog} {l:List Int} {N:Nat} (h:Nat->Option O) (d:Nat):(zKu p l N).mapM (fun row=>row.mapM (toT h d))=some (zIQ p l N):=by
 rw[zPl];refine zdJ h d _ fun e he t ht=> ?_
 unfold zIQ at he;obtain⟨n,_,rfl⟩:=List.mem_map.1 he;simp only[List.mem_cons,List.not_mem_nil,or_false]at ht;subst ht;rfl
theorem zPy {H:Nat->Option O} {p:Prog} {l:List Int} {t:Int} {N x y ka kx ky:Nat} (h0:H 0=some (.rows 4 [[.t (.sl (p.cells.map Cell.enc)),.t (.sl (p.modules.map Contract.enc)),.t (.sl (p.locks.map Lock.enc)),.t (.sl (p.threads.map Thread.enc))]] false))
 (h1:H 1=some (.rows 1 [[vi t]] false)) (SA:H 25=some (.rows 1 [[.ms ka 0 N]] false)) (ha:H ka=some (.rows 1 (zKu p l N) false)) (ND:H kx=some (.rows 1 [[vi x]] false)) (hky:H ky=some (.rows 1 [[vi y]] false)):
 toT1 H (.fn 587 [] [.mp 0 0 0,.mp 1 0 0,.mp 25 0 0,.mp kx 0 0,.mp ky 0 0])=some (.t (mvT p l t N x y)):=by
 have e:toT H 998 (.ms ka 0 N)=some (.sl (zIQ p l N)):=by
  simp only[toT,ha,rd];rw[if_pos (by rw[zHL];omega),List.drop_zero,List.take_of_length_le (by rw[zHL];omega),zC,zD,zNu];rfl
 simp only[toT1,toT,h0,h1,SA,ND,hky,List.mapM_cons,List.mapM_nil,List.getElem?_cons_zero,List.drop_zero,zC,zD,Option.pure_def,↓e];rfl
def zOr (p:Prog) (l:List Int) (t:Int) (L:List Nat):List Nat:=L.filter fun n=>lkB p (s0 p l (n/ 64))&&lkB p (s0 p l (n % 64))&& !zOm p l t (n/ 64) (n % 64)
theorem zNU (p:Prog) (l:List Int) (t:Int) (rely:Expr) (O:LOk p l rely) (hw:rely.w=1) (hb:zcD (pC p.cells) l<=6) (hk:p.locks.length<2^20):
 Den Γ G 566 [(zP p),vi t,.t (ints l),(.agg [.t (ti (rely).op),.t (ti (rely).w),.t (ti (rely).n),.t (.sl ((rely).kids.map (Expr.enc)))])]=some (.tup [zHy l (wsC p.cells l) (zIR p l t rely),vi 0]):=by
 have FZ:=O.len
 have a1:=zIo p.cells l rely O.pw (by omega) O.lc (fun _ c hc=>by
  rcases List.mem_append.1 hc with h | h
  ·exact O.rv.sup 3 (.inr rfl) c h
  ·exact O.rv.sup 2 (.inl rfl) c h)
 unfold zPv at a1;rw[if_neg (by rw[O.shp];simp),if_neg (by rw[O.sum];omega),if_neg (by rw[O.rv.valid,hw];simp)]at a1
 have a2:Den Γ G 565 [(zP p),.t (ints l)]=some (vi (zcD (pC p.cells) l)):=zLD p l (by omega) fun c hc=>by
  obtain⟨y,hy,w1,w8⟩:=O.wd c hc;exact⟨(O.lc c hc).1,y,hy,by omega,by omega⟩
 have S7:(2:Nat)^zcD (pC p.cells) l<=2^6:=Nat.pow_le_pow_right (by omega) hb;have s0':((zcD (pC p.cells) l:Int)<0)=False:=eq_false (by omega)
 have s1:IntKind.i64.wrap (1*2^min (zcD (pC p.cells) l) 64)=((2^zcD (pC p.cells) l:Nat):Int):=by
  have h4:(1*2^min (zcD (pC p.cells) l) 64:Int)=((2^zcD (pC p.cells) l:Nat):Int):=by
   rw[Nat.min_eq_left (by omega)];push_cast;omega
  rw[h4]
  generalize(2:Nat)^zcD (pC p.cells) l=q at S7⊢
  exact zaH (by omega)
 have S:=O.S (by omega);unfold zHy at a1⊢
 (refine zag Γ566 rfl ?_;dsimp only[zQa])
 have By:(p.cells.map Cell.enc).length=p.cells.length:=by simp
 have UK:=O.c32;simp -dsimp -implicitDefEqProofs only[go_sem,seval,a1,a2,s0',s1]
 refine zaq 36893470555233173504 (2^zcD (pC p.cells) l) (fun i f h x=>(f 44).v=vi i/\h 0=some (.rows 4 [[.t (.sl (p.cells.map Cell.enc)),.t (.sl (p.modules.map Contract.enc)),.t (.sl (p.locks.map Lock.enc)),.t (.sl (p.threads.map Thread.enc))]] false)/\h 1=some (.rows 1 [[vi t]] false)/\
  (∃va,h 25=some (.rows 1 [[va]] false)/\zaF h x va 1 (zKu p l i)/\(∀j,j<26->zbg va j)/\(∀j,zbg va j\/zbg (f 14).v j))/\zaF h x (f 14).v 1 (hoR p l i)/\(∀j,j<26->zbg (f 14).v j)/\26<=x) rfl ⟨by simp -dsimp -implicitDefEqProofs only[go_sem,seval],?_,?_,⟨.t .nils,?_,.inl ⟨rfl,rfl⟩,(fun j _ i n e=>by cases e),fun j=> .inl fun i n e=>by cases e⟩,.inl ⟨by simp -dsimp -implicitDefEqProofs only[go_sem,seval],rfl⟩,?_,by(try simp -dsimp -implicitDefEqProofs only[go_sem,seval]);(try omega)⟩ ?_
 ·simp -dsimp -implicitDefEqProofs only[go_sem,seval]
 ·simp -dsimp -implicitDefEqProofs only[go_sem,seval]
 ·simp -dsimp -implicitDefEqProofs only[go_sem,seval]
 ·simp -dsimp -implicitDefEqProofs only[go_sem,seval];intro j _ i n e;cases e
 rintro i f u h x bb hi ⟨g44,h0,h1,⟨va,SA,hA,TW,hD⟩,hB,TV,hx⟩;have hw:=zan i (by omega)
 by_cases AV:i<2^zcD (pC p.cells) l
 ·have DB:(i<2^zcD (pC p.cells) l)=True:=eq_true AV;have c32:((p.cells.length:Int)<=4294967296)=True:=eq_true (by omega);have cle:((p.cells.length:Int)<=(p.cells.length:Int))=True:=eq_true (Int.le_refl _);have Dh:toT1 (updC h (x+1+2+5) (some (Rg.O.rows 1 (List.replicate p.cells.length [zi]) false))) (.ms (x+1+2+5) 0 p.cells.length)=some (.t (ints (List.replicate p.cells.length 0))):=zp6 (fz:=false) (by rw[zaa,if_pos rfl];simp[zae]) (by simp);have st:=zLM (pC p.cells) l [] (by rw[<- zGw O.lc O.shp];exact S) i (by omega) (List.replicate p.cells.length 0) (by simp;omega) (fun c hc=>by have:=O.lc c hc;simp;omega);rw[<- zGw O.lc O.shp]at st;unfold zGj at st;have st':Den Γ G 531 [.agg [.t (ints l),.t (ints (wsC p.cells l)),.t (ints [])],vi i,.t (ints (List.replicate p.cells.length 0))]=some (.t (ints (s0 p l i))):=st;simp -dsimp -implicitDefEqProofs only[go_sem,seval,g44,DB,h0,By,c32,cle];refine zas (zQ6 st' ?_ (· =x+1+2+5) ?_) ?_
  ·have u1: ∀hh,toT1 hh (.agg [.t (ints l),.t (ints (wsC p.cells l)),.t .nils])=some (.agg [.t (ints l),.t (ints (wsC p.cells l)),.t (ints [])]):=fun hh=>rfl
   have u2: ∀hh,toT1 hh (vi i)=some (vi i):=fun hh=>rfl
   simp only[List.mapM_cons,List.mapM_nil,u1,u2,Dh,zC,zD,Option.pure_def]
  ·have lz:LsF (updC h (x+1+2+5) (some (Rg.O.rows 1 (List.replicate p.cells.length [.t (.int .i64 0)]) false))) (· =x+1+2+5) (.ms (x+1+2+5) 0 p.cells.length) (List.replicate p.cells.length 0):=.inr ⟨_,false,by simp,rfl,by rw[zaa,if_pos rfl];simp[zae]⟩;intro j hj;simp only[List.flatMap_cons,List.flatMap_nil,zba,List.mem_append,List.append_nil]at hj;rcases hj with hj | hj | hj
   ·simp[reach]at hj
   ·simp[reach]at hj
   ·exact lz.reach j hj
  rintro r h2 X ⟨rfl,hX,AF⟩;have kp2: ∀j,j<x->h2 j=h j:=fun j hj=>by rw[AF j (by omega),zaa,if_neg (by omega)]
  have q0:=kp2 0 (by omega);have q25:=kp2 25 (by omega);rw[h0]at q0;rw[SA]at q25;have SM:zaF h2 X va 1 (zKu p l i):=hA.keep (by omega) fun k hk _=>kp2 k hk
  have y1:=SM.valOf;have v1:=SM.r1;have v2:=SM.r2;have v3:=SM.r3;have v4:=SM.r4;have v5:=SM.r5;have lc:=zJ8 p (s0 p l i) hk (fun k hk=>by rw[zMq];exact O.lc _ (O.lk k hk).1);simp -dsimp -implicitDefEqProofs only[go_sem,seval,q0,q25,y1,v1,v2,v3,v4,v5];refine zav (SM.upd (by omega) _) (by omega) (by rw[zHL];omega) (by decide) rfl zNv ?_;intro w hp hP Bp Aq;have z1:=hP.valOf;have k0:=Aq 0 (by omega) (TW 0 (by omega));rw[zaa,if_neg (by omega),q0]at k0;have k25:=Aq 25 (by omega) (TW 25 (by omega));rw[zaa,if_neg (by omega),q25]at k25;have zc:=hP.cells;unfold V.cells at zc;simp -dsimp -implicitDefEqProofs only[go_sem,seval,z1,zc,k0,k25,lc]
  have e25:At (At (At h2 [(X+2,.rows 1 [[.t (ints (s0 p l i))]] false)]) hp) [(25,.rows 1 [[w]] false)] 25=some (.rows 1 [[w]] false):=by
   simp only[zaC,zaA];rw[zaa,if_pos rfl]
  have eo: ∀j,j≠25->At (At (At h2 [(X+2,.rows 1 [[.t (ints (s0 p l i))]] false)]) hp) [(25,.rows 1 [[w]] false)] j=At (updC h2 (X+2) (some (.rows 1 [[.t (ints (s0 p l i))]] false))) hp j:=fun j hj=>by
   simp only[zaC,zaA];rw[zaa,if_neg hj]
  generalize At (At (At h2 [(X+2,.rows 1 [[.t (ints (s0 p l i))]] false)]) hp) [(25,.rows 1 [[w]] false)]=H3 at e25 eo⊢
  have kp3: ∀j,j<x->j≠25->zbg va j->H3 j=h j:=fun j hj SA ho=>by
   rw[eo j SA,Aq j (by omega) ho,zaa,if_neg (by omega)];exact kp2 j hj
  have p0:=kp3 0 (by omega) (by omega) (TW 0 (by omega));rw[h0]at p0;have Mb:zaF H3 X (f 14).v 1 (hoR p l i):=hB.keep (by omega) fun k hk Be=>kp3 k hk (fun e=>Be (TV k (by omega))) ((hD k).resolve_right Be)
  have UD:zaF H3 (X+(0+1+1+1)+1) w 1 (zKu p l i++[[.t (ints (s0 p l i))]]):=hP.keep (by omega) fun k hk Be=>eo k fun e=>Be (by subst e;exact Bp 25 (by omega))
  have y3:=Mb.valOf;have u1:=Mb.r1;have u2:=Mb.r2;have u3:=Mb.r3;have u4:=Mb.r4;have u5:=Mb.r5;simp -dsimp -implicitDefEqProofs only[go_sem,seval,y3,p0,lc,u1,u2,u3,u4,u5];refine zav ((Mb.le (show X<=X+5+4 by omega)).upd (Nat.le_refl _) _) (by omega) (by rw[zHD];omega) (by decide) rfl zOW ?_;intro v Vu UF SE PS;have z4:=UF.valOf;have p1:=kp3 1 (by omega) (by omega) (TW 1 (by omega));rw[h1]at p1;simp -dsimp -implicitDefEqProofs only[go_sem,seval,z4,g44];refine⟨AV,by simp -dsimp -implicitDefEqProofs only[go_sem,seval,hw],?_,?_,⟨w,?_,?_,fun j hj=>Bp j (by omega),fun j=> ?_⟩,?_,fun j hj=> ?_,by(try simp -dsimp -implicitDefEqProofs only[go_sem,seval]);(try omega)⟩
  ·simp -dsimp -implicitDefEqProofs only[go_sem,seval];rw[PS 0 (by omega) (TV 0 (by omega)),zaa,if_neg (by omega)];exact p0
  ·simp -dsimp -implicitDefEqProofs only[go_sem,seval];rw[PS 1 (by omega) (TV 1 (by omega)),zaa,if_neg (by omega)];exact p1
  ·simp -dsimp -implicitDefEqProofs only[go_sem,seval];rw[PS 25 (by omega) (TV 25 (by omega)),zaa,if_neg (by omega)];exact e25
  ·simp -dsimp -implicitDefEqProofs only[go_sem,seval];rw[zMh];refine UD.keep (by(try simp -dsimp -implicitDefEqProofs only[go_sem,seval]);(try omega)) fun k hk Be=> ?_
   have NH:X<=k:=Nat.le_of_not_lt fun Ad=>Be (Bp k (by omega))
   rw[PS k (by omega) (Mb.off NH),zaa,if_neg (by omega)]
  ·simp -dsimp -implicitDefEqProofs only[go_sem,seval];rcases Nat.lt_or_ge j (X+5+4+1)with hj | hj
   ·exact .inr (SE j hj)
   ·exact .inl (UD.off (by omega))
  ·simp -dsimp -implicitDefEqProofs only[go_sem,seval];rw[zNV];exact UF.le (by(try simp -dsimp -implicitDefEqProofs only[go_sem,seval]);(try omega))
  ·simp -dsimp -implicitDefEqProofs only[go_sem,seval];exact SE j (by omega)
 have DB:(i<2^zcD (pC p.cells) l)=False:=eq_false AV;have:i=2^zcD (pC p.cells) l:=by omega
 subst this;have hN:=Nat.two_pow_pos (zcD (pC p.cells) l)
 generalize Vm:2^zcD (pC p.cells) l=N at *
 obtain⟨ka,rfl,Ve,Ew⟩: ∃ka,va= .ms ka 0 N/\ka<x/\h ka=some (.rows 1 (zKu p l N) false):=by
  rcases hA with⟨_,e0⟩ | ⟨ka,e1,e2,e3⟩
  ·have:=congrArg List.length e0;rw[zHL,List.length_nil]at this;omega
  ·rw[zHL]at e1;exact⟨ka,e1,e2,e3⟩
 obtain⟨kb,e14,Vd,Do⟩: ∃kb,(f 14).v= .ms kb 0 N/\kb<x/\h kb=some (.rows 1 (hoR p l N) false):=by
  rcases hB with⟨_,e0⟩ | ⟨ka,e1,e2,e3⟩
  ·have:=congrArg List.length e0;rw[zHD,List.length_nil]at this;omega
  ·rw[zHD]at e1;exact⟨ka,e1,e2,e3⟩
 have hL: ∀n∈rpL p.cells l rely 4096,n/ 64<N/\n % 64<N:=fun n hn=>by
  have h2:=(List.mem_filter.1 hn).2;unfold rpB at h2;simp only[zF,decide_eq_true_eq,Vm]at h2;exact h2.1
 have Pu:(rpL p.cells l rely 4096).length<=4096:=zHn zJV fun n hn=>zMv (Nat.le_refl _) hn
 have Vn:((rpL p.cells l rely 4096).map prT).length=(rpL p.cells l rely 4096).length:=by simp
 have Cf:zIR p l t rely=zOr p l t (rpL p.cells l rely 4096):=rfl;rw[Cf]
 generalize rpL p.cells l rely 4096=L at *
 simp -dsimp -implicitDefEqProofs only[go_sem,seval,g44,DB,Vn]
 refine zaq 316912649761909445194830970880 L.length (fun i f h x=>(f 68).v=vi i/\h 0=some (.rows 4 [[.t (.sl (p.cells.map Cell.enc)),.t (.sl (p.modules.map Contract.enc)),.t (.sl (p.locks.map Lock.enc)),.t (.sl (p.threads.map Thread.enc))]] false)/\h 1=some (.rows 1 [[vi t]] false)/\
  h 25=some (.rows 1 [[.ms ka 0 N]] false)/\h ka=some (.rows 1 (zKu p l N) false)/\h kb=some (.rows 1 (hoR p l N) false)/\zaF h x (f 17).v 2 (rwP (zOr p l t (L.take i)))/\ka<x/\kb<x/\26<=x) rfl ⟨by simp -dsimp -implicitDefEqProofs only[go_sem,seval],h0,h1,SA,Ew,Do,.inl ⟨by simp -dsimp -implicitDefEqProofs only[go_sem,seval],rfl⟩,by(try simp -dsimp -implicitDefEqProofs only[go_sem,seval]);(try omega),by(try simp -dsimp -implicitDefEqProofs only[go_sem,seval]);(try omega),by(try simp -dsimp -implicitDefEqProofs only[go_sem,seval]);(try omega)⟩ ?_
 rintro i f2 u2 h2 x2 bb2 Cq ⟨g68,q0,q1,q25,qa,qb,hO,Vz,Ds,ML⟩;have BO:=zan i (by omega)
 by_cases A4:i<L.length
 ·have EI:(i<L.length)=True:=eq_true A4;obtain⟨n,hn,GE⟩:=zai A4;obtain⟨n1,n2⟩:=hL n GE;have Fg:=zJo hn;have mv:=zNQ p l t N (n/ 64) (n % 64) n1 n2 (by omega) O.lc;have xn:(x2=x2+1)=False:=eq_false (by omega);have xn2:(x2+1=x2)=False:=eq_false (by omega)
  have kp: ∀j,j<x2->updC (updC (updC (updC h2 (x2+1+4+4) (some (Rg.O.rows 1 [[.t (.int .i64 0)]] false))) (x2+1+4+5) (some (Rg.O.rows 1 [[.t (.int .i64 0)]] false))) (x2+1+4+4) (some (Rg.O.rows 1 [[vi (n/ 64:Nat)]] false))) (x2+1+4+5) (some (Rg.O.rows 1 [[vi (n % 64:Nat)]] false)) j=h2 j:=fun j hj=>by
   rw[zaa,if_neg (by omega),zaa,if_neg (by omega),zaa,if_neg (by omega),zaa,if_neg (by omega)]
  have tt:toT1 (updC (updC (updC (updC h2 (x2+1+4+4) (some (Rg.O.rows 1 [[.t (.int .i64 0)]] false))) (x2+1+4+5) (some (Rg.O.rows 1 [[.t (.int .i64 0)]] false))) (x2+1+4+4) (some (Rg.O.rows 1 [[vi (n/ 64:Nat)]] false))) (x2+1+4+5) (some (Rg.O.rows 1 [[vi (n % 64:Nat)]] false)))
   (.fn 587 [] [.mp 0 0 0,.mp 1 0 0,.mp 25 0 0,.mp (x2+1+4+4) 0 0,.mp (x2+1+4+5) 0 0])=some (.t (mvT p l t N (n/ 64) (n % 64))):=by
   exact zPy (by rw[kp _ (by omega)];exact q0) (by rw[kp _ (by omega)];exact q1) (by rw[kp _ (by omega)];exact q25) (by rw[kp _ (by omega)];exact qa) (by rw[zaa,if_neg (by omega),zaa,if_pos rfl]) (by rw[zaa,if_pos rfl])
  have b4:(kb=x2+1+4+4)=False:=eq_false (by omega);have b5:(kb=x2+1+4+5)=False:=eq_false (by omega);have L9:=zMZ (p:=p) (l:=l) n1;have GS:=zMZ (p:=p) (l:=l) n2;have c1:(n/ 64<N)=True:=eq_true n1;have c2:(n % 64<N)=True:=eq_true n2
  have CW:zOr p l t (L.take (i+1))=zOr p l t (L.take i)++if(lkB p (s0 p l (n/ 64))&&lkB p (s0 p l (n % 64))&& !zOm p l t (n/ 64) (n % 64))=true then [n]else []:=by
   unfold zOr;rw[zaf hn,List.filter_append,List.filter_cons,List.filter_nil]
  have skip: ∀(H4:Nat->Option Rg.O) (y:Nat),(lkB p (s0 p l (n/ 64))&&lkB p (s0 p l (n % 64))&& !zOm p l t (n/ 64) (n % 64))=false->x2<=y->(∀j,j<x2->H4 j=h2 j)->zaF H4 y (f2 17).v 2 (rwP (zOr p l t (L.take (i+1)))):=fun H4 y hq hy GN=>by
   rw[CW,hq,if_neg (by simp),List.append_nil];exact hO.keep hy fun k hk _=>GN k hk
  cases Cx:lkB p (s0 p l (n/ 64))with
  | false=>
    rw[Cx]at L9;simp -dsimp -implicitDefEqProofs only[go_sem,seval,g68,EI,Fg,xn,xn2,↓tt,mv,e14,qb,b4,b5,L9,zHD,c1];refine⟨A4,by simp -dsimp -implicitDefEqProofs only[go_sem,seval,BO],(kp _ (by omega)).trans q0,(kp _ (by omega)).trans q1,(kp _ (by omega)).trans q25,(kp _ (by omega)).trans qa,(kp _ (by omega)).trans qb,?_,by(try simp -dsimp -implicitDefEqProofs only[go_sem,seval]);(try omega),by(try simp -dsimp -implicitDefEqProofs only[go_sem,seval]);(try omega),by(try simp -dsimp -implicitDefEqProofs only[go_sem,seval]);(try omega)⟩;simp -dsimp -implicitDefEqProofs only[go_sem,seval]
    exact skip _ _ (by rw[Cx];rfl) (by(try simp -dsimp -implicitDefEqProofs only[go_sem,seval]);(try omega)) kp
  | true=>
  rw[Cx]at L9
  cases BM:lkB p (s0 p l (n % 64))with
  | false=>
    rw[BM]at GS;simp -dsimp -implicitDefEqProofs only[go_sem,seval,g68,EI,Fg,xn,xn2,↓tt,mv,e14,qb,b4,b5,L9,GS,zHD,c1,c2];refine⟨A4,by simp -dsimp -implicitDefEqProofs only[go_sem,seval,BO],(kp _ (by omega)).trans q0,(kp _ (by omega)).trans q1,(kp _ (by omega)).trans q25,(kp _ (by omega)).trans qa,(kp _ (by omega)).trans qb,?_,by(try simp -dsimp -implicitDefEqProofs only[go_sem,seval]);(try omega),by(try simp -dsimp -implicitDefEqProofs only[go_sem,seval]);(try omega),by(try simp -dsimp -implicitDefEqProofs only[go_sem,seval]);(try omega)⟩;simp -dsimp -implicitDefEqProofs only[go_sem,seval]
    exact skip _ _ (by rw[Cx,BM];rfl) (by(try simp -dsimp -implicitDefEqProofs only[go_sem,seval]);(try omega)) kp
  | true=>
  rw[BM]at GS
  cases H9:zOm p l t (n/ 64) (n % 64)with
  | true=>
    rw[H9]at mv;simp -dsimp -implicitDefEqProofs only[go_sem,seval,g68,EI,Fg,xn,xn2,↓tt,mv,e14,qb,b4,b5,L9,GS,zHD,c1,c2];refine⟨A4,by simp -dsimp -implicitDefEqProofs only[go_sem,seval,BO],(kp _ (by omega)).trans q0,(kp _ (by omega)).trans q1,(kp _ (by omega)).trans q25,(kp _ (by omega)).trans qa,(kp _ (by omega)).trans qb,?_,by(try simp -dsimp -implicitDefEqProofs only[go_sem,seval]);(try omega),by(try simp -dsimp -implicitDefEqProofs only[go_sem,seval]);(try omega),by(try simp -dsimp -implicitDefEqProofs only[go_sem,seval]);(try omega)⟩;simp -dsimp -implicitDefEqProofs only[go_sem,seval]
    exact skip _ _ (by rw[Cx,BM,H9];rfl) (by(try simp -dsimp -implicitDefEqProofs only[go_sem,seval]);(try omega)) kp
  | false=>
    rw[H9]at mv;have Gf:=hO.keep (Nat.le_refl x2) fun k hk _=>kp k hk
    have y1:=Gf.valOf;have v6:=fun b=>(Gf.upd (q:=x2+1+4+8+4+14+2) (by omega) b).rowsS
    have H5:(zOr p l t (L.take i)).length<=4096:=Nat.le_trans (List.length_filter_le _ _) (by rw[List.length_take];omega);simp -dsimp -implicitDefEqProofs only[go_sem,seval,g68,EI,Fg,xn,xn2,↓tt,mv,e14,qb,b4,b5,L9,GS,zHD,c1,c2,y1,v6];refine zav ((Gf.le (show x2<=x2+1+4+8+4+14+2 by omega)).upd (Nat.le_refl _) _) (by omega) (by rw[zMr];omega) (by decide) rfl (zMt _) ?_;intro v Vt UE Um Tn;have z5:=UE.valOf;have kf: ∀j sz rs,j<x2->sz≠2->h2 j=some (Rg.O.rows sz rs false)->_=some (Rg.O.rows sz rs false):=fun j sz rs hj hs hr=>(Tn j (by omega) (hO.offQ hr (Ne.symm hs))).trans ((by rw[zaa,if_neg (by omega)]:_=_).trans ((kp j hj).trans hr))
    simp -dsimp -implicitDefEqProofs only[go_sem,seval,z5,g68];refine⟨A4,by simp -dsimp -implicitDefEqProofs only[go_sem,seval,BO],?_,?_,?_,?_,?_,?_,by(try simp -dsimp -implicitDefEqProofs only[go_sem,seval]);(try omega),by(try simp -dsimp -implicitDefEqProofs only[go_sem,seval]);(try omega),by(try simp -dsimp -implicitDefEqProofs only[go_sem,seval]);(try omega)⟩
    ·simp only[zaC,zaA];exact kf 0 _ _ (by omega) (by decide) q0
    ·simp only[zaC,zaA];exact kf 1 _ _ (by omega) (by decide) q1
    ·simp only[zaC,zaA];exact kf 25 _ _ (by omega) (by decide) q25
    ·simp only[zaC,zaA];exact kf ka _ _ (by omega) (by decide) qa
    ·simp only[zaC,zaA];exact kf kb _ _ (by omega) (by decide) qb
    simp -dsimp -implicitDefEqProofs only[go_sem,seval];rw[CW,Cx,BM,H9];rw[if_pos (by rfl),zMs];exact UE.le (by(try simp -dsimp -implicitDefEqProofs only[go_sem,seval]);(try omega))
 have EI:(i<L.length)=False:=eq_false A4;have:i=L.length:=by omega
 subst this;rw[List.take_length]at hO;have y1:=hO.valOf;have yc:=hO.cells;unfold V.cells at yc
 have yt:=zcc (es:=(zOr p l t L).map prT) hO (fun e he t ht=>by
  obtain⟨n,_,rfl⟩:=List.mem_map.1 he;simp only[prT,List.mem_cons,List.not_mem_nil,or_false]at ht
  rcases ht with rfl | rfl<;>rfl)
 simp -dsimp -implicitDefEqProofs only[go_sem,seval,g68,EI,y1,yc];rw[yt];rfl
end Rg
end
section
set_option maxRecDepth 100000
namespace Rg
open Go
def zGv (p:Prog) (a r:Expr):List Int:=zbJ (mkE (mkE (lkC p.locks) a) r) 32
theorem zMO: ∀(L:List Lock) (s:List Bool) (i:Nat),i<s.length->((L.foldl (fun s k=>mkE (mkC s [k.cell]) k.inv) s).getD i false=true<->s.getD i false=true\/ ∃k∈L,k.cell.toNat=i\/(∃c∈k.inv.sup 3,c.toNat=i)\/ ∃c∈k.inv.sup 2,c.toNat=i)
 | [],s,i,h=>by simp
 | k::r,s,i,h=>by
   have sing:(∃c∈[k.cell],c.toNat=i)<->k.cell.toNat=i:=by simp
   have two:(∃q∈k::r,q.cell.toNat=i\/(∃c∈q.inv.sup 3,c.toNat=i)\/ ∃c∈q.inv.sup 2,c.toNat=i)<->(k.cell.toNat=i\/(∃c∈k.inv.sup 3,c.toNat=i)\/ ∃c∈k.inv.sup 2,c.toNat=i)\/ ∃q∈r,q.cell.toNat=i\/(∃c∈q.inv.sup 3,c.toNat=i)\/ ∃c∈q.inv.sup 2,c.toNat=i:=by simp only[List.mem_cons,exists_eq_or_imp]
   rw[List.foldl_cons,zMO r _ i (by rw[zG5,zGk];exact h),mkE,zGS _ _ _ (by rw[zGk,zGk];exact h),zGS _ _ _ (by rw[zGk];exact h),zGS _ _ _ h,sing,two];simp only[or_assoc]
theorem zGF {p:Prog} {a r:Expr} (hk: ∀k∈p.locks,0<=k.cell/\k.cell<32) {c:Int}:c∈zGv p a r<->(∃k∈p.locks,c=k.cell\/c∈k.inv.sup 2\/c∈k.inv.sup 3)\/c∈a.sup 2\/c∈a.sup 3\/c∈r.sup 2\/c∈r.sup 3:=by
 have Ac:=zIv p.locks
 have key: ∀i:Nat,((i:Int)∈zGv p a r<->i<32/\((∃k∈p.locks,(i:Int)=k.cell\/(i:Int)∈k.inv.sup 2\/(i:Int)∈k.inv.sup 3)\/(i:Int)∈a.sup 2\/(i:Int)∈a.sup 3\/(i:Int)∈r.sup 2\/(i:Int)∈r.sup 3)):=fun i=>by
  unfold zGv;rw[zHw];refine and_congr_right fun hi=> ?_
  have ex: ∀(op:Int) (e:Expr),(∃c∈e.sup op,c.toNat=i)<->(i:Int)∈e.sup op:=fun op e=>by
   constructor
   ·rintro⟨c,h1,h2⟩;have:=zHB op e c h1;rwa[show(i:Int)=c by omega]
   ·intro h;exact⟨_,h,by simp⟩
  rw[mkE,zGS _ _ _ (by rw[zGk,zG5,Ac];exact hi),zGS _ _ _ (by rw[zG5,Ac];exact hi),mkE,zGS _ _ _ (by rw[zGk,Ac];exact hi),zGS _ _ _ (by rw[Ac];exact hi),lkC,zMO _ _ _ (by simp[zMG];exact hi)];simp only[ex]
  have h0:(zMG.getD i false=true)=False:=by
   rw[zMG,zK,List.getElem?_replicate,if_pos hi];simp
  have hl:(∃k∈p.locks,k.cell.toNat=i\/(i:Int)∈k.inv.sup 3\/(i:Int)∈k.inv.sup 2)<-> ∃k∈p.locks,(i:Int)=k.cell\/(i:Int)∈k.inv.sup 2\/(i:Int)∈k.inv.sup 3:=by
   refine exists_congr fun k=>and_congr_right fun It=> ?_
   have:=hk k It;exact or_congr ⟨fun h=>by omega,fun h=>by omega⟩ Or.comm
  rw[h0,hl,false_or];constructor
  ·rintro((((h | h) | h) | h) | h)
   ·exact .inl h
   ·exact .inr (.inr (.inl h))
   ·exact .inr (.inl h)
   ·exact .inr (.inr (.inr (.inr h)))
   ·exact .inr (.inr (.inr (.inl h)))
  ·rintro(h | h | h | h | h)
   ·exact .inl (.inl (.inl (.inl h)))
   ·exact .inl (.inl (.inr h))
   ·exact .inl (.inl (.inl (.inr h)))
   ·exact .inr h
   ·exact .inl (.inr h)
 constructor
 ·intro h;have h2:=h;unfold zGv zbJ at h2;obtain⟨i,_,rfl⟩:=List.mem_map.1 h2;exact((key i).1 h).2
 ·intro h
  have hr:0<=c/\c<32:=by
   rcases h with⟨k,It,rfl | h | h⟩ | h | h | h | h
   ·exact hk k It
   all_goals exact zHB _ _ _ h
  have:=(key c.toNat).2;rw[show((c.toNat:Nat):Int)=c by omega]at this;exact this ⟨by omega,h⟩
theorem zKK (p:Prog) (a r:Expr):(zGv p a r).Pairwise (· < ·):=by
 unfold zGv zbJ;rw[List.pairwise_map];exact(List.pairwise_lt_range.filter _).imp fun h=>by omega
def rdT (l ws:List Int) (L:List Nat):T:=.fn 567 [] [.ip [ints l,ints ws,.sl (L.map prT)]]
def zQ1 (p:Prog) (t:Int) (a r:Expr):V:=
 if r.op=0 then .tup [zGj [] [] [],.t .nilf,vi 1]else
 if zcD (pC p.cells) (zGv p a r)>6 then .tup [zGj [] [] [],.t .nilf,vi 2]else
 .tup [zGj (zGv p a r) (wsC p.cells (zGv p a r)) (nI (inL (pC p.cells) (zGv p a r) zGi a)),.t (rdT (zGv p a r) (wsC p.cells (zGv p a r)) (zIR p (zGv p a r) t r)),vi 0]
theorem zJX {l ws:List Int} (S:Shp l ws) (h6:zGp ws<=6) {L s:List Nat} (P:Prs (zGp ws).toNat L) (E:Elems ws s):Den Γ G 567 [zGj l ws (nI s),.t (.ip [ints l,ints ws,.sl (L.map prT)])]=some (zGj l ws (nI (zHe L s))):=by
 have a1:=zI6 S h6 P E;unfold zGj zHy at *
 (refine zag Γ567 rfl ?_;dsimp only[zP9])
 simp -dsimp -implicitDefEqProofs only[go_sem,seval,a1]
structure Pt (p:Prog) (t n:Nat) (a r:Expr):Prop where
 sane:p.sane
 ok:(zbM p).1=0
 lim:p.locks.length<=4
 lkc: ∀k∈p.locks,0<=k.cell/\k.cell<32
 at_: ∃x m c,p.threads[t]? =some x/\(n:Int)<x.points/\x.asserts[n]? =some a/\x.modules[n]? =some m/\0<=m/\p.modules[m.toNat]? =some c/\c.rely=r
 av:a.valid p.cells false=true
 aw:a.w=1
 O:r.op≠0->LOk p (zGv p a r) r/\r.w=1
theorem zKs {p:Prog} {t n:Nat} {a r:Expr} (H:Pt p t n a r):Den Γ G 523 [(zP p),vi t,vi n]=some (zQ1 p t a r):=by
 obtain⟨x,m,c,hx,hn,ha,hm,m0,hc,hr⟩:=H.at_;have a1:=zK2 p H.sane H.ok t n x m c hx hn hm m0 hc;have a2:=zLf p t n x m c hx hm m0 hc;rw[hr]at a1 a2;unfold zQ1 zGj;unfold eV at a2
 (refine zag Γ523 rfl ?_;dsimp only[zPJ])
 by_cases h0:r.op=0
 ·have U1:decide (r.op≠0)=false:=by simp[h0]
  rw[U1]at a1;rw[if_pos h0];simp -dsimp -implicitDefEqProofs only[go_sem,seval,a1];rfl
 have U1:decide (r.op≠0)=true:=by simp[h0]
 rw[U1]at a1;rw[if_neg h0];obtain⟨O,hw⟩:=H.O h0;simp -dsimp -implicitDefEqProofs only[go_sem,seval,a1,hx,Thread.enc,ha,Expr.enc_eq];refine zas (zJr p (by have:=H.lim;omega) H.lkc _ _) ?_;rintro v h1 n1 ⟨k,rfl,CK,A3,hk,A8⟩;simp -dsimp -implicitDefEqProofs only[go_sem,seval];refine zas (zHG a hk (zIv _) (by omega)) ?_;rintro v h2 n2 ⟨⟨AF,_⟩,Fh⟩;simp -dsimp -implicitDefEqProofs only[go_sem,seval,a2];refine zas (zHG r AF (by rw[zG5];exact zIv _) (by omega)) ?_;rintro v h3 n3 ⟨⟨SH,_⟩,N1⟩;have N4:(mkE (mkE (lkC p.locks) a) r).length=32:=by rw[zG5,zG5];exact zIv _
 have a3:=zMP _ N4
 have tk:toT1 h3 (.mp k 0 0)=some (.t (.ip ((mkE (mkE (lkC p.locks) a) r).map fun b=>tb b))):=by
  have:List.mapM (toT h3 999) (vbs (mkE (mkE (lkC p.locks) a) r))=some ((mkE (mkE (lkC p.locks) a) r).map fun b=>tb b):=by
   refine zei _ _ _ (fun i x hx=> ?_) (by simp[vbs]);rw[vbs,zJ]at hx;rw[zJ]
   cases hb:(mkE (mkE (lkC p.locks) a) r)[i]? with
   | none=>rw[hb]at hx;simp at hx
   | some y=>rw[hb]at hx;simp at hx;subst hx;exact⟨_,rfl,rfl⟩
  simp only[toT1,toT,SH,List.getElem?_cons_zero,List.drop_zero,zC,zD,this];rfl
 have a3':Den Γ G 564 [.t (.ip ((mkE (mkE (lkC p.locks) a) r).map fun b=>tb b))]=some (.t (ints (zGv p a r))):=a3;have FZ:=O.len
 have a4:Den Γ G 565 [(zP p),.t (ints (zGv p a r))]=some (vi (zcD (pC p.cells) (zGv p a r))):=zLD p (zGv p a r) (by omega) fun c hc=>by
  obtain⟨y,hy,w1,w8⟩:=O.wd c hc;exact⟨(O.lc c hc).1,y,hy,by omega,by omega⟩
 have Un: ∀c∈a.sup 2,c∈zGv p a r:=fun c hc=>(zGF H.lkc).2 (.inr (.inl hc))
 have a5:=zIs p.cells (zGv p a r) a O.pw (by omega) O.lc fun _=>Un
 unfold ofR zGj at a5;rw[if_neg (by rw[O.shp];simp),O.sum]at a5;simp -dsimp -implicitDefEqProofs only[go_sem,seval,↓tk,a3'];refine zGs (fun _=>True) (fun _ _=>trivial) fun h4 _ _=> ?_
 by_cases hb:zcD (pC p.cells) (zGv p a r)>6
 ·have Bf:((zcD (pC p.cells) (zGv p a r):Int)>6)=True:=eq_true (by omega);rw[if_pos hb];simp -dsimp -implicitDefEqProofs only[go_sem,seval,a4,Bf];rfl
 have Bf:((zcD (pC p.cells) (zGv p a r):Int)>6)=False:=eq_false (by omega);rw[if_neg hb];rw[if_neg (by omega),if_neg (by rw[H.av,H.aw];simp)]at a5;have a6:=zNU p (zGv p a r) t r O hw (by omega) (by have:=H.lim;omega);unfold zHy at a6;simp -dsimp -implicitDefEqProofs only[go_sem,seval,a4,Bf,a5,a2,a6];rfl
end Rg
end
section
set_option maxRecDepth 100000
namespace Rg
open Go
theorem zOl {a b:List Nat} (h:nI a=nI b):a=b:=by
 unfold nI at h;exact List.map_inj_right (fun x y e=>by omega) |>.1 h
theorem zL5 {ws:List Int} {L s:List Nat} (E:Elems ws s):Elems ws (zHe L s):=⟨E.inc.sublist (zG7 L s),fun n hn=>E.lt n ((zG7 L s).subset hn)⟩
def wkR (p:Prog) (t:Int) (a r:Expr) (fuel:Nat):V:=
 if r.op=0 then .tup [zGj [] [] [],vi 1]else
 if zcD (pC p.cells) (zGv p a r)>6 then .tup [zGj [] [] [],vi 2]else
 match wkL (zIR p (zGv p a r) t r) fuel (inL (pC p.cells) (zGv p a r) zGi a)with
 | some s=> .tup [zGj (zGv p a r) (wsC p.cells (zGv p a r)) (nI s),vi 0]
 | none=> .tup [zGj [] [] [],vi 3]
theorem zIg {p:Prog} {t n:Nat} {a r:Expr} (H:Pt p t n a r) (fuel:Nat) (hf:fuel<2^30):Den Γ G 504 [(zP p),vi t,vi n,vi fuel]=some (wkR p t a r fuel):=by
 have a1:=zKs H;unfold zQ1 zGj at a1;unfold wkR zGj
 (refine zag Γ504 rfl ?_;dsimp only[zQQ])
 by_cases h0:r.op=0
 ·rw[if_pos h0]at a1⊢;simp -dsimp -implicitDefEqProofs only[go_sem,seval,a1];rfl
 rw[if_neg h0]at a1⊢
 by_cases hb:zcD (pC p.cells) (zGv p a r)>6
 ·rw[if_pos hb]at a1⊢;simp -dsimp -implicitDefEqProofs only[go_sem,seval,a1];rfl
 rw[if_neg hb]at a1⊢;obtain⟨O,hw⟩:=H.O h0;have S:=O.S (show zcD (pC p.cells) (zGv p a r)<=12 by omega);have h6:zGp (wsC p.cells (zGv p a r))<=6:=by rw[O.sum];omega
 have P:=O.prs t;rw[show zcD (pC p.cells) (zGv p a r)=(zGp (wsC p.cells (zGv p a r))).toNat by rw[O.sum,Int.toNat_natCast]]at P
 have E:Elems (wsC p.cells (zGv p a r)) (inL (pC p.cells) (zGv p a r) zGi a):=by
  rw[zGw O.lc O.shp]at S⊢;exact zHp S
 generalize zIR p (zGv p a r) t r=L at *
 generalize inL (pC p.cells) (zGv p a r) zGi a=B at *
 generalize zGv p a r=l at *
 generalize wsC p.cells l=ws at *
 unfold rdT at a1;simp -dsimp -implicitDefEqProofs only[go_sem,seval,a1];refine zaT 1099444528904 fuel (fun i f=>(f 3).v=vi ((fuel-i:Nat):Int)/\(f 10).v= .lb/\(f 8).v= .lb/\(f 8).box=some [.t .nils,.t .nils,.t .nils]/\ ∃s,(f 10).box=some [.t (ints l),.t (ints ws),.t (ints (nI s))]/\Elems ws s/\wkL L fuel B=wkL L (fuel-i) s) rfl rfl ⟨by simp -dsimp -implicitDefEqProofs only[go_sem,seval];simp,by simp -dsimp -implicitDefEqProofs only[go_sem,seval],by simp -dsimp -implicitDefEqProofs only[go_sem,seval],by simp -dsimp -implicitDefEqProofs only[go_sem,seval],B,by simp -dsimp -implicitDefEqProofs only[go_sem,seval],E,by rw[Nat.sub_zero]⟩ ?_;rintro i f u x bb hi ⟨g3,g10,g8,g8b,s,g10b,Es,Tf⟩
 by_cases AV:i<fuel
 ·have c1:(((fuel-i:Nat):Int)>0)=True:=eq_true (by omega)
  have c2:IntKind.i64.wrap (((fuel-i:Nat):Int)-1)=((fuel-(i+1):Nat):Int):=by
   rw[show(((fuel-i:Nat):Int)-1)=((fuel-(i+1):Nat):Int)by omega];exact zaH (by omega)
  have rd:=zJX S h6 P Es;unfold zGj at rd;have BA:=Es.len S;have Aj:=(zG7 L s).length_le;have eq:=zId (nI (zHe L s)) (nI s) (by simp;omega) (by simp;omega);rw[show fuel-i=fuel-(i+1)+1 by omega,wkL]at Tf
  by_cases Tp:zHe L s=s
  ·rw[if_pos Tp]at Tf;have eq':decide (nI (zHe L s)=nI s)=true:=by rw[Tp];simp
   rw[eq']at eq;rw[Tf];simp -dsimp -implicitDefEqProofs only[go_sem,seval,g3,g10,g10b,c1,rd,eq,g8,g8b];rw[Tp]
  ·rw[if_neg Tp]at Tf;have eq':decide (nI (zHe L s)=nI s)=false:=decide_eq_false fun e=>Tp (zOl e)
   rw[eq']at eq;simp -dsimp -implicitDefEqProofs only[go_sem,seval,g3,g10,g10b,c1,rd,eq,c2];exact⟨AV,by simp -dsimp -implicitDefEqProofs only[go_sem,seval],by simp -dsimp -implicitDefEqProofs only[go_sem,seval],by simp -dsimp -implicitDefEqProofs only[go_sem,seval,g8],by simp -dsimp -implicitDefEqProofs only[go_sem,seval,g8b],zHe L s,by simp -dsimp -implicitDefEqProofs only[go_sem,seval],zL5 Es,Tf⟩
 ·have c1:(((fuel-i:Nat):Int)>0)=False:=eq_false (by omega);rw[show fuel-i=0 by omega,wkL]at Tf;rw[Tf];simp -dsimp -implicitDefEqProofs only[go_sem,seval,g3,c1,g8,g8b];rfl
def zQ4 (p:Prog) (t:Int) (a r:Expr):V:=
 if r.op=0 then .tup [vb false,vi 1]else
 if zcD (pC p.cells) (zGv p a r)>6 then .tup [vb false,vi 2]else
 .tup [vb (decide (zHe (zIR p (zGv p a r) t r) (inL (pC p.cells) (zGv p a r) zGi a)=inL (pC p.cells) (zGv p a r) zGi a)),vi 0]
theorem zLN {p:Prog} {t n:Nat} {a r:Expr} (H:Pt p t n a r):Den Γ G 515 [(zP p),vi t,vi n]=some (zQ4 p t a r):=by
 have a1:=zKs H;unfold zQ1 zGj at a1;unfold zQ4
 (refine zag Γ515 rfl ?_;dsimp only[zPK])
 by_cases h0:r.op=0
 ·rw[if_pos h0]at a1⊢;simp -dsimp -implicitDefEqProofs only[go_sem,seval,a1]
 rw[if_neg h0]at a1⊢
 by_cases hb:zcD (pC p.cells) (zGv p a r)>6
 ·rw[if_pos hb]at a1⊢;simp -dsimp -implicitDefEqProofs only[go_sem,seval,a1]
 rw[if_neg hb]at a1⊢;obtain⟨O,hw⟩:=H.O h0;have S:=O.S (show zcD (pC p.cells) (zGv p a r)<=12 by omega);have h6:zGp (wsC p.cells (zGv p a r))<=6:=by rw[O.sum];omega
 have P:=O.prs t;rw[show zcD (pC p.cells) (zGv p a r)=(zGp (wsC p.cells (zGv p a r))).toNat by rw[O.sum,Int.toNat_natCast]]at P
 have E:Elems (wsC p.cells (zGv p a r)) (inL (pC p.cells) (zGv p a r) zGi a):=by
  rw[zGw O.lc O.shp]at S⊢;exact zHp S
 generalize zIR p (zGv p a r) t r=L at *
 generalize inL (pC p.cells) (zGv p a r) zGi a=B at *
 have rd:=zJX S h6 P E;unfold zGj at rd;have BA:=E.len S;have Aj:=(zG7 L B).length_le;have eq:=zId (nI (zHe L B)) (nI B) (by simp;omega) (by simp;omega)
 have e2:decide (nI (zHe L B)=nI B)=decide (zHe L B=B):=by
  rw[decide_eq_decide];exact⟨zOl,fun h=>by rw[h]⟩
 rw[e2]at eq;unfold rdT at a1;simp -dsimp -implicitDefEqProofs only[go_sem,seval,a1,rd,eq]
end Rg
end
section
namespace Rg
open Go
structure Like (p q:Prog):Prop where
 cells:p.cells=q.cells
 mods:p.modules.length=q.modules.length
 thr:p.threads.length=q.threads.length
 asl: ∀t,zf7 p t=zf7 q t
variable {p q:Prog}
theorem zGo (h:p.cells=q.cells) (t:Int):zar p t=zar q t:=by funext c;unfold zar;rw[h]
theorem zGT (h:p.cells=q.cells) (c:Int) (f:Cell->Bool):zby p c f=zby q c f:=by unfold zby;rw[h]
theorem zIm (h:p.cells=q.cells) (t:Int):zjW p t=zjW q t:=by funext c;unfold zjW;rw[zGo h,zGo h]
theorem zMJ (h:p.cells=q.cells) (sh:Bool) (t:Int):ztz p sh t=ztz q sh t:=by funext c;unfold ztz;rw[zGo h,zIm h]
theorem zG4 (h:p.cells=q.cells) (e:Expr) (sh:Bool) (t:Int):zbE p e sh t=zbE q e sh t:=by unfold zbE;rw[zMJ h]
theorem zGW (h:p.cells=q.cells) (e:Expr) (pr:Bool) (t:Int):zaR p e pr t=zaR q e pr t:=by unfold zaR;rw[zG4 h,h]
theorem zHI (h:p.cells=q.cells) (s:Step) (sh:Bool) (t:Int):zbz p s sh t=zbz q s sh t:=by unfold zbz;simp only[zG4 h]
theorem zKM (h:p.cells=q.cells) (t:Int) (s:Step):zg1 p t s=zg1 q t s:=by
 unfold zg1;split
 ·rfl
 ·simp only[zG4 h,zGo h,zGT h]
theorem zJQ (h:p.cells=q.cells) (t:Int) (s:Step):zeY p t s=zeY q t s:=by
 unfold zeY;split
 ·rfl
 ·simp only[zHI h,zGo h,zGT h,zIm h]
theorem zKP (h:Like p q) (t:Int) (s:Step):zbG p t s=zbG q t s:=by
 unfold zbG zdd;simp only[zHI h.cells,zGo h.cells,zKM h.cells,zJQ h.cells,zIm h.cells,h.thr,h.asl]
theorem zKz (h:p.cells=q.cells) (set:List Assign):zbC p set=zbC q set:=by
 funext i a;unfold zbC;rw[h,zGT h]
theorem zJR (h:Like p q) (t n:Int) (s:Step):zaS p t n s=zaS q t n s:=by
 unfold zaS zdW;rw[h.mods,zKz h.cells,zKP h,h.cells]
theorem zJ6 (h:p.cells=q.cells) (t n:Int) (l:Loop):zbp p t n l=zbp q t n l:=by
 unfold zbp;rw[zG4 h,h]
theorem zKG (hc:p.cells=q.cells) (hm:p.modules=q.modules) (i:Nat) (m:Contract):zdH p i m=zdH q i m:=by
 unfold zdH;rw[zGW hc,zGW hc,zGo hc,hm]
theorem zJ7 (hc:p.cells=q.cells) (hm:p.modules.length=q.modules.length) (hl:p.locks=q.locks) (i:Nat) (l:Lock):zcM p i l=zcM q i l:=by
 unfold zcM;rw[zGW hc,zGo hc,zGT hc,zGT hc,hm,hl]
theorem zKp (hc:p.cells=q.cells) (hm:p.modules.length=q.modules.length) (ht:p.threads.length=q.threads.length) (i:Nat) (c:Cell):zci p i c=zci q i c:=by
 unfold zci zcj;rw[hc,hm,ht]
end Rg
end
section
namespace Rg
open Go
end Rg
end
section
namespace Rg
open Go
section
theorem zHz {f g:Thread->Bool}: ∀{l m:List Thread} (j:Nat),l.length=m.length->(∀(a:Nat) (y z:Thread),l[a]? =some y->m[a]? =some z->f y=g z)->(l.take j).any f=(m.take j).any g
 | [],[],_,_,_=>by simp
 | y::l,z::m,0,_,_=>by simp
 | y::l,z::m,j+1,hl,h=>by
   simp only[List.take_succ_cons,List.any_cons];rw[h 0 y z rfl rfl,zHz j (by simpa using hl) fun a y z hy hz=>h (a+1) y z (by simpa using hy) (by simpa using hz)]
end
end Rg
end
section
set_option maxRecDepth 100000
namespace Rg
open Go
theorem zOb {h:Nat->Option O} {k i len d sz:Nat} {rs r:List (List V)} {fz:Bool} {es:List (List T)} (hk:h k=some (.rows sz rs fz)) (hr:rd rs i len=some r) (he:r.mapM (fun row=>row.mapM (toT h d))=some es):
 toT h (d+1) (.ms k i len)=some (.sl es):=by
 simp[toT,hk,hr,he]
theorem zOx (h:Nat->Option O) (d:Nat) (x:T):toT h d (.t x)=some x.norm:=by cases d<;>rfl
section
end
theorem zMy {h:Nat->Option O} {q sz bytes k0 n0:Nat} {a b:List (List V)} {K:V->List (Nat×O)->Prop} {w:WK K}
 (hh:h k0=some (.rows sz a false)) (Ac:a.length+b.length<=2^32) (SX:bytes<=2^12) (hb:(b.all fun r=>decide (r.length=sz))=true) (ha:(a.all fun r=>decide (r.length=sz))=true) (Az:b≠[])
 (hK:K (.ms q 0 (a.length+b.length)) [(k0,.dead),(q,.rows sz (a++b) false)]):ziX false (zck h q sz bytes (.ms k0 0 n0) a b) K w:=by
 unfold zck;rw[if_pos ⟨⟨Ac,SX⟩,hb,ha⟩]
 cases b with
 | nil=>exact absurd rfl Az
 | cons r rs=>
   simp only[List.isEmpty_cons,zG,if_false,hh,and_self,if_true,zcb,zfP];exact hK
section
end
end Rg
end
section
set_option maxRecDepth 100000
namespace Rg
open Go
theorem Prog.ok.cell {p:Prog} (h:p.ok) {c:Nat} {x:Cell} (hx:p.cells[c]? =some x): -1<=x.thread/\x.thread<p.threads.length:=by
 have:=(zjE.1 ((zpi.1 h).cells c x hx)).1;simp only[zcj,Bool.or_eq_false_iff,decide_eq_false_iff_not]at this;omega
theorem Prog.ok.thr {p:Prog} (h:p.ok) {t:Nat} {x:Thread} (hx:p.threads[t]? =some x):1<=x.points/\x.points<=48:=by
 have h1:=(zgN.1 ((zpi.1 h).threads t x hx)).2.2.1.1;have h2:=((zkI.1 (zpi.1 h).lim).2 x (zL hx)).1;exact⟨h1,h2⟩
theorem Prog.ok.step {p:Prog} (h:p.ok) {t s:Nat} {x:Thread} {y:Step} (hx:p.threads[t]? =some x) (hy:x.steps[s]? =some y):0<=y.fr/\y.fr<x.points-1:=by
 have h1:=(zgN.1 ((zpi.1 h).threads t x hx)).2.2.2.2.2.1 s y hy;have h2:=(zKw.1 h1).1;simp only[zdW,Bool.or_eq_false_iff,decide_eq_false_iff_not,Bool.not_eq_false',inR,decide_eq_true_eq]at h2;omega
end Rg
end
section
namespace Rg
open Go
def zGl (p:Prog) (i:Nat) (x:Thread):Prog:={ p with threads:=p.threads.set i x }
section
variable {p:Prog} {i:Nat} {x x' : Thread}
theorem zGQ (hx:p.threads[i]? =some x) (j:Nat):(zGl p i x').threads[j]? =if j=i then some x' else p.threads[j]? :=by
 have:=(zH.1 hx).1;unfold zGl;simp only[List.getElem?_set]
 by_cases h:i=j
 ·subst h;simp[this]
 ·rw[if_neg h,if_neg (fun e=>h e.symm)]
theorem zIk (hx:p.threads[i]? =some x) (ha:x'.asleep=x.asleep):Like p (zGl p i x'):=by
 refine⟨rfl,rfl,by simp[zGl],fun t=> ?_⟩;unfold zf7;rw[zGQ hx]
 by_cases h:t.toNat=i
 ·rw[if_pos h,h,hx];exact ha.symm
 ·rw[if_neg h]
theorem zJS (hx:p.threads[i]? =some x) (hn:x'.name=x.name) (j:Nat) (b:ByteArray):((zGl p i x').threads.take j).any (fun d=>d.name.toList==b.toList)=(p.threads.take j).any (fun d=>d.name.toList==b.toList):=by
 refine zHz j (by simp[zGl]) fun a y z hy hz=> ?_
 rw[zGQ hx]at hy
 by_cases h:a=i
 ·rw[if_pos h]at hy;cases hy;subst h;rw[hx]at hz;cases hz;rw[hn]
 ·rw[if_neg h,hz]at hy;cases hy;rfl
theorem zJe (hx:p.threads[i]? =some x) (hn:x'.name=x.name) (ha:x'.asleep=x.asleep) (j:Nat) (y:Thread):(zap (zGl p i x') j y).1=0<->(zap p j y).1=0:=by
 rw[zgN,zgN];have AE: ∀t n s,zaS (zGl p i x') t n s=zaS p t n s:=fun t n s=>(zJR (zIk hx ha) t n s).symm
 have Qw: ∀t n s,zbp (zGl p i x') t n s=zbp p t n s:=fun t n s=>(zJ6 (p:=p) (q:=zGl p i x') rfl t n s).symm
 have FS: ∀e b t,zaR (zGl p i x') e b t=zaR p e b t:=fun e b t=>(zGW (p:=p) (q:=zGl p i x') rfl e b t).symm
 simp only[zJS hx hn,AE,Qw,FS];exact Iff.rfl
theorem zMn (G2:p.ok) (hx:p.threads[i]? =some x) (hn:x'.name=x.name) (ha:x'.asleep=x.asleep) (NA:x'.points<=48/\x'.steps.length<=64/\x'.loops.length<=8) (he:(zap p i x').1=0):(zGl p i x').ok:=by
 have h:=zpi.1 G2;have hl:=zIk (p:=p) (x':=x') hx ha;refine zpi.2 ⟨?_,fun j c hc=> ?_,fun j m hm=> ?_,fun j l CE=> ?_,fun j y hy=> ?_⟩
 ·have h1:=zkI.1 h.lim;refine zkI.2 ⟨⟨h1.1.1,h1.1.2.1,h1.1.2.2.1,by rw[<- hl.thr];exact h1.1.2.2.2⟩,fun y hy=> ?_⟩;obtain⟨j,hj,rfl⟩:=List.mem_iff_getElem.1 hy;have H1:=zI hj;rw[zGQ hx]at H1;split at H1
  ·rw[<- Option.some.inj H1];exact NA
  ·exact h1.2 _ (zL H1)
 ·rw[<- zKp (p:=p) (q:=zGl p i x') rfl rfl hl.thr];exact h.cells j c hc
 ·rw[<- zKG (p:=p) (q:=zGl p i x') rfl rfl];exact h.modules j m hm
 ·rw[<- zJ7 (p:=p) (q:=zGl p i x') rfl rfl rfl];exact h.locks j l CE
 ·rw[zJe hx hn ha];rw[zGQ hx]at hy;split at hy
  ·rename_i DP;cases hy;subst DP;exact he
  ·exact h.threads j y hy
theorem zHs (hx:p.threads[i]? =some x) {z:Thread} (hz:z∈(zGl p i x').threads):z=x'\/z∈p.threads:=by
 obtain⟨j,hj,rfl⟩:=List.mem_iff_getElem.1 hz;have H1:=zI hj;rw[zGQ hx]at H1;split at H1
 ·exact .inl (Option.some.inj H1).symm
 ·exact .inr (zL H1)
theorem zH3 {L:Int} (hs:p.SmallP L) (hx:p.threads[i]? =some x)
 (h1:x'.asserts.length<=60/\x'.modules.length<=60/\x'.steps.length<=80/\x'.loops.length<=12/\(∀e∈x'.asserts,(e.size:Int)<=L))
 (h2: ∀s∈x'.steps,s.set.length<=40/\(s.guard.size:Int)<=L/\ ∀a∈s.set,(a.to.size:Int)<=L) (h3: ∀l∈x'.loops,l.body.length<=60/\(l.variant.size:Int)<=L):(zGl p i x').SmallP L:=by
 refine⟨hs.cells,hs.modules,hs.locks,by simpa[zGl]using hs.threads,hs.mods,hs.lcks,fun z hz=> ?_,fun z hz=> ?_,fun z hz=> ?_⟩
 ·rcases zHs hx hz with rfl | hz
  ·exact h1
  ·exact hs.thr z hz
 ·rcases zHs hx hz with rfl | hz
  ·exact h2
  ·exact hs.steps z hz
 ·rcases zHs hx hz with rfl | hz
  ·exact h3
  ·exact hs.loops z hz
theorem zIj (hl:p.lite7) (hx:p.threads[i]? =some x) (hn:x'.name=x.name):(zGl p i x').lite7:=by
 refine⟨hl.cname,hl.mname,fun z hz=> ?_⟩;rcases zHs hx hz with rfl | hz
 ·rw[hn];exact hl.tname x (zL hx)
 ·exact hl.tname z hz
end
end Rg
end
section
namespace Rg
open Go
theorem zHl {p:Prog} {t c:Int}:zar p t c=true<->0<=c/\ ∃x,p.cells[c.toNat]? =some x/\x.thread=t:=by
 unfold zar
 cases h:p.cells[c.toNat]? with
 | none=>simp
 | some x=>simp
theorem zNy {p:Prog} {t c:Int}:zjW p t c=true<->0<=c/\ ∃x,p.cells[c.toNat]? =some x/\(x.thread= -1\/x.thread=t):=by
 unfold zjW;rw[Bool.or_eq_true,zHl,zHl];constructor
 ·rintro(⟨h,x,hx,ht⟩ | ⟨h,x,hx,ht⟩)
  ·exact⟨h,x,hx,.inl ht⟩
  ·exact⟨h,x,hx,.inr ht⟩
 ·rintro⟨h,x,hx,ht | ht⟩
  ·exact .inl ⟨h,x,hx,ht⟩
  ·exact .inr ⟨h,x,hx,ht⟩
end Rg
end
section
set_option maxRecDepth 100000
namespace Rg
open Go
end Rg
end
section
set_option maxRecDepth 100000
namespace Rg
open Go
end Rg
end
section
set_option maxRecDepth 100000
namespace Rg
open Go
theorem zJY {h:Nat->Option O} {q sz bytes k0 n0:Nat} {a b:List (List V)} {K:V->List (Nat×O)->Prop} {w:WK K}
 (hh:h k0=some (.rows sz a false)) (hn:n0=a.length) (Ac:a.length+b.length<=2^32) (SX:bytes<=2^12) (hb:(b.all fun r=>decide (r.length=sz))=true) (ha:(a.all fun r=>decide (r.length=sz))=true)
 (hK: ∀k hp,(k=k0\/k=q)->At h hp k=some (.rows sz (a++b) false)->(∀j,j≠k0->j≠q->At h hp j=h j)->K (.ms k 0 (a++b).length) hp):ziX false (zck h q sz bytes (.ms k0 0 n0) a b) K w:=by
 subst hn
 cases b with
 | nil=>
   unfold zck;rw[if_pos ⟨⟨Ac,SX⟩,hb,ha⟩];simp only[List.isEmpty_nil,if_true,zcb];have:=hK k0 [] (.inl rfl) (by rw[zaA,List.append_nil];exact hh) (fun j _ _=>by rw[zaA])
   rwa[List.append_nil]at this
 | cons r rs=>
   refine zMy hh Ac SX hb ha (by simp) ?_;rw[<- zM];refine hK q _ (.inr rfl) ?_ ?_
   ·simp only[zaC,zaA];rw[zaa,if_pos rfl]
   ·intro j h1 h2;simp only[zaC,zaA];rw[zaa,if_neg h2,zaa,if_neg h1]
theorem zNF {α:Type} (f:α->List T) {sz:Nat} (hf: ∀x,(f x).length=sz) (l:List α):(((l.map f).map (fun x=>x.map V.t)).all fun r=>decide (r.length=sz))=true:=by
 simp[hf]
theorem zN0 (s:Expr):s.enc.length=4:=by simp[Expr.enc_eq]
theorem zMe (p:Prog) (i:Nat) (x':Thread) {h:Nat->Option O} {k:Nat} {row:List V} (hk:h k=some (.rows 7 (((p.threads.map Thread.enc).map (fun x=>x.map V.t)).set i row) false)) (Ap:row.mapM (toT h 999)=some x'.enc):
 toT1 h (.agg [.t (.sl (p.cells.map Cell.enc)),.t (.sl (p.modules.map Contract.enc)),.t (.sl (p.locks.map Lock.enc)),.ms k 0 p.threads.length])=some (zP (zGl p i x')):=by
 have e:toT h 1000 (.ms k 0 p.threads.length)=some (.sl ((p.threads.set i x').map Thread.enc)):=by
  refine zOb (r:=((p.threads.map Thread.enc).map (fun x=>x.map V.t)).set i row) hk (by unfold rd;rw[if_pos (by simp),List.drop_zero,List.take_of_length_le (by simp)]) ?_;refine zei _ _ _ (fun j r hr=> ?_) (by simp);rw[List.getElem?_set]at hr;rw[zJ,List.getElem?_set];split at hr
  ·rename_i Av;subst Av;split at hr
   ·rename_i Ad;cases hr;rw[if_pos rfl,if_pos (by simpa using Ad),Ap];exact⟨_,rfl,rfl⟩
   ·cases hr
  ·rename_i Av;rw[if_neg Av];rw[zJ,zJ]at hr
   cases hy:p.threads[j]? with
   | none=>rw[hy]at hr;cases hr
   | some y=>
     rw[hy]at hr;cases hr;refine⟨y.enc,rfl,?_⟩;refine zei _ _ _ (fun a b hb=> ?_) (by simp);rw[zJ]at hb
     cases ht:y.enc[a]? with
     | none=>rw[ht]at hb;cases hb
     | some t=>
       rw[ht]at hb;cases hb;refine⟨t,rfl,?_⟩;rw[zOx];have hm:=zL ht;simp only[Thread.enc,List.mem_cons,List.not_mem_nil,or_false]at hm;rcases hm with rfl | rfl | rfl | rfl | rfl | rfl | rfl<;>rfl
 simp[toT1,e,zOx,T.norm,zGl]
theorem zJ1: ∀s:Expr,∀t∈s.enc,T.norm t=t:=by
 intro s t ht;simp only[Expr.enc_eq,List.mem_cons,List.not_mem_nil,or_false]at ht;rcases ht with rfl | rfl | rfl | rfl<;>rfl
theorem zNN {α:Type} (f:α->List T) (hf: ∀x,∀t∈f x,T.norm t=t) (l:List α) {h:Nat->Option O} {k n sz d:Nat} (hk:h k=some (.rows sz ((l.map f).map (fun x=>x.map V.t)) false)) (hn:n=l.length):
 toT h (d+1) (.ms k 0 n)=some (.sl (l.map f)):=by
 subst hn;refine zOb (r:=(l.map f).map (fun x=>x.map V.t)) hk (by unfold rd;rw[if_pos (by simp),List.drop_zero,List.take_of_length_le (by simp)]) ?_;refine zdJ _ d _ ?_;intro e he t ht;obtain⟨s,_,rfl⟩:=List.mem_map.1 he;exact hf s t ht
end Rg
end
section
namespace Rg
open Go
theorem zG0 {p:Prog} {e:Expr} {t:Int} (h:zbE p e true t=true) {op:Int} (Ao:op=2\/op=3): ∀c∈e.sup op,zjW p t c=true:=fun c hc=>by
 unfold zbE at h;simp only[zF,zN]at h;rcases Ao with rfl | rfl
 ·exact h.2 c hc
 ·exact h.1 c hc
theorem zIl {p:Prog} {t c:Int} (h:zjW p (-1) c=true):zjW p t c=true:=by
 unfold zjW at h⊢;rw[Bool.or_self]at h;rw[h,Bool.true_or]
theorem zKA {p:Prog} {t c:Int} (h:zjW p t c=true):0<=c/\ ∃y,p.cells[c.toNat]? =some y:=by
 obtain⟨h0,y,hy,_⟩:=zNy.1 h;exact⟨h0,y,hy⟩
structure PtV (p:Prog) (t n:Nat) (a r:Expr):Prop where
 pt:Pt p t n a r
 see:r.op≠0-> ∀c∈zGv p a r,zjW p t c=true
theorem zON {p:Prog} (G2:p.ok) {c:Int} {y:Cell} (hy:p.cells[c.toNat]? =some y):1<=y.w/\y.w<=8:=by
 have h:=zfc (zjE.1 ((zpi.1 G2).cells c.toNat y hy)).1;exact⟨h.2.1,h.2.2.1⟩
theorem zIr {p:Prog} (G2:p.ok) {k:Lock} (hk:k∈p.locks):zjW p (-1) k.cell=true/\wOf p k.cell=1/\k.inv.valid p.cells false=true/\k.inv.w=1/\zbE p k.inv true (-1)=true:=by
 obtain⟨i,hi,rfl⟩:=List.mem_iff_getElem.1 hk;obtain⟨⟨h1,h2,_,_⟩,_,h3⟩:=zKL.1 ((zpi.1 G2).locks i _ (zI hi));unfold zaR at h3;simp only[zF,decide_eq_true_eq]at h3;obtain⟨h0,y,hy,_⟩:=zHl.1 h1;rw[zaZ hy]at h2;have hw:y.w=1:=by simpa using h2
 exact⟨by unfold zjW;rw[h1];rfl,by rw[wOf,hy];show y.w.toNat=1;omega,h3.1.1,h3.1.2,h3.2⟩
theorem zOL {p:Prog} (G2:p.ok) (hs:p.sane) {t n:Nat} {x:Thread} (hx:p.threads[t]? =some x) (hn:(n:Int)<x.points): ∃a r,PtV p t n a r/\x.asserts[n]? =some a/\ ∃m c,x.modules[n]? =some m/\0<=m/\p.modules[m.toNat]? =some c/\c.rely=r:=by
 have R:=zpi.1 G2;have hl:=zkI.1 R.lim;obtain⟨_,_,⟨DN,QO,N4⟩,Li,Dt,_,_⟩:=zgN.1 (R.threads t x hx);obtain⟨a,ha,Cp⟩:=zai (show n<x.asserts.length by omega);obtain⟨m,hm,D8⟩:=zai (show n<x.modules.length by omega);have Pc:=zN.1 Li m D8;simp only[inR,decide_eq_true_eq]at Pc;obtain⟨c,hc,BI⟩:=zai (show m.toNat<p.modules.length by omega);have OU:=zN.1 Dt a Cp;unfold zaR at OU;simp only[zF,decide_eq_true_eq]at OU
 have SN: ∀k∈p.locks,0<=k.cell/\k.cell<32:=fun k hk=>by
  obtain⟨h0,y,hy⟩:=zKA (zIr G2 hk).1;have:=(zH.1 hy).1;omega
 have SP:c.rely.op≠0->(∀d∈zGv p a c.rely,zjW p t d=true)/\zaR p c.rely true (-1)=true:=fun h0=>by
  have hr:=(zL1.1 (R.modules m.toNat c hc)).2.2.1.1
  have BC:zaR p c.rely true (-1)=true:=by
   rcases hr with h | h
   ·simp only[Expr.absent,zF,decide_eq_true_eq]at h;omega
   ·exact h
  have Kj:=BC;unfold zaR at Kj;simp only[zF,decide_eq_true_eq]at Kj;refine⟨fun d hd=> ?_,BC⟩;rcases(zGF SN).1 hd with⟨k,hk,rfl | h | h⟩ | h | h | h | h
  ·exact zIl (zIr G2 hk).1
  ·exact zIl (zG0 (zIr G2 hk).2.2.2.2 (.inl rfl) d h)
  ·exact zIl (zG0 (zIr G2 hk).2.2.2.2 (.inr rfl) d h)
  ·exact zG0 OU.2 (.inl rfl) d h
  ·exact zG0 OU.2 (.inr rfl) d h
  ·exact zIl (zG0 Kj.2 (.inl rfl) d h)
  ·exact zIl (zG0 Kj.2 (.inr rfl) d h)
 refine⟨a,c.rely,⟨⟨hs,G2,hl.1.2.2.1,SN,⟨x,m,c,hx,hn,ha,hm,Pc.1,hc,rfl⟩,OU.1.1,OU.1.2,fun h0=> ?_⟩,fun h0=>(SP h0).1⟩,ha,m,c,hm,Pc.1,hc,rfl⟩;obtain⟨h1,h2⟩:=SP h0;unfold zaR at h2;simp only[zF,decide_eq_true_eq]at h2;refine⟨⟨zKK _ _ _,fun d hd=> ?_,hl.1.1,fun d hd=> ?_,fun k hk=> ?_,⟨h2.1.1,fun op Ao d hd=> ?_⟩⟩,h2.1.2⟩
 ·obtain⟨g0,y,hy⟩:=zKA (h1 d hd);have:=(zH.1 hy).1;exact⟨g0,by omega⟩
 ·obtain⟨g0,y,hy⟩:=zKA (h1 d hd);exact⟨y,hy,zON G2 hy⟩
 ·obtain⟨_,k2,k3,k4,_⟩:=zIr G2 hk;exact⟨(zGF SN).2 (.inl ⟨k,hk,.inl rfl⟩),k2,k3,k4,fun d hd=>(zGF SN).2 (.inl ⟨k,hk,.inr (.inl hd)⟩)⟩
 ·refine(zGF SN).2 ?_;rcases Ao with rfl | rfl
  ·exact .inr (.inr (.inr (.inl hd)))
  ·exact .inr (.inr (.inr (.inr hd)))
end Rg
end
