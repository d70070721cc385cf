/- Part of the proof of laws of relyguardlaw36. No condition. -/
import Derived.Test.YtaiokglcgiemnaaGreatDoorCartAH
import Derived.Shelf.Strings.OnBuilder
import Derived.Shelf.Strconv.Itoa3
import Derived.Shelf.LaysM
import Derived.Shelf.Sort.Plain
import Derived.Shelf.Slices.In.SortNone
import Derived.Shelf.Slices.CompactI
import Derived.Shelf.Slices.Clone
import Derived.Test.YtaiokglcgiemnaaGreatDoorRows
import Derived.KernelRfl
import Derived.Test.YtaiokglcgiemnaaGreatDoorCartAG
import Derived.ChangeArms
import GoSem.ClaimJoined
set_option linter.unusedVariables false
set_option linter.unusedSimpArgs false
section
namespace Rg
open Go Go.Proofs Go.Lib Go.Shelf Go.RowKit
variable {P:Program} {ρ:Ren}
structure Wrote (w:World) (b:Nat) (v:Value) (n:Nat) (xs news:List Value) (T e:TypeId) (v':Value) (w':World):Prop where
 blk:w'.heap[b]? =some (.cells #[.pointer (some ⟨b,0,none⟩),v'] T (0,0))
 own:w'.ownsRow 0 e 1 v' (n+news.length) (xs++news)
 oth: ∀k,k<w.heap.size->k≠b->some k≠v.ownBlock->w'.heap[k]? =w.heap[k]?
 shp: ∀k x,w.shape? k=some x->w'.shape? k=some x
 new:v'.ownBlock=v.ownBlock\/ ∃g',v'.ownBlock=some g'/\w.heap.size<=g'
 nil:v'= .slice none 0 0<->v= .slice none 0 0/\news=[]
 out:w'.os=w.os/\w'.output=w.output
 size:w.heap.size<=w'.heap.size
structure Checked (w:World) (b:Nat) (v:Value) (T:TypeId) (w':World):Prop where
 blk:w'.heap[b]? =some (.cells #[.pointer (some ⟨b,0,none⟩),v] T (0,0))
 oth: ∀k,k≠b->w'.heap[k]? =w.heap[k]?
 out:w'.os=w.os/\w'.output=w.output
 size:w'.heap.size=w.heap.size
theorem zh3 {w:World} {b:Nat} {p v q:Value} {T:TypeId} (h:w.heap[b]? =some (.cells #[p,v] T (0,0))):(w.setCell ⟨b,0,none⟩ q).heap[b]? =some (.cells #[q,v] T (0,0)):=by
 simp[World.setCell,Array.getElem?_modify,h]
theorem zd9 {w:World} {b:Nat} {p v q:Value} {T:TypeId} (h:w.heap[b]? =some (.cells #[p,v] T (0,0))):(w.setCell ⟨b,1,none⟩ q).heap[b]? =some (.cells #[p,q] T (0,0)):=by
 simp[World.setCell,Array.getElem?_modify,h]
theorem zy7 {w:World} {b i k:Nat} {q:Value} (hk:k≠b):(w.setCell ⟨b,i,none⟩ q).heap[k]? =w.heap[k]? :=Below.heap_setCell _ _ _ _ (fun e=>hk (by simpa using e))
theorem checked (L:Lays.n240 P ρ) (X:Builder.X72 P ρ) (b:Nat) (p v:Value) (w:World) (hb:w.heap[b]? =some (.cells #[p,v] (ρ.t 72) (0,0))) (hp:p= .pointer none\/p= .pointer (some ⟨b,0,none⟩)):
 Calls P (ρ.f 240) #[.pointer (some ⟨b,0,none⟩)] w fun e w'=>e= .returned (.tuple #[])/\Checked w b v (ρ.t 72) w':=by
 have hc:w.cell? ⟨b,0,none⟩=some p:=by rw[Lib.cell_of_heap hb];rfl
 rcases hp with rfl | rfl
 ·refine(Any.Builder_copyCheck_fresh L X b w hc (by simp[World.shape?,hb]) (Lib.frozen_of_heap hb 0)).mono ?_;rintro e w' ⟨rfl,rfl⟩;exact⟨rfl,zh3 hb,fun k hk=>zy7 hk,⟨rfl,rfl⟩,by simp[World.setCell]⟩
 ·refine(Any.Builder_copyCheck_used L X b w hc).mono ?_;rintro e w' ⟨rfl,rfl⟩;exact⟨rfl,hb,fun _ _=>rfl,⟨rfl,rfl⟩,rfl⟩
theorem zfL {w w':World} {e:TypeId} {v:Value} {n:Nat} {xs:List Value} (h:w.ownsRow 0 e 1 v n xs) (hk: ∀k,v.ownBlock=some k->w'.heap[k]? =w.heap[k]?):w'.ownsRow 0 e 1 v n xs:=by
 refine⟨h.1,?_⟩;rcases h.2 with hn | ⟨g,cap,cur,rfl,hb,hg,r⟩
 ·exact .inl hn
 ·exact .inr ⟨g,cap,cur,rfl,hb,by rw[hk g rfl];exact hg,r⟩
theorem zAc {w:World} {b:Nat} {o:Go.Obj} (h:w.heap[b]? =some o):b<w.heap.size:=(Array.getElem?_eq_some_iff.1 h).1
theorem zmj {w w1 w2:World} {b:Nat} {p v v':Value} {n:Nat} {xs news:List Value} {T e:TypeId} (hb:w.heap[b]? =some (.cells #[p,v] T (0,0))) (A8:v.ownBlock≠some b) (Pw:T≠e)
 (h1:Checked w b v T w1) (wm:World) (hm: ∀k,k<w1.heap.size->wm.heap[k]? =w1.heap[k]?) (Fy:w1.heap.size<=wm.heap.size) (NN:wm.os=w1.os/\wm.output=w1.output) (h2:Added wm v n xs news e v' w2):Wrote w b v n xs news T e v' (w2.setCell ⟨b,1,none⟩ v'):=by
 have DP:=zAc h1.blk
 have BO:w2.heap[b]? =some (.cells #[.pointer (some ⟨b,0,none⟩),v] T (0,0)):=by
  rw[h2.gr.block b (by omega) (fun e=>A8 e.symm),hm b DP];exact h1.blk
 have El: ∀k x,w.shape? k=some x->w1.shape? k=some x:=by
  intro k x hx
  by_cases hk:k=b
  ·subst hk;simp only[World.shape?,hb,h1.blk]at hx⊢;simpa using hx
  ·exact zyi (h1.oth k hk) hx
 refine⟨zd9 BO,?_,fun k hk CV Eu=> ?_,fun k x hx=> ?_,?_,h2.nil,⟨?_,?_⟩,?_⟩
 ·refine zfL h2.own fun k hk=>zy7 ?_
  rintro rfl;exact Lib.ownBlock_ne h2.own BO Pw hk
 ·have Ba:k<w1.heap.size:=by rw[h1.size];exact hk
  rw[zy7 CV,h2.gr.block k (by omega) Eu,hm k Ba,h1.oth k CV]
 ·have JB:=El k x hx;have LN:=h2.shp k x (zyi (hm k (zAb JB)) JB)
  by_cases hk:k=b
  ·subst hk;simp only[World.shape?,BO]at LN;simp only[World.shape?,zd9 BO];simpa using LN
  ·exact zyi (zy7 hk) LN
 ·rcases h2.blk with h | ⟨g',h,hg⟩
  ·exact .inl h
  ·exact .inr ⟨g',h,by have:=h1.size;omega⟩
 ·show w2.os=w.os;rw[h2.gr.os,NN.1,h1.out.1]
 ·show w2.output=w.output;rw[h2.gr.output,NN.2,h1.out.2]
 ·have:=h2.gr.size;have:=h1.size;simp[World.setCell];omega
set_option maxHeartbeats 2000000 in
set_option maxRecDepth 100000 in
theorem zAY (L:Lays.n166 P ρ) (X:Builder.Extra P ρ) (b:Nat) (p v:Value) (n:Nat) (xs:List Value) (s:ByteArray) (w:World) (hb:w.heap[b]? =some (.cells #[p,v] (ρ.t 72) (0,0)))
 (hp:p= .pointer none\/p= .pointer (some ⟨b,0,none⟩)) (Ab:w.ownsRow 0 (ρ.t 5) 1 v n xs) (Ac:n+s.size<=140737488355328):
 Calls P (ρ.f 166) #[.pointer (some ⟨b,0,none⟩),.string s] w fun e w'=>e= .returned (.tuple #[.int .i64 s.size,.nilIface])/\ ∃v',Wrote w b v n xs (Lib.strCells s) (ρ.t 72) (ρ.t 5) v' w':=by
 obtain⟨i0,hi,HL,GC,Hk⟩:=info_parts X.infoByte;have A8:=Lib.ownBlock_ne Ab hb X.neB5;have mixed:=L.mixed;have t72:=L.t72;have a72:=L.a72;have z72:=L.z72;have v72:=L.v72;have u72:=run_underlying L.t72;have t70:=L.t70;have a70:=L.a70;have z70:=L.z70;have v70:=L.v70;have u70:=run_underlying L.t70;have t37:=L.t37;have a37:=L.a37;have z37:=L.z37;have v37:=L.v37;have u37:=run_underlying L.t37;have t3:=L.t3;have a3:=L.a3;have z3:=L.z3;have v3:=L.v3;have u3:=run_underlying L.t3;have t9:=L.t9;have a9:=L.a9;have z9:=L.z9;have v9:=L.v9;have u9:=run_underlying L.t9;have t4:=L.t4;have a4:=L.a4;have z4:=L.z4;have v4:=L.v4;have u4:=run_underlying L.t4;have t164:=L.t164;have a164:=L.a164;have z164:=L.z164;have v164:=L.v164;have u164:=run_underlying L.t164;have t5:=X.t5;have a5:=X.a5;have z5:=X.z5;have v5:=X.v5;have u5:=run_underlying X.t5;have ztq: ∀args w,(callFunc (ρ.f 240) args).run P w= .ok (.enter (ρ.f 240) args) w:=enters_of L.f240 (by kernel_rfl) rfl
 go_enter L.f166,Body.n166_ntmps ρ
 go_wp2_with (go_at_fn (ρ.f 240);refine(checked { L with } X.toX72 b p v _ hb hp).mono ?_)
 rintro e w1 ⟨rfl,h1⟩;have JT:w1.ownsRow 0 (ρ.t 5) 1 v n xs:=zfL Ab fun k hk=>h1.oth k (fun e=>A8 (e▸hk))
 have c0:w1.cell? ⟨b,0,none⟩=some (.pointer (some ⟨b,0,none⟩)):=by rw[Lib.cell_of_heap h1.blk];rfl
 have c1:w1.cell? ⟨b,1,none⟩=some v:=by rw[Lib.cell_of_heap h1.blk];rfl
 go_wp2_with (at_builtin;refine zdi _ rfl _ _ (ρ.t 37) (ρ.t 9) rfl (ρ.t 5) i0 L.t37 L.t9 hi HL GC Hk _ _ _ rfl JT s rfl Ac ?_)
 intro v' w2 h2
 have BO:w2.heap[b]? =some (.cells #[.pointer (some ⟨b,0,none⟩),v] (ρ.t 72) (0,0)):=by
  rw[h2.gr.block b (zAc h1.blk) (fun e=>A8 e.symm)];exact h1.blk
 have d0:w2.cell? ⟨b,0,none⟩=some (.pointer (some ⟨b,0,none⟩)):=by rw[Lib.cell_of_heap BO];rfl
 have d1:w2.cell? ⟨b,1,none⟩=some v:=by rw[Lib.cell_of_heap BO];rfl
 have f1:w2.frozen? ⟨b,1,none⟩=false:=Lib.frozen_of_heap BO 1
 obtain⟨ao,n',cap,rfl⟩: ∃ao n' cap,v'= .slice ao n' cap:=by
  rcases h2.own.2 with⟨hv,_⟩ | ⟨g,cap,cur,hv,_⟩
  ·exact⟨_,_,_,hv⟩
  ·exact⟨_,_,_,hv⟩
 go_wp2
 go_ret2
 exact⟨rfl,_,zmj hb A8 X.neB5 h1 w1 (fun _ _=>rfl) (Nat.le_refl _) ⟨rfl,rfl⟩ h2⟩
structure Took (w:World) (g:Option Nat) (w':World):Prop where
 oth: ∀k,some k≠g->w'.heap[k]? =w.heap[k]?
 shp: ∀k x,w.shape? k=some x->w'.shape? k=some x
 out:w'.os=w.os/\w'.output=w.output
 size:w'.heap.size=w.heap.size
theorem zhW (w:World) (g n:Nat) {cur:Array Value} {e:TypeId} {z:Nat×Nat} (hg:w.heap[g]? =some (.cells cur e z)):Took w (some g) (w.drew.freeze ⟨g,0,none⟩ n):=by
 have hh: ∀k,some k≠some g->(w.drew.freeze ⟨g,0,none⟩ n).heap[k]? =w.heap[k]? :=by
  intro k hk;have Ag:g≠k:=fun e=>hk (by rw[e])
  unfold World.freeze;split
  ·rfl
  ·simp only[Array.getElem?_modify,if_neg Ag];rfl
 refine⟨hh,fun k x hx=> ?_,?_,?_⟩
 ·by_cases hk:k=g
  ·subst hk;simp only[World.shape?,hg]at hx;unfold World.freeze;split
   ·have B2:w.drew.heap[k]? =some (.cells cur e z):=hg;simpa[World.shape?,B2]using hx
   ·have B2:w.drew.heap[k]? =some (.cells cur e z):=hg;simp only[World.shape?,Array.getElem?_modify,B2,if_true,Option.map_some];simpa using hx
  ·exact zyi (hh k (fun e=>hk (by simpa using e))) hx
 ·unfold World.freeze;split<;>exact⟨rfl,rfl⟩
 ·unfold World.freeze;split<;>simp
set_option maxHeartbeats 2000000 in
set_option maxRecDepth 100000 in
theorem zBk (L:Lays.n169 P ρ) (X:Builder.Extra P ρ) (b:Nat) (p:Value) (g cap:Nat) (l:List UInt8) (w:World) (hb:w.heap[b]? =some (.cells #[p,.slice (some ⟨g,0,none⟩) l.length cap] (ρ.t 72) (0,0)))
 (Ab:w.ownsRow 0 (ρ.t 5) 1 (.slice (some ⟨g,0,none⟩) l.length cap) l.length (Lib.byteCells l)) (h0:l≠[]):
 Calls P (ρ.f 169) #[.pointer (some ⟨b,0,none⟩)] w fun e w'=>e= .returned (.string ⟨l.toArray⟩)/\Took w (some g) w':=by
 have F0:l.length≠0:=by simpa using h0
 obtain⟨cur,hg,CT,B9,AU,F7⟩: ∃cur,w.heap[g]? =some (.cells cur (ρ.t 5) (0,0))/\l.length<=cap/\cap<=maxLen/\cur.size=cap*1/\cur.toList.take (l.length*1)=Lib.byteCells l:=by
  rcases Ab.2 with⟨hv,_⟩ | ⟨g',cap',cur,hv,_,r⟩
  ·cases hv
  ·cases hv;exact⟨cur,r⟩
 have c1:w.drew.cell? ⟨b,1,none⟩=some (.slice (some ⟨g,0,none⟩) l.length cap):=by
  have:w.drew.heap[b]? =some (.cells #[p,.slice (some ⟨g,0,none⟩) l.length cap] (ρ.t 72) (0,0)):=hb;rw[Lib.cell_of_heap this];rfl
 have Px:(Builtin.unsafeSliceData_ #[(ρ.t 37)] (ρ.t 127) #[.slice (some ⟨g,0,none⟩) l.length cap]).run P w.drew= .ok (.pointer (some ⟨g,0,none⟩)) w.drew:=
  Lib.run_unsafeSliceData_row _ _ _ _ _ _ (by omega)
 have Pv:(Builtin.unsafeString_ #[(ρ.t 127),(ρ.t 3)] (ρ.t 9) #[.pointer (some ⟨g,0,none⟩),.int .i64 l.length]).run P w.drew= .ok (.string ⟨l.toArray⟩) (w.drew.freeze ⟨g,0,none⟩ l.length):=by
  refine Lib.run_unsafeString_row w.drew (ρ.t 127) (ρ.t 3) (ρ.t 9) (ρ.t 5) L.t127 X.cellsByte g cur.size (by have B2:w.drew.heap[g]? =some (.cells cur (ρ.t 5) (0,0)):=hg;simp[World.shape?,B2]) l h0 (by omega) (by unfold maxLen at B9;omega) ?_;intro j x hx;have:=Ab.cells (g:=g) rfl j (.int .u8 x.toNat) (by simp[Lib.byteCells,hx]);exact this
 have BR:=zhW w g l.length hg;have mixed:=L.mixed;have t72:=L.t72;have a72:=L.a72;have z72:=L.z72;have v72:=L.v72;have u72:=run_underlying L.t72;have t70:=L.t70;have a70:=L.a70;have z70:=L.z70;have v70:=L.v70;have u70:=run_underlying L.t70;have t37:=L.t37;have a37:=L.a37;have z37:=L.z37;have v37:=L.v37;have u37:=run_underlying L.t37;have t127:=L.t127;have a127:=L.a127;have z127:=L.z127;have v127:=L.v127;have u127:=run_underlying L.t127;have t3:=L.t3;have a3:=L.a3;have z3:=L.z3;have v3:=L.v3;have u3:=run_underlying L.t3;have t9:=L.t9;have a9:=L.a9;have z9:=L.z9;have v9:=L.v9;have u9:=run_underlying L.t9;have t5:=X.t5;have a5:=X.a5;have z5:=X.z5;have v5:=X.v5;have u5:=run_underlying X.t5
 go_enter L.f169,Body.n169_ntmps ρ
 go_wp2
 go_region_o
 all_goals(go_wp2;go_ret;exact⟨rfl,BR⟩)
set_option maxHeartbeats 2000000 in
set_option maxRecDepth 100000 in
theorem zBI (L:Lays.n169 P ρ) (X:Builder.Extra P ρ) (b:Nat) (p:Value) (w:World) (Pr:w.heap[b]? =some (.cells #[p,.slice none 0 0] (ρ.t 72) (0,0))):
 Calls P (ρ.f 169) #[.pointer (some ⟨b,0,none⟩)] w fun e w'=>e= .returned (.string ⟨#[]⟩)/\Took w none w':=by
 have Pv:=Any.unsafeString_none L X
 have c1:w.drew.cell? ⟨b,1,none⟩=some (.slice none 0 0):=by
  have:w.drew.heap[b]? =some (.cells #[p,.slice none 0 0] (ρ.t 72) (0,0)):=Pr;rw[Lib.cell_of_heap this];rfl
 have Px:(Builtin.unsafeSliceData_ #[(ρ.t 37)] (ρ.t 127) #[.slice none 0 0]).run P w.drew= .ok (.pointer none) w.drew:=rfl;have BR:Took w none w.drew:=⟨fun _ _=>rfl,fun _ _ h=>h,⟨rfl,rfl⟩,rfl⟩
 have mixed:=L.mixed;have t72:=L.t72;have a72:=L.a72;have z72:=L.z72;have v72:=L.v72;have u72:=run_underlying L.t72;have t70:=L.t70;have a70:=L.a70;have z70:=L.z70;have v70:=L.v70;have u70:=run_underlying L.t70;have t37:=L.t37;have a37:=L.a37;have z37:=L.z37;have v37:=L.v37;have u37:=run_underlying L.t37;have t127:=L.t127;have a127:=L.a127;have z127:=L.z127;have v127:=L.v127;have u127:=run_underlying L.t127;have t3:=L.t3;have a3:=L.a3;have z3:=L.z3;have v3:=L.v3;have u3:=run_underlying L.t3;have t9:=L.t9;have a9:=L.a9;have z9:=L.z9;have v9:=L.v9;have u9:=run_underlying L.t9;have t5:=X.t5;have a5:=X.a5;have z5:=X.z5;have v5:=X.v5;have u5:=run_underlying X.t5
 go_enter L.f169,Body.n169_ntmps ρ
 go_wp2
 go_region_o
 all_goals(go_wp2;go_ret;exact⟨rfl,BR⟩)
end Rg
end
section
namespace Rg
open Go Go.Proofs Go.Lib Go.Shelf Go.RowKit Go.Sort
variable {N:Nam} {c:Ctx} {A:Nat->Prop} {μ lam:Nat->Nat} {w:World} {H:Nat->Option O} {n:Nat}
theorem Rel.changeB (R:Rel N c 0 A μ lam (.init [] H n) zam w) {k:Nat} {x:Bx} {w':World} (hk:H k=some (.raw x)) (hx: ∀l,x≠ .buf l)
 (AM:w.heap.size<=w'.heap.size) {gb:Option Nat} (II: ∀g,gb=some g->Orphan c A μ lam (.init [] H n) g) (Ii: ∀r,r<w.heap.size->r≠μ k->some r≠gb->w'.heap[r]? =w.heap[r]?)
 (hs: ∀r x,w.shape? r=some x->w'.shape? r=some x) (ho: ∃p v,w'.heap[μ k]? =some (.cells #[p,v] N.tB (0,0))) (De:w'.os=w.os/\w'.output=w.output):
 Rel N c 0 A μ lam (.init [] (upd H k (some (.raw .mid))) n) zam w':=by
 have hl:(O.raw x).live=true:=rfl;have hm: ∀sz rs,O.raw x≠ .rows sz rs true:=by intro sz rs h;cases h
 have Pi: ∀r,A r->some r≠gb:=fun r h e=>(II r e.symm).a h
 have hA: ∀r,A r->w'.heap[r]? =w.heap[r]? :=fun r h=>Ii r (R.alt r h) (fun e=>R.aH r h ⟨k,_,hk,hm,hl,e.symm⟩) (Pi r h)
 have A4:O.le (.raw x) (.raw .mid):=by cases x<;>first | trivial | exact absurd rfl (hx _)
 have Dg: ∀k1 o1,H k1=some o1->o1.live=true->k1≠k->w'.heap[μ k1]? =w.heap[μ k1]? :=fun k1 o1 h l1 A8=>Ii _ (R.lt_live h l1) (fun e=>A8 (R.hinj k1 k o1 _ h hk l1 hl e)) (fun e=>(II _ e.symm).h k1 o1 h l1 rfl)
 have E:Evo w A μ H w' A μ (upd H k (some (.raw .mid))):=by
  refine⟨hA,fun _ h=>h,fun k1 o1 h=> ?_,hs⟩
  by_cases e:k1=k
  ·subst e;rw[hk]at h;cases h;exact⟨_,by simp,A4,fun _=>rfl⟩
  ·exact⟨o1,by rw[zaa _ _ e];exact h,O.le_refl o1,fun _=>rfl⟩
 have Ak: ∀k1 o1,(upd H k (some (.raw .mid))) k1=some o1->(k1=k/\o1= .raw .mid)\/(k1≠k/\H k1=some o1):=by
  intro k1 o1 h
  by_cases e:k1=k
  ·subst e;simp at h;exact .inl ⟨rfl,h.symm⟩
  ·rw[zaa _ _ e]at h;exact .inr ⟨e,h⟩
 have A5: ∀k1 o1,(upd H k (some (.raw .mid))) k1=some o1->o1.live=true-> ∃o2,H k1=some o2/\o2.live=true:=by
  intro k1 o1 h AZ;rcases Ak k1 o1 h with⟨rfl,rfl⟩ | ⟨_,h⟩
  ·exact⟨_,hk,hl⟩
  ·exact⟨o1,h,AZ⟩
 exact{
  size:=rfl
  defers:=zyJ.nil _ _ _
  env:=fun t=>by simp[St.init,zza,zam,zxy]
  loc:=fun t cs h=>by simp[St.init]at h
  adr:=fun t b o h=>by simp[St.init]at h
  heap:=fun k1 o1 h=>by
   rcases Ak k1 o1 h with⟨rfl,rfl⟩ | ⟨e,h⟩
   ·exact ho
   ·cases AZ:o1.live with
    | false=>cases o1<;>simp_all [O.live];trivial
    | true=>exact(R.heap k1 o1 h).evo E (Dg k1 o1 h AZ e)
  hinj:=fun k1 k2 o1 o2 h1 h2 l1 l2 he=>by
   obtain⟨p1,q1,m1⟩:=A5 k1 o1 h1 l1;obtain⟨p2,q2,m2⟩:=A5 k2 o2 h2 l2;exact R.hinj k1 k2 p1 p2 q1 q2 m1 m2 he
  linj:=fun t t' h=>by simp[St.init]at h
  lh:=fun t k o h=>by simp[St.init]at h
  aH:=fun r Du Kr=>by
   obtain⟨k1,o1,h,DE,AZ,he⟩:=Kr;rcases Ak k1 o1 h with⟨rfl,rfl⟩ | ⟨e,h⟩
   ·exact R.aH r Du ⟨k1,_,hk,hm,hl,he⟩
   ·exact R.aH r Du ⟨k1,o1,h,DE,AZ,he⟩
  aL:=fun r _ Kr=>by obtain⟨t,h,_⟩:=Kr;simp[St.init]at h
  alt:=fun r h=>Nat.lt_of_lt_of_le (R.alt r h) AM
  afz:=fun k1 sz rs h=>by
   rcases Ak k1 _ h with⟨rfl,g⟩ | ⟨e,h⟩
   ·cases g
   ·exact R.afz k1 sz rs h
  fresh:=fun k1 h=>by
   have:k1≠k:=by rintro rfl;have:=R.fresh k1 h;simp only[St.init,hk]at this;cases this
   show upd H k _ k1=none;rw[zaa _ _ this];exact R.fresh k1 h
  glob:=fun g j y h=>by
   obtain⟨h1,⟨te,ES⟩,v,hv,hr⟩:=R.glob g j y h;exact⟨h1,⟨te,hs _ _ ES⟩,v,by rw[cell?_eq (hA _ h1)];exact hv,hr.mono E.blk E.sub⟩
  cout:=⟨De.1.trans R.cout.1,De.2.trans R.cout.2⟩
  csize:=Nat.le_trans R.csize AM
  ckeep:=fun r h1 h2=>by
   rw[Ii r (Nat.lt_of_lt_of_le h1 R.csize) ?_ ?_]
   ·exact R.ckeep r h1 h2
   ·rintro rfl;rcases R.clive _ ⟨k,_,hk,hm,hl,rfl⟩with h | h
    ·exact h2 h
    ·omega
   ·intro e;rcases(II r e.symm).x with h | h
    ·exact h2 h
    ·omega
  cshp:=fun r y h=>hs r y (R.cshp r y h)
  csub:=R.csub
  canew:=R.canew
  clive:=fun r Kr=>by
   obtain⟨k1,o1,h,DE,AZ,he⟩:=Kr;rcases Ak k1 o1 h with⟨rfl,rfl⟩ | ⟨e,h⟩
   ·exact R.clive r ⟨k1,_,hk,hm,hl,he⟩
   ·exact R.clive r ⟨k1,o1,h,DE,AZ,he⟩
  cloc:=fun t h=>by simp[St.init]at h
  chp:=fun k1 o1 h=>by
   obtain⟨o2,h2,h3,h4⟩:=R.chp k1 o1 h
   by_cases e:k1=k
   ·subst e;have E7:H k1=some o2:=h2;rw[hk]at E7;cases E7;exact⟨.raw .mid,by simp[St.init],O.le_trans h3 A4,fun _=>h4 hl⟩
   ·exact⟨o2,by simp only[St.init,zaa _ _ e];exact h2,h3,h4⟩ }
theorem zkl {H:Nat->Option O} (k:Nat) (a b:Option O):upd (upd H k a) k b=upd H k b:=by
 funext j;unfold upd;split<;>rfl
theorem zmm {H:Nat->Option O} {k j:Nat} (h:k≠j) (a b:Option O):upd (upd H k a) j b=upd (upd H j b) k a:=by
 funext q;unfold upd
 by_cases h1:q=j
 ·subst h1;rw[if_pos rfl,if_neg (Ne.symm h),if_pos rfl]
 ·rw[if_neg h1];split<;>simp
theorem zdP (R:Rel N c 0 A μ lam (.init [] H n) zam w) {k:Nat} {g:Option Nat} (hk:H k=some (.raw (.bld g))) (hg: ∀q,g=some q-> ∃l,H q=some (.raw (.buf l))):
 ∃p v l,w.heap[μ k]? =some (.cells #[p,v] N.tB (0,0))/\(p= .pointer none\/p= .pointer (some ⟨μ k,0,none⟩))/\w.ownsRow 0 N.tU 1 v l.length (Lib.byteCells l)/\v.ownBlock=g.map μ/\(g=none->l=[]/\v= .slice none 0 0)/\(∀q,g=some q->H q=some (.raw (.buf l))/\l≠[]/\ ∃cap,v= .slice (some ⟨μ q,0,none⟩) l.length cap):=by
 cases g with
 | none=>
   obtain⟨p,h1,h2⟩:=R.heap k _ hk
   exact⟨p,_,[],h1,h2,World.ownsRow_nil _ _ _ _,rfl,fun _=>⟨rfl,rfl⟩,fun q h=>by cases h⟩
 | some q=>
   obtain⟨l,hl⟩:=hg q rfl;obtain⟨a,len,cap,h1,h2⟩:=R.heap k _ hk;obtain⟨cur,g1,g2,g3,g4,g5⟩:=R.heap q _ hl;rcases h2 with h2 | ⟨l',h2,rfl,rfl,h5⟩
   ·have E7:H q=some .dead:=h2;rw[hl]at E7;cases E7
   ·have E7:H q=some (.raw (.buf l')):=h2;rw[hl]at E7;cases E7;simp only[World.shape?,g1,zA,Prod.mk.injEq,true_and]at h5;subst h5;refine⟨_,_,l,h1,.inr rfl,⟨by simp[Lib.byteCells],.inr ⟨μ q,cur.size,cur,rfl,Nat.zero_le _,g1,g3,g4,by simp,?_⟩⟩,rfl,(fun h=>by cases h),(fun q' h=>by cases h;exact⟨hl,g2,_,rfl⟩)⟩;rw[Nat.mul_one];exact g5
theorem zob (R:Rel N c 0 A μ lam (.init [] H n) zam w) {k n':Nat} {new:List UInt8} {H':Nat->Option O} (h:zzW H n k new=some (H',n')):
 ∃p v m xs,w.heap[μ k]? =some (.cells #[p,v] N.tB (0,0))/\(p= .pointer none\/p= .pointer (some ⟨μ k,0,none⟩))/\w.ownsRow 0 N.tU 1 v m xs/\m+new.length<=140737488355328/\
  ∀w' v',Wrote w (μ k) v m xs (Lib.byteCells new) N.tB N.tU v' w'-> ∃μ',Rel N c 0 A μ' lam (.init [] H' n') zam w':=by
 -- a builder whose row is given up (if it Da one),written
 have main: ∀{H0:Nat->Option O} (g:Option Nat) (p v:Value) (l:List UInt8),Rel N c 0 A μ lam (.init [] H0 n) zam w->H0 k=some (.raw (.bld g))->(∀q,v.ownBlock=some q->Orphan c A μ lam (.init [] H0 n) q)->
  w.heap[μ k]? =some (.cells #[p,v] N.tB (0,0))->v.ownBlock≠some (μ k)-> ∀w' v',Wrote w (μ k) v l.length (Lib.byteCells l) (Lib.byteCells new) N.tB N.tU v' w'->l++new≠[]->
  ∃μ',Rel N c 0 A μ' lam (.init [] (upd (upd H0 n (some (.raw (.buf (l++new))))) k (some (.raw (.bld (some n))))) (n+1)) zam w':=by
  intro H0 g p v l R0 hk EX hb CO w' v' hw A8;have R1:=R0.changeB hk (by intro l h;cases h) hw.size (gb:=v.ownBlock) EX hw.oth hw.shp ⟨_,_,hw.blk⟩ hw.out;have R2:=R1.more (Nat.le_succ n)
  obtain⟨g',cap,cur,rfl,_,B2,CZ,C2,Nh,L7⟩: ∃g cap cur,v'= .slice (some ⟨g,0,none⟩) (l.length+(Lib.byteCells new).length) cap/\0<=g/\w'.heap[g]? =some (.cells cur N.tU (0,0))/\l.length+(Lib.byteCells new).length<=cap/\cap<=maxLen/\cur.size=cap*1/\cur.toList.take ((l.length+(Lib.byteCells new).length)*1)=Lib.byteCells l++Lib.byteCells new:=by
   rcases hw.own.2 with⟨_,h0⟩ | h
   ·exfalso;apply A8
    have:l.length=0/\new.length=0:=by
     rw[Lib.byteCells_length]at h0;omega
    rw[List.eq_nil_of_length_eq_zero this.1,List.eq_nil_of_length_eq_zero this.2];rfl
   ·exact h
  rw[Lib.byteCells_length]at CZ L7
  have G2:k≠n:=by
   rintro rfl;have:=R0.fresh k (Nat.le_refl _);simp[St.init,hk]at this
  have P1:(upd H0 k (some (.raw .mid))) n=none:=by
   rw[zaa _ _ (Ne.symm G2)];exact R0.fresh n (Nat.le_refl _)
  -- the row
  have CQ:Orphan c A μ lam (.init [] (upd H0 k (some (.raw .mid))) (n+1)) g':=by
   rcases hw.new with AJ | ⟨g2,Jv,Co⟩
   ·have hq:=EX g' (by rw[<- AJ];rfl);refine⟨hq.a,fun t ht=>by simp[St.init]at ht,fun k1 o1 h1 l1 e=> ?_,hq.x⟩
    by_cases e1:k1=k
    ·subst e1;exact CO (by rw[<- AJ];simp[Value.ownBlock,e])
    ·exact hq.h k1 o1 (by simpa only[St.init,zaa _ _ e1]using h1) l1 e
   ·simp only[Value.ownBlock,zA]at Jv;subst Jv;refine⟨fun h=> ?_,fun t ht=>by simp[St.init]at ht,fun k1 o1 h1 l1 e=> ?_,.inr (Nat.le_trans R0.csize Co)⟩
    ·have:=R0.alt _ h;omega
    ·by_cases e1:k1=k
     ·subst e1;have:=R0.lt_live hk rfl;omega
     ·have:=R0.lt_live (k:=k1) (o:=o1) (by simpa only[St.init,zaa _ _ e1]using h1) l1;omega
  have R3:=R2.adoptH (k:=n) (r:=g') (o:=.raw (.buf (l++new))) P1 (Nat.lt_succ_self n) CQ ⟨cur,B2,A8,by simp;omega,by omega,by
   rw[zM,<- Nat.mul_one (l.length+new.length),L7,List.map_append];rfl⟩ (by simp)
  have BB:(upd (upd H0 k (some (.raw .mid))) n (some (.raw (.buf (l++new))))) k=some (.raw .mid):=by rw[zaa _ _ G2,zxg]
  have hμk:upd μ n g' k=μ k:=zaa _ _ G2
  have R4:=R3.changeH (k:=k) (o:=.raw .mid) (o':= .raw (.bld (some n))) (w':=w') BB trivial rfl (by simp) (by simp) rfl rfl (fun _ _=>rfl) (fun _ _ h=>h) (fun _=>by
   refine⟨some ⟨g',0,none⟩,l.length+(Lib.byteCells new).length,cap,by rw[hμk];exact hw.blk,.inr ⟨l++new,?_,?_,?_,?_⟩⟩
   ·show upd (upd _ n _) k _ n=_;rw[zaa _ _ (Ne.symm G2),zxg]
   ·rw[zxg]
   ·rw[zM,Lib.byteCells_length]
   ·rw[zxg]
    simp only[World.shape?,B2,zA,Prod.mk.injEq,true_and];omega) ⟨rfl,rfl⟩
  refine⟨upd μ n g',?_⟩
  have e:upd (upd H0 n (some (.raw (.buf (l++new))))) k (some (.raw (.bld (some n))))=upd (upd (upd H0 k (some (.raw .mid))) n (some (.raw (.buf (l++new))))) k (some (.raw (.bld (some n)))):=by
   rw[zmm G2,zkl]
  rw[e];exact R4
 unfold zzW at h;split at h
 ·rename_i hk;split at h
  ·rename_i Ac;obtain⟨p,v,l,h1,h2,h3,h4,h5,_⟩:=zdP R hk (by intro q h;cases h);obtain⟨rfl,rfl⟩:=h5 rfl;refine⟨p,_,0,[],h1,h2,h3,by simpa using Ac,fun w' v' hw=> ?_⟩;split at h
   ·rename_i BE;cases h;subst BE;have Ej:=hw.nil.2 ⟨rfl,rfl⟩;subst Ej;have R1:=R.changeB hk (by intro l h;cases h) hw.size (gb:=none) (by intro g h;cases h) (fun r hr OB _=>hw.oth r hr OB (by simp[Value.ownBlock])) hw.shp ⟨_,_,hw.blk⟩ hw.out;have R2:=R1.changeH (k:=k) (o:=.raw .mid) (o':= .raw (.bld none)) (w':=w') (zxg _ _ _) trivial rfl (by simp) (by simp) rfl rfl (fun _ _=>rfl) (fun _ _ h=>h) (fun _=>⟨_,hw.blk,.inr rfl⟩) ⟨rfl,rfl⟩;refine⟨μ,?_⟩;simp only[St.init,zkl,znF hk]at R2;exact R2
   ·rename_i BE;cases h;simpa using main none p _ [] R hk (by intro q h;simp[Value.ownBlock]at h) h1 (by simp[Value.ownBlock]) w' v' hw (by simpa using BE)
  ·cases h
 ·rename_i g hk;split at h
  ·rename_i l hg;split at h
   ·rename_i Ac;cases h;obtain⟨p,v,l',h1,h2,h3,h4,_,h6⟩:=zdP R hk (fun q h=>by cases h;exact⟨l,hg⟩);obtain⟨h7,h8,_⟩:=h6 g rfl;rw[hg]at h7;cases h7;have Oa:g≠k:=by rintro rfl;rw[hg]at hk;cases hk
    refine⟨p,v,l.length,_,h1,h2,h3,Ac,fun w' v' hw=> ?_⟩;have ND: ∀q,v.ownBlock=some q->q=μ g:=by intro q hq;rw[h4]at hq;simpa using hq.symm
    exact main (some g) p v l (R.kill hg) (by simp only[zaa _ _ (Ne.symm Oa)];exact hk) (fun q hq=>by rw[ND q hq];exact R.orphan_kill hg rfl (by simp)) h1 (by
     intro hq
     exact Oa (R.hinj g k _ _ hg hk rfl rfl (ND _ hq).symm)) w' v' hw (by simp[h8])
   ·cases h
  ·cases h
 ·cases h
theorem ziI {w:World} {A:Nat->Prop} {nm μ:Nat->Nat} {H:Nat->Option O} {vs:Array Value} {x y:V} (h:zaZ w A nm μ H vs [x,y]): ∃u v,vs= #[u,v]/\zxy w A nm μ H u x/\zxy w A nm μ H v y:=by
 obtain⟨h1,h2⟩:=h;obtain⟨u,hu,hr⟩:=h2 0 x rfl;obtain⟨v,hv,hs⟩:=h2 1 y rfl;refine⟨u,v,?_,hr,hs⟩;apply Array.ext_getElem?;intro i
 match i with
 | 0=>simpa using hu
 | 1=>simpa using hv
 | i+2=>rw[Array.getElem?_eq_none (by simp at h1;omega),Array.getElem?_eq_none (by simp)]
theorem ziA {w:World} {A:Nat->Prop} {nm μ:Nat->Nat} {H:Nat->Option O} {v:Value} {k:Nat} {x:Bx} (h:zxy w A nm μ H v (.mp k 0 0)) (hk:H k=some (.raw x)):v= .pointer (some ⟨μ k,0,none⟩):=by
 cases(h:RepC w A nm μ H v (.mp k 0 0))with
 | mp _ _ _ _ _ _ Ag=>rw[hk]at Ag;cases Ag
 | mb _ _ _=>rfl
 | dmp _ _ _ Ag=>rw[hk]at Ag;cases Ag
theorem zkc {k n':Nat} {new:List UInt8} {H':Nat->Option O} (h:zzW H n k new=some (H',n')): ∃x,H k=some (.raw x):=by
 unfold zzW at h;split at h
 ·rename_i hk;exact⟨_,hk⟩
 ·rename_i g hk;exact⟨_,hk⟩
 ·cases h
theorem zrb {P:Program} {g:Nat} {ρ:Ren} (Ly:Lays.n166 P ρ) (X:Builder.Extra P ρ) (hf:ρ.f 166=N.nm g) (hB:ρ.t 72=N.tB) (hU:ρ.t 5=N.tU) {rf:Func} (hr:Real P (N.nm g) rf):zgM P N g .bldS:=by
 refine⟨⟨rf,hr⟩,fun args H n r H' n' h c A μ lam w vs R ha=> ?_,fun _ _ h=>by simp[zyZ]at h⟩;rw[<- hf];unfold zyL at h;split at h
 all_goals(try contradiction)
 rename_i k s _;simp only[zE,Prod.exists,Prod.mk.injEq]at h;obtain⟨H2,n2,Gu,rfl,rfl,rfl⟩:=h;obtain⟨u1,u2,rfl,AY,D3⟩:=ziI ha;cases D3.str_inv;obtain⟨x,hk⟩:=zkc Gu;cases ziA AY hk;obtain⟨p,v,m,xs,h1,h2,h3,h4,h5⟩:=zob R Gu;rw[<- hB]at h1;rw[<- hU]at h3;have AM:s.data.toList.length=s.size:=by rw[Array.length_toList];rfl
 refine(zAY Ly X (μ k) p v m xs s w h1 h2 h3 (by omega)).mono ?_;rintro e w' ⟨rfl,v',hw⟩;rw[hB,hU]at hw;obtain⟨μ',R'⟩:=h5 w' v' hw;refine⟨_,A,μ',lam,rfl,R',⟨_,rfl,rfl,fun i x hi=> ?_⟩⟩
 match i,hi with
 | 0,hi=>simp at hi;subst hi;exact⟨_,rfl,RepC.t (.int _ _)⟩
 | 1,hi=>simp at hi;subst hi;exact⟨_,rfl,RepC.t .nili⟩
theorem ziX (R:Rel N c 0 A μ lam (.init [] H n) zam w) {w':World} {gb:Option Nat} (ht:Took w gb w') (II: ∀g,gb=some g->Orphan c A μ lam (.init [] H n) g):Rel N c 0 A μ lam (.init [] H n) zam w':=by
 refine R.world (by rw[ht.size];exact Nat.le_refl _) ?_ ?_ ht.shp (zyJ.nil _ _ _) ht.out
 ·rintro r (h | h | ⟨k,o,hk,hl,rfl⟩)
  ·exact ht.oth r (fun e=>(II r e.symm).a h)
  ·obtain⟨t,ht,_⟩:=h;simp[St.init]at ht
  ·exact ht.oth _ (fun e=>(II _ e.symm).h k o hk hl rfl)
 ·intro r hr hx;refine ht.oth r (fun e=> ?_);rcases(II r e.symm).x with h | h
  ·exact hx h
  ·omega
theorem zrc {P:Program} {g:Nat} {ρ:Ren} (Ly:Lays.n169 P ρ) (X:Builder.Extra P ρ) (hf:ρ.f 169=N.nm g) (hB:ρ.t 72=N.tB) (hU:ρ.t 5=N.tU) {rf:Func} (hr:Real P (N.nm g) rf):zgM P N g .bldG:=by
 refine⟨⟨rf,hr⟩,fun args H n r H' n' h c A μ lam w vs R ha=> ?_,fun _ _ h=>by simp[zyZ]at h⟩;rw[<- hf];unfold zyL at h;split at h
 all_goals(try contradiction)
 rename_i k _;obtain⟨u1,rfl,AY⟩:=zco ha;split at h
 ·rename_i hk;cases h;cases ziA AY hk;obtain⟨p,v,l,h1,h2,h3,h4,h5,_⟩:=zdP R hk (by intro q h;cases h);obtain⟨rfl,rfl⟩:=h5 rfl;rw[<- hB]at h1;refine(zBI Ly X (μ k) p w h1).mono ?_;rintro e w' ⟨rfl,ht⟩;exact⟨_,A,μ,lam,rfl,ziX (R.kill hk) ht (by intro g h;cases h),(RepC.t (.str _)).toV⟩
 ·rename_i q hk;split at h
  ·rename_i l hq;cases h;cases ziA AY hk;obtain⟨p,v,l',h1,h2,h3,h4,_,h6⟩:=zdP R hk (fun q' h=>by cases h;exact⟨l,hq⟩);obtain⟨h7,h8,cap,rfl⟩:=h6 q rfl;rw[hq]at h7;cases h7;rw[<- hB]at h1;rw[<- hU]at h3;have Mw:q≠k:=by rintro rfl;rw[hq]at hk;cases hk
   refine(zBk Ly X (μ k) p (μ q) cap l w h1 h3 h8).mono ?_;rintro e w' ⟨rfl,ht⟩;have R1:Rel N c 0 A μ lam (.init [] (upd (upd H q (some .dead)) k (some .dead)) n) zam w:=(R.kill hq).kill (k:=k) (o:=.raw (.bld (some q))) (by simp only[zaa _ _ (Ne.symm Mw)];exact hk);have EX:=R.orphan_kill hq rfl (by simp);refine⟨_,A,μ,lam,rfl,ziX R1 ht ?_,(RepC.t (.str _)).toV⟩;intro g2 Jv;cases Jv;refine⟨EX.a,fun t ht=>by simp[St.init]at ht,fun k1 o1 Ba l1=> ?_,EX.x⟩;have Ez:upd (upd H q (some .dead)) k (some .dead) k1=some o1:=Ba
   by_cases e:k1=k
   ·subst e;rw[zxg]at Ez;cases Ez;cases l1
   ·rw[zaa _ _ e]at Ez;exact EX.h k1 o1 Ez l1
  ·cases h
 ·cases h
theorem znd {P : Program} {g q j : Nat} {ρ : Ren} (Ly : LaysM.n171 P ρ) (hf : ρ.f 171 = N.nm g) (hq : P.globalNamed "internal/strconv.uint64pow10" = some q) (Jt : N.gm j = q) (hG : N.G j = Lib.pow10Tab.map (T.int .u64))
 {rf:Func} (hr:Real P (N.nm g) rf):zgM P N g .itoa:=by
 refine⟨⟨rf,hr⟩,fun args H n r H' n' h=>by simp[zyL]at h,fun args r h=> ?_⟩;intro A w vs hA IG ha;rw[<- hf];unfold zyZ at h;split at h
 all_goals(try contradiction)
 rename_i z _;split at h
 ·rename_i hz;cases h;obtain⟨u1,rfl,AY⟩:=zco ha;cases AY.int_inv
  have LZ : Lib.TabIs P w "internal/strconv.uint64pow10" .u64 Lib.pow10Tab := by
   have h0:=IG j 0 (.int .u64 1) (by rw[hG];rfl);obtain⟨_,⟨e0,Bj⟩,_⟩:=h0;rw[Jt]at Bj;unfold World.shape? at Bj;unfold Lib.TabIs World.var?;rw[hq]
   cases hb:w.heap[q]? with
   | none=>rw[hb]at Bj;cases Bj
   | some o=>
     rw[hb]at Bj
     cases o with
     | cells cs e z0=>
       simp only[zA,Prod.mk.injEq]at Bj;simp only[zD,hb,zA];apply Array.ext_getElem?;intro i
       by_cases hi:i<Lib.pow10Tab.length
       ·obtain⟨_,_,v,hv,Ad⟩:=IG j i (.int .u64 Lib.pow10Tab[i]) (by rw[hG,zJ,zI hi];rfl);rw[Jt,Lib.cell_of_heap hb]at hv;cases Ad;rw[hv];simp[hi]
       ·rw[Array.getElem?_eq_none (by rw[Bj.2,hG];simp;omega),Array.getElem?_eq_none (by simp;omega)]
     | _=>cases Bj
  refine(Any.strconv_Itoa Ly z hz.1 hz.2 w LZ).mono ?_;rintro e w' ⟨rfl,k,os,rfl⟩
  have Ae: ∀r,r<w.heap.size->(grow (w.drewN k) os).heap[r]? =w.heap[r]? :=fun r hr=>by
   simp[grow,Array.getElem?_append,hr]
  refine⟨_,rfl,⟨?_,?_⟩,?_,Ae,(RepC.t (.str _)).toV⟩
  ·rfl
  ·rfl
  ·simp[grow]
 ·cases h
theorem zfy: ∀{es:List (List T)} {l:List ByteArray},zA1 es=some l->es.length=l.length/\ ∀(i:Nat) (s:ByteArray),l[i]? =some s->es[i]? =some [.str s]
 | [],l,h=>by simp only[zA1,zA]at h;subst h;simp
 | e::es,l,h=>by
   unfold zA1 at h;split at h
   ·rename_i h0;cases h0
   ·rename_i s r' h0;cases h0;rw[zE]at h;obtain⟨l',hl,rfl⟩:=h;obtain⟨h1,h2⟩:=zfy hl;refine⟨by simp[h1],fun i s' hi=> ?_⟩
    cases i with
    | zero=>simp at hi;subst hi;rfl
    | succ i=>simpa using h2 i s' (by simpa using hi)
   ·cases h
theorem znc {P:Program} {g:Nat} {ρ:Ren} (Ly:Lays.n156 P ρ) (X:Builder.Extra P ρ) (hf:ρ.f 156=N.nm g) {rf:Func} (hr:Real P (N.nm g) rf):zgM P N g .joinS:=by
 refine⟨⟨rf,hr⟩,fun args H n r H' n' h=>by simp[zyL]at h,fun args r h=> ?_⟩;intro A w vs hA IG ha;rw[<- hf];unfold zyZ at h;split at h
 all_goals(try contradiction)
 rename_i es sep _;simp only[zB]at h;obtain⟨l,hl,h⟩:=h;split at h
 ·rename_i hb;cases h;obtain⟨u1,u2,rfl,AY,D3⟩:=ziI ha;cases D3.str_inv;obtain⟨h1,h2⟩:=zfy hl
  have K1:(Lib.join (l.map (·.data.toList)) sep.data.toList).length<=140737488355328:=by
   have:=hb.2;unfold zCf at this;simpa[ByteArray.size]using this
  have fin: ∀(e:Ending) (w':World),(e= .returned (.string (zCf l sep))/\Below w.heap.size w w')-> ∃v,e= .returned v/\(w'.os=w.os/\w'.output=w.output)/\w.heap.size<=w'.heap.size/\(∀q,q<w.heap.size->w'.heap[q]? =w.heap[q]?)/\
   zxy w' (fun q=>A q\/(w.heap.size<=q/\q<w'.heap.size)) N.nm (fun _=>0) (fun _=>none) v (.t (.str (zCf l sep))):=by
   rintro e w' ⟨rfl,DP⟩;exact⟨_,rfl,⟨DP.os,DP.output⟩,DP.size,DP.block,(RepC.t (.str _)).toV⟩
  cases AY.t_inv with
  | sl0 a cap=>
    have:l=[]:=List.eq_nil_of_length_eq_zero (by simpa using h1.symm);subst this;refine(Any.strings_Join_none Ly X a cap sep w).mono ?_;rintro e w' ⟨rfl,rfl⟩
    exact fin _ _ ⟨rfl,Below.refl _ _⟩
  | sl r0 off cap sz es vf h0 hc N1 hs B3 JL=>
    have AP: ∀(j:Nat) (x:ByteArray),l[j]? =some x->w.cell? ⟨r0,off+j,none⟩=some (.string x):=by
     intro j x hj;have GX:=h2 j x hj;have g1:=hs j _ GX;simp at g1;subst g1;have g2:=B3 j _ 0 _ GX rfl;have g3:=JL j _ 0 _ GX rfl;cases g3':vf j 0<;>rw[g3']at g3<;>cases g3
     rw[g3']at g2;simpa using g2
    rw[h1];exact(Any.strings_Join Ly X r0 off cap l sep w AP (hA r0 N1) hb.1 (by omega) K1).mono fin
 ·cases h
end Rg
end
section
namespace Go.Proofs
open Go.Shelf
def Tryz.lays189_ren:Go.Shelf.Ren:=⟨fun | 189=>35 | 125=>81 | 257=>80 | 128=>132 | 129=>133 | 294=>123 | 295=>124 | 296=>125 | 297=>126 | 298=>127 | 299=>128 | 216=>129 | 300=>130 | 301=>131 | 328=>182 | 329=>183 | 330=>184 | 331=>185 | 332=>186 | 215=>187 | 343=>212 | n=>n,fun | 28=>28 | 3=>3 | 46=>143 | 0=>0 | 51=>205 | 53=>207 | 4=>4 | 183=>198 | 182=>197 | 131=>175 | 5=>5 | 9=>9 | 218=>245 | 222=>249 | 228=>269 | 229=>270 | n=>n,fun | n=>n⟩
theorem Tryz.lays189:Go.Proofs.Lays.n189 Tryz.prog Tryz.lays189_ren:={
 mixed:=by kernel_rfl
 f125:=Tryz.func81.trans (congrArg some (by kernel_rfl))
 f128:=Tryz.func132.trans (congrArg some (by kernel_rfl))
 f129:=Tryz.func133.trans (congrArg some (by kernel_rfl))
 f189:=Tryz.func35.trans (congrArg some (by kernel_rfl))
 f215:=Tryz.func187.trans (congrArg some (by kernel_rfl))
 f216:=Tryz.func129.trans (congrArg some (by kernel_rfl))
 f257:=Tryz.func80.trans (congrArg some (by kernel_rfl))
 f294:=Tryz.func123.trans (congrArg some (by kernel_rfl))
 f295:=Tryz.func124.trans (congrArg some (by kernel_rfl))
 f296:=Tryz.func125.trans (congrArg some (by kernel_rfl))
 f297:=Tryz.func126.trans (congrArg some (by kernel_rfl))
 f298:=Tryz.func127.trans (congrArg some (by kernel_rfl))
 f299:=Tryz.func128.trans (congrArg some (by kernel_rfl))
 f300:=Tryz.func130.trans (congrArg some (by kernel_rfl))
 f301:=Tryz.func131.trans (congrArg some (by kernel_rfl))
 f328:=Tryz.func182.trans (congrArg some (by kernel_rfl))
 f329:=Tryz.func183.trans (congrArg some (by kernel_rfl))
 f330:=Tryz.func184.trans (congrArg some (by kernel_rfl))
 f331:=Tryz.func185.trans (congrArg some (by kernel_rfl))
 f332:=Tryz.func186.trans (congrArg some (by kernel_rfl))
 f343:=Tryz.func212.trans (congrArg some (by kernel_rfl))
 t0:=Tryz.underlying0
 a0:=Tryz.isAgg0
 z0:=Tryz.sizeOf0
 v0:=Tryz.zeroValue0
 t3:=Tryz.underlying3
 a3:=Tryz.isAgg3
 z3:=Tryz.sizeOf3
 v3:=Tryz.zeroValue3
 t4:=Tryz.underlying4
 a4:=Tryz.isAgg4
 z4:=Tryz.sizeOf4
 v4:=Tryz.zeroValue4
 t5:=Tryz.underlying5
 a5:=Tryz.isAgg5
 z5:=Tryz.sizeOf5
 v5:=Tryz.zeroValue5
 t9:=Tryz.underlying9
 a9:=Tryz.isAgg9
 z9:=Tryz.sizeOf9
 v9:=Tryz.zeroValue9
 t28:=Tryz.underlying28
 a28:=Tryz.isAgg28
 z28:=Tryz.sizeOf28
 v28:=Tryz.zeroValue28
 t46:=Tryz.underlying143
 a46:=Tryz.isAgg143
 z46:=Tryz.sizeOf143
 v46:=Tryz.zeroValue143
 t51:=Tryz.underlying205
 a51:=Tryz.isAgg205
 z51:=Tryz.sizeOf205
 v51:=Tryz.zeroValue205
 t53:=Tryz.underlying207
 a53:=Tryz.isAgg207
 z53:=Tryz.sizeOf207
 v53:=Tryz.zeroValue207
 t131:=Tryz.underlying175
 a131:=Tryz.isAgg175
 z131:=Tryz.sizeOf175
 v131:=Tryz.zeroValue175
 t182:=Tryz.underlying197
 a182:=Tryz.isAgg197
 z182:=Tryz.sizeOf197
 v182:=Tryz.zeroValue197
 t183:=Tryz.underlying198
 a183:=Tryz.isAgg198
 z183:=Tryz.sizeOf198
 v183:=Tryz.zeroValue198
 t218:=Tryz.underlying245
 a218:=Tryz.isAgg245
 z218:=Tryz.sizeOf245
 v218:=Tryz.zeroValue245
 t222:=Tryz.underlying249
 a222:=Tryz.isAgg249
 z222:=Tryz.sizeOf249
 v222:=Tryz.zeroValue249
 t228:=Tryz.underlying269
 a228:=Tryz.isAgg269
 z228:=Tryz.sizeOf269
 v228:=Tryz.zeroValue269
 t229:=Tryz.underlying270
 a229:=Tryz.isAgg270
 z229:=Tryz.sizeOf270
 v229:=Tryz.zeroValue270 }
def Tryz.lays2n20_ren:Go.Shelf.Ren:=⟨fun | 20=>36 | n=>n,fun | 22=>28 | 3=>3 | 4=>4 | 0=>0 | n=>n,fun | n=>n⟩
theorem Tryz.lays2n20:Go.Proofs.Lays2.n20 Tryz.prog Tryz.lays2n20_ren:={
 mixed:=by kernel_rfl
 f20:=Tryz.func36.trans (congrArg some (by kernel_rfl))
 t0:=Tryz.underlying0
 a0:=Tryz.isAgg0
 z0:=Tryz.sizeOf0
 v0:=Tryz.zeroValue0
 t3:=Tryz.underlying3
 a3:=Tryz.isAgg3
 z3:=Tryz.sizeOf3
 v3:=Tryz.zeroValue3
 t4:=Tryz.underlying4
 a4:=Tryz.isAgg4
 z4:=Tryz.sizeOf4
 v4:=Tryz.zeroValue4
 t22:=Tryz.underlying28
 a22:=Tryz.isAgg28
 z22:=Tryz.sizeOf28
 v22:=Tryz.zeroValue28
 i3:=by kernel_rfl }
def Tryz.lays2n15_ren:Go.Shelf.Ren:=⟨fun | 15=>156 | n=>n,fun | 22=>28 | 3=>3 | 4=>4 | n=>n,fun | n=>n⟩
theorem Tryz.lays2n15:Go.Proofs.Lays2.n15 Tryz.prog Tryz.lays2n15_ren:={
 mixed:=by kernel_rfl
 f15:=Tryz.func156.trans (congrArg some (by kernel_rfl))
 t3:=Tryz.underlying3
 a3:=Tryz.isAgg3
 z3:=Tryz.sizeOf3
 v3:=Tryz.zeroValue3
 t4:=Tryz.underlying4
 a4:=Tryz.isAgg4
 z4:=Tryz.sizeOf4
 v4:=Tryz.zeroValue4
 t22:=Tryz.underlying28
 a22:=Tryz.isAgg28
 z22:=Tryz.sizeOf28
 v22:=Tryz.zeroValue28
 i3:=by kernel_rfl }
def Tryz.laysM171_ren:Go.Shelf.Ren:=⟨fun | 171=>161 | 243=>202 | 246=>216 | 283=>232 | 284=>233 | 285=>234 | 286=>235 | 129=>133 | 317=>243 | 318=>244 | 319=>245 | 320=>246 | 337=>248 | 338=>249 | n=>n,fun | 3=>3 | 9=>9 | 2=>2 | 4=>4 | 171=>278 | 0=>0 | 53=>207 | 37=>46 | 5=>5 | 173=>280 | 212=>288 | 51=>205 | 20=>20 | 213=>289 | 46=>143 | 232=>290 | 233=>291 | n=>n,fun | 17=>1 | 18=>3 | 19=>4 | n=>n⟩
theorem Tryz.laysM171:Go.Proofs.LaysM.n171 Tryz.prog Tryz.laysM171_ren:={
 mixed:=by kernel_rfl
 f129:=Tryz.func133.trans (congrArg some (by kernel_rfl))
 f171:=Tryz.func161.trans (congrArg some (by kernel_rfl))
 f243:=Tryz.func202.trans (congrArg some (by kernel_rfl))
 f246:=Tryz.func216.trans (congrArg some (by kernel_rfl))
 f283:=Tryz.func232.trans (congrArg some (by kernel_rfl))
 f284:=Tryz.func233.trans (congrArg some (by kernel_rfl))
 f285:=Tryz.func234.trans (congrArg some (by kernel_rfl))
 f286:=Tryz.func235.trans (congrArg some (by kernel_rfl))
 f317:=Tryz.func243.trans (congrArg some (by kernel_rfl))
 f318:=Tryz.func244.trans (congrArg some (by kernel_rfl))
 f319:=Tryz.func245.trans (congrArg some (by kernel_rfl))
 f320:=Tryz.func246.trans (congrArg some (by kernel_rfl))
 f337:=Tryz.func248.trans (congrArg some (by kernel_rfl))
 f338:=Tryz.func249.trans (congrArg some (by kernel_rfl))
 t0:=Tryz.underlying0
 a0:=Tryz.isAgg0
 z0:=Tryz.sizeOf0
 v0:=Tryz.zeroValue0
 t2:=Tryz.underlying2
 a2:=Tryz.isAgg2
 z2:=Tryz.sizeOf2
 v2:=Tryz.zeroValue2
 t3:=Tryz.underlying3
 a3:=Tryz.isAgg3
 z3:=Tryz.sizeOf3
 v3:=Tryz.zeroValue3
 t4:=Tryz.underlying4
 a4:=Tryz.isAgg4
 z4:=Tryz.sizeOf4
 v4:=Tryz.zeroValue4
 t5:=Tryz.underlying5
 a5:=Tryz.isAgg5
 z5:=Tryz.sizeOf5
 v5:=Tryz.zeroValue5
 t9:=Tryz.underlying9
 a9:=Tryz.isAgg9
 z9:=Tryz.sizeOf9
 v9:=Tryz.zeroValue9
 t20:=Tryz.underlying20
 a20:=Tryz.isAgg20
 z20:=Tryz.sizeOf20
 v20:=Tryz.zeroValue20
 t37:=Tryz.underlying46
 a37:=Tryz.isAgg46
 z37:=Tryz.sizeOf46
 v37:=Tryz.zeroValue46
 t46:=Tryz.underlying143
 a46:=Tryz.isAgg143
 z46:=Tryz.sizeOf143
 v46:=Tryz.zeroValue143
 t51:=Tryz.underlying205
 a51:=Tryz.isAgg205
 z51:=Tryz.sizeOf205
 v51:=Tryz.zeroValue205
 t53:=Tryz.underlying207
 a53:=Tryz.isAgg207
 z53:=Tryz.sizeOf207
 v53:=Tryz.zeroValue207
 t171:=Tryz.underlying278
 a171:=Tryz.isAgg278
 z171:=Tryz.sizeOf278
 v171:=Tryz.zeroValue278
 t173:=Tryz.underlying280
 a173:=Tryz.isAgg280
 z173:=Tryz.sizeOf280
 v173:=Tryz.zeroValue280
 t212:=Tryz.underlying288
 a212:=Tryz.isAgg288
 z212:=Tryz.sizeOf288
 v212:=Tryz.zeroValue288
 t213:=Tryz.underlying289
 a213:=Tryz.isAgg289
 z213:=Tryz.sizeOf289
 t232:=Tryz.underlying290
 a232:=Tryz.isAgg290
 z232:=Tryz.sizeOf290
 v232:=Tryz.zeroValue290
 t233:=Tryz.underlying291
 a233:=Tryz.isAgg291
 z233:=Tryz.sizeOf291
 v233:=Tryz.zeroValue291
 g17:=by kernel_rfl
 g18:=by kernel_rfl
 g19:=by kernel_rfl
 i0:=by kernel_rfl
 i2:=by kernel_rfl
 i3:=by kernel_rfl
 i4:=by kernel_rfl
 i5:=by kernel_rfl
 i9:=by kernel_rfl
 i20:=by kernel_rfl
 i37:=by kernel_rfl
 i46:=by kernel_rfl
 i51:=by kernel_rfl
 i53:=by kernel_rfl
 i171:=by kernel_rfl
 i173:=by kernel_rfl
 i212:=by kernel_rfl
 i232:=by kernel_rfl
 i233:=by kernel_rfl
 m17:=by kernel_rfl
 m18:=by kernel_rfl
 m19:=by kernel_rfl }
def Tryz.lays156_ren:Go.Shelf.Ren:=⟨fun | 156=>162 | 165=>203 | 166=>204 | 169=>205 | 240=>217 | 241=>218 | 276=>236 | 277=>237 | n=>n,fun | 31=>228 | 9=>9 | 3=>3 | 4=>4 | 0=>0 | 20=>20 | 72=>257 | 76=>261 | 70=>255 | 37=>46 | 75=>260 | 127=>274 | 164=>282 | 5=>5 | 80=>263 | n=>n,fun | n=>n⟩
theorem Tryz.lays156:Go.Proofs.Lays.n156 Tryz.prog Tryz.lays156_ren:={
 mixed:=by kernel_rfl
 f156:=Tryz.func162.trans (congrArg some (by kernel_rfl))
 f165:=Tryz.func203.trans (congrArg some (by kernel_rfl))
 f166:=Tryz.func204.trans (congrArg some (by kernel_rfl))
 f169:=Tryz.func205.trans (congrArg some (by kernel_rfl))
 f240:=Tryz.func217.trans (congrArg some (by kernel_rfl))
 f241:=Tryz.func218.trans (congrArg some (by kernel_rfl))
 f276:=Tryz.func236.trans (congrArg some (by kernel_rfl))
 f277:=Tryz.func237.trans (congrArg some (by kernel_rfl))
 t0:=Tryz.underlying0
 a0:=Tryz.isAgg0
 z0:=Tryz.sizeOf0
 v0:=Tryz.zeroValue0
 t3:=Tryz.underlying3
 a3:=Tryz.isAgg3
 z3:=Tryz.sizeOf3
 v3:=Tryz.zeroValue3
 t4:=Tryz.underlying4
 a4:=Tryz.isAgg4
 z4:=Tryz.sizeOf4
 v4:=Tryz.zeroValue4
 t9:=Tryz.underlying9
 a9:=Tryz.isAgg9
 z9:=Tryz.sizeOf9
 v9:=Tryz.zeroValue9
 t20:=Tryz.underlying20
 a20:=Tryz.isAgg20
 z20:=Tryz.sizeOf20
 v20:=Tryz.zeroValue20
 t31:=Tryz.underlying228
 a31:=Tryz.isAgg228
 z31:=Tryz.sizeOf228
 v31:=Tryz.zeroValue228
 t37:=Tryz.underlying46
 a37:=Tryz.isAgg46
 z37:=Tryz.sizeOf46
 v37:=Tryz.zeroValue46
 t70:=Tryz.underlying255
 a70:=Tryz.isAgg255
 z70:=Tryz.sizeOf255
 v70:=Tryz.zeroValue255
 t72:=Tryz.underlying257
 a72:=Tryz.isAgg257
 z72:=Tryz.sizeOf257
 v72:=Tryz.zeroValue257
 t75:=Tryz.underlying260
 a75:=Tryz.isAgg260
 z75:=Tryz.sizeOf260
 v75:=Tryz.zeroValue260
 t76:=Tryz.underlying261
 a76:=Tryz.isAgg261
 z76:=Tryz.sizeOf261
 v76:=Tryz.zeroValue261
 t127:=Tryz.underlying274
 a127:=Tryz.isAgg274
 z127:=Tryz.sizeOf274
 v127:=Tryz.zeroValue274
 t164:=Tryz.underlying282
 a164:=Tryz.isAgg282
 z164:=Tryz.sizeOf282
 v164:=Tryz.zeroValue282 }
theorem Tryz.bx156:Builder.Extra Tryz.prog Tryz.lays156_ren:={
 sizeBuilder:=by kernel_rfl
 liesBuilder:=by kernel_rfl
 t5:=Tryz.underlying5
 a5:=Tryz.isAgg5
 z5:=Tryz.sizeOf5
 v5:=Tryz.zeroValue5
 infoByte:=by kernel_rfl
 cellsByte:=by kernel_rfl
 sizeByte:=by kernel_rfl
 neB5:=by decide }
end Go.Proofs
end
section
set_option maxRecDepth 100000
namespace Rg
open Go Go.Proofs Go.Proofs.YtaiokglcgiemnaaGreatDoor
namespace Seat
def tbl:List Nat:=[2,1000001,1000002,1000003,1000004,1000005,1000006,1000007,1000008,30,1000010,25,24,16,1000014,1000015,1000016,163,98,1000019,50,137,1000022,74,195,1000025,1000026,14,1000028,1000029,1000030,1000031,97,13,66,1000035,73,67,65,45,28,1000041,1000042,146,147,148,144,117,82,215,1000050,42,1000052,1000053,1000054,1000055,43,1000057,1000058,1000059,33,71,70,72,75,92,54,197,134,55,86,87,88,89,35,36,76,77,78,118,119,120,121,122,139,140,141,142,143,188,18,135,136,80,81,168,169,170,171,172,173,174,175,176,177,178,179,180,181,189,190,191,192,193,194,196,213,46,47,48,123,124,125,126,127,128,129,130,131,132,133,206,207,208,209,210,211,214,37,182,183,184,185,186,187,219,220,221,222,223,224,225,226,227,228,229,230,231,83,38,212,238,239,240,241,242,247,274,1000168,1000169,1000170,1000171,1000172,1000173,1000174,1000175,93,1000177,1000178,110,57,1000181,49,1000183,1000184,1000185,1000186,99,102,103,100,101,104,94,95,149,150,1000197,156,154,151,152,153,155,145,198,105,157,1000208,1000209,1000210,1000211,1000212,1000213,1000214,1000215,1000216,1000217,1000218,1000219,1000220,1000221,1000222,1000223,1000224,1000225,1000226,1000227,1000228,1000229,1000230,1000231,1000232,1000233,1000234,1000235,1000236,1000237,1000238,1000239,161,1000241,1000242,1000243,1000244,1000245,205,1000247,1000248,1000249,1000250,1000251,1000252,1000253,1000254,1000255,1000256,202,204,162,1000260,1000261,1000262,1000263,1000264,216,217,203,1000268,232,233,234,235,218,1000274,243,244,245,246,248,249,1000281,1000282,1000283,1000284,1000285,1000286,1000287,1000288,1000289,1000290,1000291,1000292,1000293,1000294,1000295,1000296,1000297,1000298,1000299,1000300,1000301,1000302,1000303,1000304,1000305,1000306,1000307,1000308,1000309,1000310,1000311,1000312,1000313,1000314,1000315,1000316,1000317,1000318,1000319,1000320,1000321,1000322,1000323,1000324,1000325,1000326,1000327,3,4,5,6,7,8,9,10,11,12,15,17,19,20,21,22,23,26,27,29,31,32,34,39,40,41,44,51,52,53,56,58,59,60,61,62,63,64,68,69,79,84,85,90,91,96,106,107,108,109,111,112,113,114,115,116,138,158,159,160,164,165,166,167,199,200,201,1000395,1000396,1000397,1000398,1000399,1000400,1000401,1000402,1000403,1000404,1000405,1000406,1000407,1000408,1000409,1000410,1000411,1000412,1000413,1000414,1000415,1000416,1000417,1000418,1000419,1000420,1000421,1000422,1000423,1000424,1000425,1000426,1000427,1000428,1000429,1000430,1000431,1000432,1000433,1000434,1000435,1000436,1000437,1000438,1000439,1000440]
def I:Inv:=⟨fun f=>tbl.findIdx? (· ==f),fun g=>if g=0 then some 0 else if g=1 then some 2 else none,some 257⟩
def N:Nam:=⟨fun k=>tbl.getD k 0,fun k=>[0,0,1].getD k 0,G,CR Tryz.prog I,257,5⟩
def zah (s:List Nat):Raws:=⟨[52,53,54,57,60,70,74,75,76,77,83,93,97,120,121,122,123,124,125,127,128,136,139,141,142,143,158,160,199,200,202,203,236,241,244,245,246,258,260,261,295,300,301,302,310,315,317,322,323,324,326,350,353,356,361,362,363,364,365,368,375,376,378,379,380,381,382,386,387,388,389,390,391,392,393,425,426],s,[32,78,198]⟩
def Ent (q:Nat×F):Prop:=(∃rf rw L raw,Tryz.prog.funcs[N.nm q.1]? =some rf/\ziy Tryz.prog I rw L raw rf=some q.2)\/ ∃e,q.2.body= .ext e/\zgM Tryz.prog N q.1 e
theorem e9:Ent (9,f9):=.inl ⟨Tryz.f30,zah [],[5,1],false,Tryz.func30,by kernel_rfl⟩
theorem e12:Ent (12,f12):=.inl ⟨Tryz.f24,zah [],[3,2,1],false,Tryz.func24,by kernel_rfl⟩
theorem e13:Ent (13,f13):=.inl ⟨Tryz.f16,zah [],[3,2,1],false,Tryz.func16,by kernel_rfl⟩
theorem e17:Ent (17,f17):=.inl ⟨Tryz.f163,zah [],[3,2],false,Tryz.func163,by kernel_rfl⟩
theorem e18:Ent (18,f18):=.inl ⟨Tryz.f98,zah [],[9,6,5,4,3],false,Tryz.func98,by kernel_rfl⟩
theorem e20:Ent (20,f20):=.inl ⟨Tryz.f50,zah [],[3],false,Tryz.func50,by kernel_rfl⟩
theorem e21:Ent (21,f21):=.inl ⟨Tryz.f137,zah [],[4,3],false,Tryz.func137,by kernel_rfl⟩
theorem e23:Ent (23,f23):=.inl ⟨Tryz.f74,zah [],[2],false,Tryz.func74,by kernel_rfl⟩
theorem e24:Ent (24,f24):=.inl ⟨Tryz.f195,zah [],[3],false,Tryz.func195,by kernel_rfl⟩
theorem e27:Ent (27,f27):=.inl ⟨Tryz.f14,zah [],[],false,Tryz.func14,by kernel_rfl⟩
theorem e32:Ent (32,f32):=.inl ⟨Tryz.f97,zah [],[],true,Tryz.func97,by kernel_rfl⟩
theorem e33:Ent (33,f33):=.inl ⟨Tryz.f13,zah [],[],false,Tryz.func13,by kernel_rfl⟩
theorem e36:Ent (36,f36):=.inl ⟨Tryz.f73,zah [],[1],false,Tryz.func73,by kernel_rfl⟩
theorem e38:Ent (38,f38):=.inl ⟨Tryz.f65,zah [],[1],false,Tryz.func65,by kernel_rfl⟩
theorem e39:Ent (39,f39):=.inl ⟨Tryz.f45,zah [],[1],false,Tryz.func45,by kernel_rfl⟩
theorem e40:Ent (40,f40):=.inl ⟨Tryz.f28,zah [],[],false,Tryz.func28,by kernel_rfl⟩
theorem e43:Ent (43,f43):=.inl ⟨Tryz.f146,zah [],[9,3,2],false,Tryz.func146,by kernel_rfl⟩
theorem e44:Ent (44,f44):=.inl ⟨Tryz.f147,zah [],[3,2],false,Tryz.func147,by kernel_rfl⟩
theorem e45:Ent (45,f45):=.inl ⟨Tryz.f148,zah [],[10,8,7,6,5,4,3],false,Tryz.func148,by kernel_rfl⟩
theorem e46:Ent (46,f46):=.inl ⟨Tryz.f144,zah [],[3],false,Tryz.func144,by kernel_rfl⟩
theorem e47:Ent (47,f47):=.inl ⟨Tryz.f117,zah [],[2],false,Tryz.func117,by kernel_rfl⟩
theorem e48:Ent (48,f48):=.inl ⟨Tryz.f82,zah [],[1],false,Tryz.func82,by kernel_rfl⟩
theorem e49:Ent (49,f49):=.inl ⟨Tryz.f215,zah [],[3],false,Tryz.func215,by kernel_rfl⟩
theorem e51:Ent (51,f51):=.inl ⟨Tryz.f42,zah [7],[],false,Tryz.func42,by kernel_rfl⟩
theorem e56:Ent (56,f56):=.inl ⟨Tryz.f43,zah [],[7],false,Tryz.func43,by kernel_rfl⟩
theorem e60:Ent (60,f60):=.inl ⟨Tryz.f33,zah [],[],true,Tryz.func33,by kernel_rfl⟩
theorem e61:Ent (61,f61):=.inl ⟨Tryz.f71,zah [],[4],false,Tryz.func71,by kernel_rfl⟩
theorem e62:Ent (62,f62):=.inl ⟨Tryz.f70,zah [],[4],false,Tryz.func70,by kernel_rfl⟩
theorem e63:Ent (63,f63):=.inl ⟨Tryz.f72,zah [],[8,7,6],false,Tryz.func72,by kernel_rfl⟩
theorem e64:Ent (64,f64):=.inl ⟨Tryz.f75,zah [],[13,5,1],false,Tryz.func75,by kernel_rfl⟩
theorem e65:Ent (65,f65):=.inl ⟨Tryz.f92,zah [],[1],false,Tryz.func92,by kernel_rfl⟩
theorem e66:Ent (66,f66):=.inl ⟨Tryz.f54,zah [],[],false,Tryz.func54,by kernel_rfl⟩
theorem e67:Ent (67,f67):=.inl ⟨Tryz.f197,zah [],[9,5,4],false,Tryz.func197,by kernel_rfl⟩
theorem e68:Ent (68,f68):=.inl ⟨Tryz.f134,zah [],[2],false,Tryz.func134,by kernel_rfl⟩
theorem e69:Ent (69,f69):=.inl ⟨Tryz.f55,zah [],[3],false,Tryz.func55,by kernel_rfl⟩
theorem e70:Ent (70,f70):=.inl ⟨Tryz.f86,zah [38],[],true,Tryz.func86,by kernel_rfl⟩
theorem e71:Ent (71,f71):=.inl ⟨Tryz.f87,zah [],[],false,Tryz.func87,by kernel_rfl⟩
theorem e72:Ent (72,f72):=.inl ⟨Tryz.f88,zah [],[],false,Tryz.func88,by kernel_rfl⟩
theorem e73:Ent (73,f73):=.inl ⟨Tryz.f89,zah [],[3],false,Tryz.func89,by kernel_rfl⟩
theorem e74:Ent (74,f74):=.inr ⟨.sortI,rfl,znb Tryz.lays189 (by kernel_rfl) (rf:=Tryz.f35) ⟨Tryz.func35,by kernel_rfl,by kernel_rfl⟩⟩
theorem e75:Ent (75,f75):=.inr ⟨.compactI,rfl,zis Tryz.lays2n20 (by kernel_rfl) (rf:=Tryz.f36) ⟨Tryz.func36,by kernel_rfl,by kernel_rfl⟩⟩
theorem e76:Ent (76,f76):=.inl ⟨Tryz.f76,zah [13],[],true,Tryz.func76,by kernel_rfl⟩
theorem e77:Ent (77,f77):=.inl ⟨Tryz.f77,zah [],[],true,Tryz.func77,by kernel_rfl⟩
theorem e78:Ent (78,f78):=.inl ⟨Tryz.f78,zah [],[1],true,Tryz.func78,by kernel_rfl⟩
theorem e79:Ent (79,f79):=.inl ⟨Tryz.f118,zah [],[6,4,1],false,Tryz.func118,by kernel_rfl⟩
theorem e80:Ent (80,f80):=.inl ⟨Tryz.f119,zah [],[5,1],false,Tryz.func119,by kernel_rfl⟩
theorem e81:Ent (81,f81):=.inl ⟨Tryz.f120,zah [],[5,1],false,Tryz.func120,by kernel_rfl⟩
theorem e82:Ent (82,f82):=.inl ⟨Tryz.f121,zah [],[6,5,1],false,Tryz.func121,by kernel_rfl⟩
theorem e83:Ent (83,f83):=.inl ⟨Tryz.f122,zah [],[14,12],true,Tryz.func122,by kernel_rfl⟩
theorem e84:Ent (84,f84):=.inl ⟨Tryz.f139,zah [],[5,1],false,Tryz.func139,by kernel_rfl⟩
theorem e85:Ent (85,f85):=.inl ⟨Tryz.f140,zah [],[4,1],false,Tryz.func140,by kernel_rfl⟩
theorem e86:Ent (86,f86):=.inl ⟨Tryz.f141,zah [],[4,1],false,Tryz.func141,by kernel_rfl⟩
theorem e87:Ent (87,f87):=.inl ⟨Tryz.f142,zah [],[4,1],false,Tryz.func142,by kernel_rfl⟩
theorem e88:Ent (88,f88):=.inl ⟨Tryz.f143,zah [],[13,6,2],false,Tryz.func143,by kernel_rfl⟩
theorem e89:Ent (89,f89):=.inl ⟨Tryz.f188,zah [],[1],false,Tryz.func188,by kernel_rfl⟩
theorem e90:Ent (90,f90):=.inl ⟨Tryz.f18,zah [],[3],false,Tryz.func18,by kernel_rfl⟩
theorem e91:Ent (91,f91):=.inl ⟨Tryz.f135,zah [],[],false,Tryz.func135,by kernel_rfl⟩
theorem e92:Ent (92,f92):=.inl ⟨Tryz.f136,zah [],[],false,Tryz.func136,by kernel_rfl⟩
theorem e95:Ent (95,f95):=.inl ⟨Tryz.f168,zah [],[],false,Tryz.func168,by kernel_rfl⟩
theorem e96:Ent (96,f96):=.inl ⟨Tryz.f169,zah [],[],false,Tryz.func169,by kernel_rfl⟩
theorem e97:Ent (97,f97):=.inl ⟨Tryz.f170,zah [],[5],true,Tryz.func170,by kernel_rfl⟩
theorem e98:Ent (98,f98):=.inl ⟨Tryz.f171,zah [],[1],false,Tryz.func171,by kernel_rfl⟩
theorem e99:Ent (99,f99):=.inl ⟨Tryz.f172,zah [],[5,4],false,Tryz.func172,by kernel_rfl⟩
theorem zvM:Ent (100,f100):=.inl ⟨Tryz.f173,zah [],[2],false,Tryz.func173,by kernel_rfl⟩
theorem zvL:Ent (101,f101):=.inl ⟨Tryz.f174,zah [],[],false,Tryz.func174,by kernel_rfl⟩
theorem zvK:Ent (102,f102):=.inl ⟨Tryz.f175,zah [],[],false,Tryz.func175,by kernel_rfl⟩
theorem zvJ:Ent (103,f103):=.inl ⟨Tryz.f176,zah [],[],false,Tryz.func176,by kernel_rfl⟩
theorem zvI:Ent (104,f104):=.inl ⟨Tryz.f177,zah [],[],false,Tryz.func177,by kernel_rfl⟩
theorem zvH:Ent (105,f105):=.inl ⟨Tryz.f178,zah [],[13,12,7,6,4],false,Tryz.func178,by kernel_rfl⟩
theorem zvG:Ent (106,f106):=.inl ⟨Tryz.f179,zah [],[],false,Tryz.func179,by kernel_rfl⟩
theorem zvF:Ent (107,f107):=.inl ⟨Tryz.f180,zah [],[],false,Tryz.func180,by kernel_rfl⟩
theorem zvE:Ent (108,f108):=.inl ⟨Tryz.f181,zah [],[2],false,Tryz.func181,by kernel_rfl⟩
theorem zvD:Ent (109,f109):=.inl ⟨Tryz.f189,zah [],[],false,Tryz.func189,by kernel_rfl⟩
theorem zvC:Ent (110,f110):=.inl ⟨Tryz.f190,zah [],[],false,Tryz.func190,by kernel_rfl⟩
theorem zvB:Ent (111,f111):=.inl ⟨Tryz.f191,zah [],[1],false,Tryz.func191,by kernel_rfl⟩
theorem zvA:Ent (112,f112):=.inl ⟨Tryz.f192,zah [],[5,4],false,Tryz.func192,by kernel_rfl⟩
theorem zvz:Ent (113,f113):=.inl ⟨Tryz.f193,zah [],[],false,Tryz.func193,by kernel_rfl⟩
theorem zvy:Ent (114,f114):=.inl ⟨Tryz.f194,zah [],[5,3],false,Tryz.func194,by kernel_rfl⟩
theorem zvx:Ent (115,f115):=.inl ⟨Tryz.f196,zah [],[5,4],false,Tryz.func196,by kernel_rfl⟩
theorem zvw:Ent (116,zra):=.inl ⟨Tryz.f213,zah [],[],false,Tryz.func213,by kernel_rfl⟩
theorem zvv:Ent (117,f117):=.inl ⟨Tryz.f46,zah [],[],false,Tryz.func46,by kernel_rfl⟩
theorem zvu:Ent (118,f118):=.inl ⟨Tryz.f47,zah [],[],false,Tryz.func47,by kernel_rfl⟩
theorem zvt:Ent (119,f119):=.inl ⟨Tryz.f48,zah [],[2],false,Tryz.func48,by kernel_rfl⟩
theorem zvs:Ent (131,zq9):=.inl ⟨Tryz.f206,zah [],[],false,Tryz.func206,by kernel_rfl⟩
theorem zvr:Ent (132,zq8):=.inl ⟨Tryz.f207,zah [],[],false,Tryz.func207,by kernel_rfl⟩
theorem zvq:Ent (133,zq7):=.inl ⟨Tryz.f208,zah [],[],false,Tryz.func208,by kernel_rfl⟩
theorem zvp:Ent (134,f134):=.inl ⟨Tryz.f209,zah [],[],false,Tryz.func209,by kernel_rfl⟩
theorem zvo:Ent (135,f135):=.inl ⟨Tryz.f210,zah [],[0],false,Tryz.func210,by kernel_rfl⟩
theorem zvn:Ent (136,f136):=.inl ⟨Tryz.f211,zah [],[],true,Tryz.func211,by kernel_rfl⟩
theorem zvm:Ent (137,f137):=.inl ⟨Tryz.f214,zah [],[12,5,3],false,Tryz.func214,by kernel_rfl⟩
theorem zvl:Ent (138,f138):=.inl ⟨Tryz.f37,zah [],[1],false,Tryz.func37,by kernel_rfl⟩
theorem zvk:Ent (145,f145):=.inl ⟨Tryz.f219,zah [],[],false,Tryz.func219,by kernel_rfl⟩
theorem zvj:Ent (146,f146):=.inl ⟨Tryz.f220,zah [],[],false,Tryz.func220,by kernel_rfl⟩
theorem zvi:Ent (147,f147):=.inl ⟨Tryz.f221,zah [],[5,3],false,Tryz.func221,by kernel_rfl⟩
theorem zvh:Ent (148,f148):=.inl ⟨Tryz.f222,zah [],[11,9,5,3],false,Tryz.func222,by kernel_rfl⟩
theorem zvg:Ent (149,f149):=.inl ⟨Tryz.f223,zah [],[5],false,Tryz.func223,by kernel_rfl⟩
theorem zvf:Ent (150,f150):=.inl ⟨Tryz.f224,zah [],[5,3],false,Tryz.func224,by kernel_rfl⟩
theorem zve:Ent (151,f151):=.inl ⟨Tryz.f225,zah [],[5,3],false,Tryz.func225,by kernel_rfl⟩
theorem zvd:Ent (152,f152):=.inl ⟨Tryz.f226,zah [],[5,3],false,Tryz.func226,by kernel_rfl⟩
theorem zvc:Ent (153,f153):=.inl ⟨Tryz.f227,zah [],[5,3],false,Tryz.func227,by kernel_rfl⟩
theorem zvb:Ent (154,f154):=.inl ⟨Tryz.f228,zah [],[3],false,Tryz.func228,by kernel_rfl⟩
theorem zva:Ent (155,f155):=.inl ⟨Tryz.f229,zah [],[2],false,Tryz.func229,by kernel_rfl⟩
theorem zu9:Ent (156,f156):=.inl ⟨Tryz.f230,zah [],[3,2],false,Tryz.func230,by kernel_rfl⟩
theorem zu8:Ent (157,f157):=.inl ⟨Tryz.f231,zah [],[0],false,Tryz.func231,by kernel_rfl⟩
theorem zu7:Ent (158,f158):=.inl ⟨Tryz.f83,zah [],[3],true,Tryz.func83,by kernel_rfl⟩
theorem zu6:Ent (159,f159):=.inl ⟨Tryz.f38,zah [],[],false,Tryz.func38,by kernel_rfl⟩
theorem zu5:Ent (161,f161):=.inl ⟨Tryz.f238,zah [],[6,2],false,Tryz.func238,by kernel_rfl⟩
theorem zu4:Ent (162,f162):=.inl ⟨Tryz.f239,zah [],[6],false,Tryz.func239,by kernel_rfl⟩
theorem zu3:Ent (163,f163):=.inl ⟨Tryz.f240,zah [],[2],false,Tryz.func240,by kernel_rfl⟩
theorem zu2:Ent (164,f164):=.inl ⟨Tryz.f241,zah [],[],false,Tryz.func241,by kernel_rfl⟩
theorem zu1:Ent (165,f165):=.inl ⟨Tryz.f242,zah [],[1],false,Tryz.func242,by kernel_rfl⟩
theorem zu0:Ent (166,f166):=.inl ⟨Tryz.f247,zah [],[1],false,Tryz.func247,by kernel_rfl⟩
theorem zuZ:Ent (176,f176):=.inl ⟨Tryz.f93,zah [],[1],false,Tryz.func93,by kernel_rfl⟩
theorem zuY:Ent (179,f179):=.inl ⟨Tryz.f110,zah [],[7,5,3],false,Tryz.func110,by kernel_rfl⟩
theorem zuX:Ent (180,f180):=.inl ⟨Tryz.f57,zah [],[6,4],false,Tryz.func57,by kernel_rfl⟩
theorem zuW:Ent (182,zq6):=.inl ⟨Tryz.f49,zah [],[5,3],false,Tryz.func49,by kernel_rfl⟩
theorem zuV:Ent (187,zq5):=.inl ⟨Tryz.f99,zah [],[6,5,3],false,Tryz.func99,by kernel_rfl⟩
theorem zuU:Ent (188,f188):=.inl ⟨Tryz.f102,zah [],[7,2],false,Tryz.func102,by kernel_rfl⟩
theorem zuT:Ent (189,f189):=.inl ⟨Tryz.f103,zah [],[9,4],false,Tryz.func103,by kernel_rfl⟩
theorem zuS:Ent (190,f190):=.inl ⟨Tryz.f100,zah [],[],false,Tryz.func100,by kernel_rfl⟩
theorem zuR:Ent (191,f191):=.inl ⟨Tryz.f101,zah [],[7,6,3],false,Tryz.func101,by kernel_rfl⟩
theorem zuQ:Ent (192,f192):=.inl ⟨Tryz.f104,zah [],[11,9,8,7,6,4,3],false,Tryz.func104,by kernel_rfl⟩
theorem zuP:Ent (193,f193):=.inl ⟨Tryz.f94,zah [],[3,2],false,Tryz.func94,by kernel_rfl⟩
theorem zuO:Ent (194,f194):=.inl ⟨Tryz.f95,zah [],[1],false,Tryz.func95,by kernel_rfl⟩
theorem zuN:Ent (195,f195):=.inl ⟨Tryz.f149,zah [],[1],false,Tryz.func149,by kernel_rfl⟩
theorem zuM:Ent (196,f196):=.inl ⟨Tryz.f150,zah [],[11,9,3,2],false,Tryz.func150,by kernel_rfl⟩
theorem zuL:Ent (198,f198):=.inr ⟨.cloneI,rfl,zlz Tryz.lays2n15 (by kernel_rfl) (rf:=Tryz.f156) ⟨Tryz.func156,by kernel_rfl,by kernel_rfl⟩⟩
theorem zuK:Ent (199,f199):=.inl ⟨Tryz.f154,zah [],[3],true,Tryz.func154,by kernel_rfl⟩
theorem zuJ:Ent (200,f200):=.inl ⟨Tryz.f151,zah [37],[6],true,Tryz.func151,by kernel_rfl⟩
theorem zuI:Ent (201,f201):=.inl ⟨Tryz.f152,zah [],[6,3],false,Tryz.func152,by kernel_rfl⟩
theorem zuH:Ent (202,zq4):=.inl ⟨Tryz.f153,zah [],[7,3,2,1],true,Tryz.func153,by kernel_rfl⟩
theorem zuG:Ent (203,zq3):=.inl ⟨Tryz.f155,zah [],[],true,Tryz.func155,by kernel_rfl⟩
theorem zuF:Ent (204,zq2):=.inl ⟨Tryz.f145,zah [],[3,2],false,Tryz.func145,by kernel_rfl⟩
theorem zuE:Ent (205,zq1):=.inl ⟨Tryz.f198,zah [],[7,3,2],false,Tryz.func198,by kernel_rfl⟩
theorem zuD:Ent (206,f206):=.inl ⟨Tryz.f105,zah [],[],false,Tryz.func105,by kernel_rfl⟩
theorem zuC:Ent (207,f207):=.inl ⟨Tryz.f157,zah [],[],false,Tryz.func157,by kernel_rfl⟩
theorem ztq:Ent (240,f240):=.inr ⟨.itoa,rfl,znd Tryz.laysM171 (by kernel_rfl) (q:=1) (j:=2) (by kernel_rfl) rfl (by kernel_rfl) (rf:=Tryz.f161) ⟨Tryz.func161,by kernel_rfl,by kernel_rfl⟩⟩
theorem zuB:Ent (259,zst):=.inr ⟨.joinS,rfl,znc Tryz.lays156 Tryz.bx156 (by kernel_rfl) (rf:=Tryz.f162) ⟨Tryz.func162,by kernel_rfl,by kernel_rfl⟩⟩
theorem zuA:Ent (330,f330):=.inl ⟨Tryz.f5,zah [],[5],false,Tryz.func5,by kernel_rfl⟩
theorem zuz:Ent (334,zss):=.inl ⟨Tryz.f9,zah [],[1],false,Tryz.func9,by kernel_rfl⟩
theorem zuy:Ent (335,zq0):=.inl ⟨Tryz.f10,zah [],[3],false,Tryz.func10,by kernel_rfl⟩
theorem zux:Ent (336,zqZ):=.inl ⟨Tryz.f11,zah [],[9,8,3],false,Tryz.func11,by kernel_rfl⟩
theorem zuw:Ent (338,f338):=.inl ⟨Tryz.f15,zah [],[13,9,4],false,Tryz.func15,by kernel_rfl⟩
theorem zuv:Ent (340,zpQ):=.inl ⟨Tryz.f19,zah [],[15,13,11,10,8,7,6,4],false,Tryz.func19,by kernel_rfl⟩
theorem zuu:Ent (341,zqY):=.inl ⟨Tryz.f20,zah [],[18,17,13,12,5],false,Tryz.func20,by kernel_rfl⟩
theorem zut:Ent (343,f343):=.inl ⟨Tryz.f22,zah [],[20,17,14,5],false,Tryz.func22,by kernel_rfl⟩
theorem zus:Ent (347,zsr):=.inl ⟨Tryz.f29,zah [],[8,7,6,5,4,3,2],false,Tryz.func29,by kernel_rfl⟩
theorem zur:Ent (348,zqX):=.inl ⟨Tryz.f31,zah [],[3],false,Tryz.func31,by kernel_rfl⟩
theorem zuq:Ent (349,zqW):=.inl ⟨Tryz.f32,zah [],[3],false,Tryz.func32,by kernel_rfl⟩
theorem zup:Ent (350,zqV):=.inl ⟨Tryz.f34,zah [],[],true,Tryz.func34,by kernel_rfl⟩
theorem zuo:Ent (354,zqU):=.inl ⟨Tryz.f44,zah [],[5,3],false,Tryz.func44,by kernel_rfl⟩
theorem zun:Ent (355,zqT):=.inl ⟨Tryz.f51,zah [],[11,7,6,3],false,Tryz.func51,by kernel_rfl⟩
theorem zum:Ent (356,zqS):=.inl ⟨Tryz.f52,zah [],[6,3,2,1],true,Tryz.func52,by kernel_rfl⟩
theorem zul:Ent (357,zqR):=.inl ⟨Tryz.f53,zah [],[2],false,Tryz.func53,by kernel_rfl⟩
theorem zuk:Ent (358,zqQ):=.inl ⟨Tryz.f56,zah [],[],false,Tryz.func56,by kernel_rfl⟩
theorem zuj:Ent (359,zqP):=.inl ⟨Tryz.f58,zah [],[2],false,Tryz.func58,by kernel_rfl⟩
theorem zui:Ent (360,zsq):=.inl ⟨Tryz.f59,zah [],[3],false,Tryz.func59,by kernel_rfl⟩
theorem zuh:Ent (361,zsp):=.inl ⟨Tryz.f60,zah [],[15,14,12,9,3],true,Tryz.func60,by kernel_rfl⟩
theorem zug:Ent (362,zso):=.inl ⟨Tryz.f61,zah [],[8],true,Tryz.func61,by kernel_rfl⟩
theorem zuf:Ent (363,zsn):=.inl ⟨Tryz.f62,zah [55],[18,17],true,Tryz.func62,by kernel_rfl⟩
theorem zue:Ent (364,zsm):=.inl ⟨Tryz.f63,zah [],[],true,Tryz.func63,by kernel_rfl⟩
theorem zud:Ent (365,zsl):=.inl ⟨Tryz.f64,zah [],[7],true,Tryz.func64,by kernel_rfl⟩
theorem zuc:Ent (368,zpP):=.inl ⟨Tryz.f79,zah [],[],true,Tryz.func79,by kernel_rfl⟩
theorem zub:Ent (371,zqO):=.inl ⟨Tryz.f90,zah [],[9,7,5],false,Tryz.func90,by kernel_rfl⟩
theorem zua:Ent (372,zqN):=.inl ⟨Tryz.f91,zah [],[],false,Tryz.func91,by kernel_rfl⟩
theorem zt9:Ent (373,zqM):=.inl ⟨Tryz.f96,zah [],[3],false,Tryz.func96,by kernel_rfl⟩
theorem zt8:Ent (374,zsk):=.inl ⟨Tryz.f106,zah [],[3],false,Tryz.func106,by kernel_rfl⟩
theorem zt7:Ent (375,zsj):=.inl ⟨Tryz.f107,zah [24],[],true,Tryz.func107,by kernel_rfl⟩
theorem zt6:Ent (376,zsi):=.inl ⟨Tryz.f108,zah [],[2],true,Tryz.func108,by kernel_rfl⟩
theorem zt5:Ent (377,zsh):=.inl ⟨Tryz.f109,zah [13,17,34,38],[8,1],false,Tryz.func109,by kernel_rfl⟩
theorem zt4:Ent (378,zsg):=.inl ⟨Tryz.f111,zah [],[7],true,Tryz.func111,by kernel_rfl⟩
theorem zt3:Ent (379,zsf):=.inl ⟨Tryz.f112,zah [],[3],true,Tryz.func112,by kernel_rfl⟩
theorem zt2:Ent (380,zse):=.inl ⟨Tryz.f113,zah [],[],true,Tryz.func113,by kernel_rfl⟩
theorem zt1:Ent (381,zsd):=.inl ⟨Tryz.f114,zah [],[3],true,Tryz.func114,by kernel_rfl⟩
theorem zt0:Ent (382,zsc):=.inl ⟨Tryz.f115,zah [15,22,28],[3],true,Tryz.func115,by kernel_rfl⟩
theorem ztZ:Ent (384,zqL):=.inl ⟨Tryz.f138,zah [],[3,2],false,Tryz.func138,by kernel_rfl⟩
theorem ztY:Ent (385,zsb):=.inl ⟨Tryz.f158,zah [],[1],false,Tryz.func158,by kernel_rfl⟩
theorem ztX:Ent (386,zsa):=.inl ⟨Tryz.f159,zah [],[],true,Tryz.func159,by kernel_rfl⟩
theorem ztW:Ent (387,zr9):=.inl ⟨Tryz.f160,zah [],[],true,Tryz.func160,by kernel_rfl⟩
theorem ztV:Ent (388,zr8):=.inl ⟨Tryz.f164,zah [],[],true,Tryz.func164,by kernel_rfl⟩
theorem ztU:Ent (389,zr7):=.inl ⟨Tryz.f165,zah [],[],true,Tryz.func165,by kernel_rfl⟩
theorem ztT:Ent (390,zr6):=.inl ⟨Tryz.f166,zah [],[],true,Tryz.func166,by kernel_rfl⟩
theorem ztS:Ent (392,zr5):=.inl ⟨Tryz.f199,zah [20,76],[9,8,6],true,Tryz.func199,by kernel_rfl⟩
theorem ztR:Ent (393,zr4):=.inl ⟨Tryz.f200,zah [32],[4],true,Tryz.func200,by kernel_rfl⟩
theorem ztQ:Ent (394,zr3):=.inl ⟨Tryz.f201,zah [],[11,1],false,Tryz.func201,by kernel_rfl⟩
theorem all: ∀q∈zrE,Ent q:=by
 unfold zrE;simp only[List.forall_mem_cons];exact⟨e9,e12,e13,e17,e18,e20,e21,e23,e24,e27,e32,e33,e36,e38,e39,e40,e43,e44,e45,e46,e47,e48,e49,e51,e56,e60,e61,e62,e63,e64,e65,e66,e67,e68,e69,e70,e71,e72,e73,e74,e75,e76,e77,e78,e79,e80,e81,e82,e83,e84,e85,e86,e87,e88,e89,e90,e91,e92,e95,e96,e97,e98,e99,zvM,zvL,zvK,zvJ,zvI,zvH,zvG,zvF,zvE,zvD,zvC,zvB,zvA,zvz,zvy,zvx,zvw,zvv,zvu,zvt,zvs,zvr,zvq,zvp,zvo,zvn,zvm,zvl,zvk,zvj,zvi,zvh,zvg,zvf,zve,zvd,zvc,zvb,zva,zu9,zu8,zu7,zu6,zu5,zu4,zu3,zu2,zu1,zu0,zuZ,zuY,zuX,zuW,zuV,zuU,zuT,zuS,zuR,zuQ,zuP,zuO,zuN,zuM,zuL,zuK,zuJ,zuI,zuH,zuG,zuF,zuE,zuD,zuC,ztq,zuB,zuA,zuz,zuy,zux,zuw,zuv,zuu,zut,zus,zur,zuq,zup,zuo,zun,zum,zul,zuk,zuj,zui,zuh,zug,zuf,zue,zud,zuc,zub,zua,zt9,zt8,zt7,zt6,zt5,zt4,zt3,zt2,zt1,zt0,ztZ,ztY,ztX,ztW,ztV,ztU,ztT,ztS,ztR,ztQ,fun _ h=>by cases h⟩
end Seat
end Rg
end
section
namespace Rg
open Go
abbrev ti (n:Int):T:=.int .i64 n
abbrev tb (b:Bool):T:=.bool b
abbrev ints (l:List Int):T:=.sl (l.map fun n=>[ti n])
@[go_sem]theorem zv0 (a b:Int):(a==b)=decide (a=b):=by by_cases h:a=b<;>simp[h]
@[go_sem]theorem zvZ (a b:Int):(a != b)=decide (¬a=b):=by by_cases h:a=b<;>simp[h]
@[go_sem]theorem zvW:IntKind.i64.wrap 0=0:=by rw[IntKind.wrap_i64];rfl
@[go_sem]theorem zvV:IntKind.i64.wrap 1=1:=by rw[IntKind.wrap_i64];rfl
@[go_sem]theorem zvU:IntKind.i64.wrap 2=2:=by rw[IntKind.wrap_i64];rfl
@[go_sem]theorem zvT:IntKind.i64.wrap 3=3:=by rw[IntKind.wrap_i64];rfl
@[go_sem]theorem ztE:IntKind.i64.wrap (-1)= -1:=by rw[IntKind.wrap_i64];rfl
inductive Expr where
 | mk (op w n:Int) (kids:List Expr)
 deriving Inhabited
namespace Expr
def op:Expr->Int | .mk o _ _ _=>o
def w:Expr->Int | .mk _ w _ _=>w
def n:Expr->Int | .mk _ _ n _=>n
def kids:Expr->List Expr | .mk _ _ _ k=>k
@[go_sem]theorem op_mk (o w n:Int) (k:List Expr):(Expr.mk o w n k).op=o:=rfl
@[go_sem]theorem w_mk (o w n:Int) (k:List Expr):(Expr.mk o w n k).w=w:=rfl
@[go_sem]theorem n_mk (o w n:Int) (k:List Expr):(Expr.mk o w n k).n=n:=rfl
@[go_sem]theorem kids_mk (o w n:Int) (k:List Expr):(Expr.mk o w n k).kids=k:=rfl
mutual
def enc:Expr->List T
 | .mk o w n k=>[ti o,ti w,ti n,.sl (zDy k)]
def zDy:List Expr->List (List T)
 | []=>[]
 | e::r=>enc e::zDy r
end
theorem zlK: ∀l:List Expr,zDy l=l.map enc
 | []=>rfl
 | e::r=>by rw[zDy,zlK r];rfl
theorem enc_eq (e:Expr):e.enc=[ti e.op,ti e.w,ti e.n,.sl (e.kids.map enc)]:=by
 cases e;simp only[enc,zlK,op,w,n,kids]
mutual
def size:Expr->Nat
 | .mk _ _ _ k=>zmn k+1
def zmn:List Expr->Nat
 | []=>0
 | e::r=>size e+zmn r
end
theorem ziO: ∀l:List Expr,zmn l=(l.map size).sum
 | []=>rfl
 | e::r=>by rw[zmn,ziO r];rfl
theorem size_eq (e:Expr):e.size=(e.kids.map size).sum+1:=by
 cases e;simp only[size,ziO,kids]
theorem size_pos (e:Expr):0<e.size:=by rw[size_eq];omega
theorem zmo {e k:Expr} (h:k∈e.kids):k.size<e.size:=by
 rw[size_eq e]
 have:k.size<=(e.kids.map size).sum:=by
  generalize e.kids=l at h
  induction l with
  | nil=>simp at h
  | cons x r ih=>
    simp only[List.map_cons,List.sum_cons];rcases List.mem_cons.1 h with rfl | h
    ·omega
    ·have:=ih h;omega
 omega
theorem ind {P:Expr->Prop} (h: ∀e:Expr,(∀k∈e.kids,P k)->P e): ∀e,P e:=by
 intro e
 generalize hn:e.size=n
 induction n using Nat.strongRecOn generalizing e with
 | _ n ih=>exact h e fun k hk=>ih k.size (by have:=zmo hk;omega) k rfl
mutual
def allE (f:Expr->Bool):Expr->Bool
 | .mk o w n k=>f (.mk o w n k)&&znB f k
def znB (f:Expr->Bool):List Expr->Bool
 | []=>true
 | e::r=>allE f e&&znB f r
end
theorem zjq (f:Expr->Bool): ∀l:List Expr,znB f l=l.all (allE f)
 | []=>rfl
 | e::r=>by rw[znB,zjq f r];rfl
theorem allE_eq (f:Expr->Bool) (e:Expr):allE f e=(f e&&e.kids.all (allE f)):=by
 cases e;simp only[allE,zjq,kids]
theorem allE_self {f:Expr->Bool} {e:Expr} (h:allE f e=true):f e=true:=by
 rw[allE_eq]at h;simp only[zF]at h;exact h.1
theorem allE_kid {f:Expr->Bool} {e k:Expr} (h:allE f e=true) (hk:k∈e.kids):allE f k=true:=by
 rw[allE_eq]at h;simp only[zF,zN]at h;exact h.2 k hk
theorem len_le_size (ks:List Expr):ks.length<=(ks.map size).sum:=by
 induction ks with
 | nil=>simp
 | cons x r ih=>have:=size_pos x;simp only[List.length_cons,List.map_cons,List.sum_cons];omega
theorem take_le_size (ks:List Expr) (i:Nat):((ks.take i).map size).sum<=(ks.map size).sum:=by
 induction ks generalizing i with
 | nil=>simp
 | cons x r ih=>cases i with
   | zero=>simp
   | succ i=>have:=ih i;simp only[List.take_succ_cons,List.map_cons,List.sum_cons];omega
def kw (e:Expr) (i:Nat):Int:=(e.kids.getD i (.mk 0 0 0 [])).w
end Expr
structure Cell where
 name:ByteArray
 w:Int
 init:Int
 thread:Int
 ghost:Bool
 module:Int
 deriving Inhabited
def Cell.enc (c:Cell):List T:=[.str c.name,ti c.w,ti c.init,ti c.thread,tb c.ghost,ti c.module]
structure Assign where
 cell:Int
 to:Expr
 deriving Inhabited
def Assign.enc (a:Assign):List T:=ti a.cell::a.to.enc
structure Step where
 kind:Int
 fr:Int
 to:Int
 guard:Expr
 set:List Assign
 release:Bool
 target:Int
 module:Int
 deriving Inhabited
def Step.enc (s:Step):List T:=[ti s.kind,ti s.fr,ti s.to]++s.guard.enc++[.sl (s.set.map Assign.enc),tb s.release,ti s.target,ti s.module]
structure Loop where
 head:Int
 body:List Int
 variant:Expr
 deriving Inhabited
def Loop.enc (l:Loop):List T:=[ti l.head,ints l.body]++l.variant.enc
structure Thread where
 name:ByteArray
 points:Int
 asserts:List Expr
 modules:List Int
 steps:List Step
 loops:List Loop
 asleep:Bool
 deriving Inhabited
def Thread.enc (t:Thread):List T:=
 [.str t.name,ti t.points,.sl (t.asserts.map Expr.enc),ints t.modules,.sl (t.steps.map Step.enc),.sl (t.loops.map Loop.enc),tb t.asleep]
structure Contract where
 name:ByteArray
 owner:ByteArray
 rely:Expr
 guar:Expr
 frame:List Int
 deriving Inhabited
def Contract.enc (c:Contract):List T:=[.str c.name,.str c.owner]++c.rely.enc++c.guar.enc++[ints c.frame]
structure Lock where
 cell:Int
 inv:Expr
 module:Int
 deriving Inhabited
def Lock.enc (l:Lock):List T:=[ti l.cell]++l.inv.enc++[ti l.module]
structure Prog where
 cells:List Cell
 modules:List Contract
 locks:List Lock
 threads:List Thread
 deriving Inhabited
def Prog.enc (p:Prog):List T:=[.sl (p.cells.map Cell.enc),.sl (p.modules.map Contract.enc),.sl (p.locks.map Lock.enc),.sl (p.threads.map Thread.enc)]
structure Entry where
 cells:List Int
 values:List Int
 deriving Inhabited,DecidableEq
def Entry.enc (e:Entry):List T:=[ints e.cells,ints e.values]
structure Config where
 mem:List Int
 at_:List Int
 buf:List (List Entry)
 deriving Inhabited,DecidableEq
def Config.enc (c:Config):List T:=[ints c.mem,ints c.at_,.sl (c.buf.map fun b=>[.sl (b.map Entry.enc)])]
structure Choice where
 thread:Int
 step:Int
 cell:Int
 deriving Inhabited,DecidableEq
def Choice.enc (c:Choice):List T:=[ti c.thread,ti c.step,ti c.cell]
attribute [go_sem] Expr.enc_eq Cell.enc Assign.enc Step.enc Loop.enc Thread.enc Contract.enc Lock.enc Prog.enc Entry.enc Config.enc Choice.enc
def ag (l:List T):V:=.agg (l.map V.t)
theorem zag (i:Nat) (h:i<2^62):IntKind.i64.wrap ((i:Int)+1)=((i+1:Nat):Int):=by rw[zaj (by omega)];omega
theorem zac {α:Type} {l:List α} {i:Nat} {x:α} (h:l[i]? =some x):l.take (i+1)=l.take i++[x]:=by
 rw[List.take_add_one,h];rfl
theorem zcn {i k:Nat} (h:i<=k):(2:Int)^i<=2^k:=by
 have:=Nat.pow_le_pow_right (n:=2) (by omega) h
 exact_mod_cast this
theorem zxD (i:Nat):0<(2:Int)^i:=Int.pow_pos (by omega)
theorem zad {α:Type} {l:List α} {i:Nat} (h:i<l.length): ∃x,l[i]? =some x/\x∈l:=⟨l[i],zI h,List.getElem_mem h⟩
end Rg
end
section
namespace Rg
open Go
section
variable {H:Type} (enc:TypeId×Value->H) (P:Program) (W:World) (nm:Nat->Nat)
def zl7 (cs:List Value) (xs:List T):Prop:=
 cs.length=xs.length/\ ∀(j:Nat) (x:T),xs[j]? =some x-> ∃v,cs[j]? =some v/\RepT W (fun r=>r<W.heap.size) nm v x
def Rd {α:Type} (n:Nat) (t:TypeId) (f:α->List T) (good:α->Prop):Prop:=
 ∀(cs:List Value) (x:DataW H×List MemPlace),DataW.trod enc P W 0 (fun _=>true) true n t cs=some x->(x.1.weights P t).all (· <=reachBytes)=true-> ∃a,good a/\zl7 W nm cs (f a)
def RdF {α:Type} (n tot:Nat) (fs:List (TypeId×Nat)) (off:Nat) (f:α->List T) (good:α->Prop):Prop:=
 ∀(cs:List Value) (xs:List (DataW H×List MemPlace)),cs.length=tot->xs.length=fs.length->
  (∀(i:Nat) (fd:TypeId×Nat),fs[i]? =some fd->DataW.trod enc P W 0 (fun _=>true) true n fd.1 ((cs.drop fd.2).take (P.cellsOf fd.1))=xs[i]?)->
  (DataW.weightsEach P (fs.map (·.1)) (xs.map (·.1))).all (· <=reachBytes)=true-> ∃a,good a/\zl7 W nm (cs.drop off) (f a)
end
section
variable {H:Type} {enc:TypeId×Value->H} {P:Program} {W:World} {nm:Nat->Nat}
theorem zl7.one {v:Value} {x:T} (h:RepT W (fun r=>r<W.heap.size) nm v x):zl7 W nm [v] [x]:=
 ⟨rfl,fun j y hj=>by
   cases j with
   | zero=>simp at hj;subst hj;exact⟨v,rfl,h⟩
   | succ j=>simp at hj⟩
theorem zl7.append {cs ds:List Value} {xs ys:List T} (h:zl7 W nm cs xs) (h':zl7 W nm ds ys):zl7 W nm (cs++ds) (xs++ys):=by
 refine⟨by simp[h.1,h'.1],fun j x hj=> ?_⟩;rw[List.getElem?_append]at hj⊢;rw[h.1];split at hj
 ·rename_i Ai;rw[if_pos Ai];exact h.2 j x hj
 ·rename_i Ai;rw[if_neg Ai];exact h'.2 _ x hj
theorem zCQ {k:IntKind} {t:TypeId} (ht:P.underlying t=some (.int k)) (n:Nat):Rd enc P W nm n t (fun i:Int=>[.int k i]) (fun i=>(Lit.int k i).wf=true):=by
 intro cs x h _;obtain⟨i,rfl,_,hw⟩:=DataW.trod_int ht h;exact⟨i,hw,.one (.int k i)⟩
theorem zog {t:TypeId} (ht:P.underlying t=some .bool) (n:Nat):Rd enc P W nm n t (fun b:Bool=>[.bool b]) (fun _=>True):=by
 intro cs x h _;obtain⟨b,rfl,_⟩:=DataW.trod_bool ht h;exact⟨b,trivial,.one (.bool b)⟩
theorem zpr {t:TypeId} (ht:P.underlying t=some .string) (n:Nat):Rd enc P W nm n t (fun s:ByteArray=>[.str s]) (fun s=>s.size<=reachBytes):=by
 intro cs x h hw;obtain⟨s,rfl,rfl,_⟩:=DataW.trod_string ht h;refine⟨s,?_,.one (.str s)⟩;simp only[DataW.weights,List.all_cons,List.all_nil,Bool.and_true,decide_eq_true_eq]at hw;rw[Array.length_toList]at hw;exact hw
theorem zda {e:TypeId}: ∀{l:List (DataW H)},(DataW.weightsAll P e l).all (· <=reachBytes)=true-> ∀d∈l,(d.weights P e).all (· <=reachBytes)=true
 | [],_,d,hd=>by simp at hd
 | x::r,h,d,hd=>by
   rw[DataW.weightsAll,List.all_append,zF]at h;rcases List.mem_cons.1 hd with rfl | hd
   ·exact h.1
   ·exact zda h.2 d hd
theorem cells?_get {base:Nat} {a:Addr} {n:Nat} {cs:List Value} (h:W.cells? base a n=some cs):cs.length=n/\ ∀j,j<n->W.cell? (a.add j)=cs[j]? :=by
 unfold World.cells? at h;split at h
 ·exact⟨by simpa using mapM_some_length h,fun j hj=>by simpa using mapM_some_get h j j (by simp[hj])⟩
 ·simp at h
theorem cell?_spot {a:Addr} {v:Value} (h:W.cell? a=some v):a.spot=none/\a.block<W.heap.size:=by
 unfold World.cell? at h;split at h
 ·rename_i hb;split at h
  ·simp at h
  ·rename_i hs;refine⟨by cases Mj:a.spot<;>simp_all,?_⟩;have:=Array.getElem?_eq_some_iff.1 hb;exact this.1
 ·simp at h
theorem zff {α:Type} {Q:Nat->α->Prop}: ∀(n:Nat),(∀i,i<n-> ∃a,Q i a)-> ∃l:List α,l.length=n/\ ∀(i:Nat) (a:α),l[i]? =some a->Q i a
 | 0,_=>⟨[],rfl,fun i a h=>by simp at h⟩
 | n+1,h=>by
   obtain⟨l,hl,hq⟩:=zff n (fun i hi=>h i (by omega));obtain⟨a,ha⟩:=h n (by omega);refine⟨l++[a],by simp[hl],fun i b hb=> ?_⟩;rw[List.getElem?_append]at hb;split at hb
   ·exact hq i b hb
   ·rename_i Ai
    have:i=n:=by
     have:=(zH.1 hb).1;simp at this;omega
    subst this;simp[hl]at hb;exact hb▸ha
theorem zmF {α:Type} {t e:TypeId} {f:α->List T} {good:α->Prop} (ht:P.underlying t=some (.slice e)) (hb:0<P.bytesOf e) (hc:0<P.cellsOf e) (n:Nat) (h: ∀m,m<n->Rd enc P W nm m e f good):
 Rd enc P W nm n t (fun l:List α=>[.sl (l.map f)]) (fun l=>l.length<=reachBytes/\ ∀a∈l,good a):=by
 intro cs x Fu hw;rcases DataW.trod_slice ht Fu with⟨rfl,_⟩ | ⟨a,len,cap,elems,rest,m,rfl,rfl,rfl,_,Lq,_,L4,JQ,_,_⟩
 ·exact⟨[],⟨by simp,by simp⟩,.one (.sl0 none 0)⟩
 ·simp only[DataW.weights,ht,List.all_cons,List.all_append,zF,decide_eq_true_eq,List.length_map]at hw
  have GN: ∀i,i<len-> ∃b:α,good b/\ ∃ci,W.cells? 0 (a.add (i*P.cellsOf e)) (P.cellsOf e)=some ci/\zl7 W nm ci (f b):=by
   intro i hi;have h1:=JQ i hi;obtain⟨z,hz⟩: ∃z,elems[i]? =some z:=⟨_,zI (by omega)⟩
   rw[hz,zB]at h1;obtain⟨ci,GZ,O3⟩:=h1;have LO:=zda hw.2.1 z.1 (List.mem_map.2 ⟨z,zL hz,rfl⟩);obtain⟨b,hg,hr⟩:=h m (by omega) ci z O3 LO;exact⟨b,hg,ci,GZ,hr⟩
  obtain⟨l,hl,hq⟩:=zff len GN;refine⟨l,⟨?_,fun b hb=> ?_⟩,.one ?_⟩
  ·have:elems.length*1<=(elems.length+rest.length)*P.bytesOf e:=Nat.mul_le_mul (by omega) hb;omega
  ·obtain⟨i,hi⟩:=List.getElem?_of_mem hb;exact(hq i b hi).1
  ·by_cases h0:len=0
   ·subst h0;have:l=[]:=List.length_eq_zero_iff.1 hl;subst this;exact .sl0 _ _
   ·have H5: ∀(i:Nat) (b:α),l[i]? =some b->(f b).length=P.cellsOf e:=by
     intro i b hi;obtain⟨_,ci,GZ,hr⟩:=hq i b hi;rw[<- hr.1,(cells?_get GZ).1]
    have AP: ∀(i j:Nat) (b:α),l[i]? =some b->j<P.cellsOf e-> ∃v,W.cell? ((a.add (i*P.cellsOf e)).add j)=some v/\ ∀x,(f b)[j]? =some x->RepT W (fun r=>r<W.heap.size) nm v x:=by
     intro i j b hi hj;obtain⟨_,ci,GZ,hr⟩:=hq i b hi;have hg:=cells?_get GZ;obtain⟨v,hv⟩: ∃v,ci[j]? =some v:=⟨_,zI (by omega)⟩
     refine⟨v,by rw[hg.2 j hj,hv],fun x hx=> ?_⟩;obtain⟨u,hu,Mr⟩:=hr.2 j x hx;rw[hv]at hu;cases hu;exact Mr
    obtain⟨b0,Cc⟩: ∃b,l[0]? =some b:=⟨_,zI (by omega)⟩
    obtain⟨v0,EQ,_⟩:=AP 0 0 b0 Cc hc;have Ja:(a.add (0*P.cellsOf e)).add 0=a:=by simp[Addr.add]
    rw[Ja]at EQ;obtain⟨Mj,KO⟩:=cell?_spot EQ;obtain⟨r,off,spot⟩:=a;simp only at Mj KO;subst Mj
    have Gu: ∀i j,((⟨r,off,none⟩:Addr).add (i*P.cellsOf e)).add j=⟨r,off+i*P.cellsOf e+j,none⟩:=by
     intro i j;unfold Addr.add;split<;>split<;>simp_all
    have Ac:(l.map f).length=len:=by simp[hl]
    rw[show Value.slice (some ⟨r,off,none⟩) len cap=Value.slice (some ⟨r,off,none⟩) (l.map f).length cap by rw[Ac]];refine .sl r off cap (P.cellsOf e) (l.map f) (fun i j=>(W.cell? ⟨r,off+i*P.cellsOf e+j,none⟩).getD .nilFunc) (by omega) (by omega) KO ?_ ?_ ?_
    ·intro i y hy;rw[zJ,zE]at hy;obtain⟨b,hb,rfl⟩:=hy;exact H5 i b hb
    ·intro i y j x hy hx;rw[zJ,zE]at hy;obtain⟨b,hb,rfl⟩:=hy;have hj:=(zH.1 hx).1;rw[H5 i b hb]at hj;obtain⟨v,hv,_⟩:=AP i j b hb hj;rw[Gu]at hv;rw[hv];rfl
    ·intro i y j x hy hx;rw[zJ,zE]at hy;obtain⟨b,hb,rfl⟩:=hy;have hj:=(zH.1 hx).1;rw[H5 i b hb]at hj;obtain⟨v,hv,hr⟩:=AP i j b hb hj;rw[Gu]at hv;rw[hv];exact hr x hx
theorem zcm {n tot:Nat}:RdF enc P W nm n tot [] tot (fun _:Unit=>[]) (fun _=>True):=by
 intro cs xs hl _ _ _;refine⟨(),trivial,?_⟩;rw[List.drop_of_length_le (by omega)];exact⟨rfl,fun j x h=>by simp at h⟩
theorem zxe {α β:Type} {n tot off sz:Nat} {t:TypeId} {fs:List (TypeId×Nat)} {f:α->List T} {good:α->Prop} {g:β->List T} {good':β->Prop}
 (AM:P.cellsOf t=sz) (h:Rd enc P W nm n t f good) (h':RdF enc P W nm n tot fs (off+sz) g good'):
 RdF enc P W nm n tot ((t,off)::fs) off (fun q:α×β=>f q.1++g q.2) (fun q=>good q.1/\good' q.2):=by
 intro cs xs hl Hl hx hw
 cases xs with
 | nil=>simp at Hl
 | cons x r=>
   have h0:=hx 0 (t,off) rfl;simp only[List.getElem?_cons_zero,AM]at h0;rw[List.map_cons,List.map_cons,DataW.weightsEach,List.all_append,zF]at hw;obtain⟨a,ha,Cl⟩:=h _ x h0 hw.1;obtain⟨b,hb,DC⟩:=h' cs r hl (by simpa using Hl) (fun i fd hi=>by simpa using hx (i+1) fd (by simpa using hi)) hw.2;refine⟨(a,b),⟨ha,hb⟩,?_⟩;have:cs.drop off=(cs.drop off).take sz++cs.drop (off+sz):=by rw[<- List.drop_drop,List.take_append_drop]
   rw[this];exact Cl.append DC
theorem zkN {α:Type} {t:TypeId} {fs:List (TypeId×Nat)} {tot:Nat} {f:α->List T} {good:α->Prop}
 (ht:(match P.underlying t with | some (.struct a)=>decide (a.toList.map (fun x=>(x.type,x.offset))=fs) | _=>false)=true) (O5:P.cellsOf t=tot) (n:Nat)
 (h: ∀m,m<n->RdF enc P W nm m tot fs 0 f good):Rd enc P W nm n t f good:=by
 intro cs x Fu hw;split at ht
 ·rename_i a hu;rw[decide_eq_true_eq]at ht;obtain⟨xs,m,rfl,rfl,hl,Hl,hx⟩:=DataW.trod_struct hu Fu;subst ht
  have:=h m (by omega) cs xs (by omega) (by simp[Hl]) (fun i fd hi=>by
   rw[zJ,zE]at hi;obtain⟨f',IN,rfl⟩:=hi
   exact hx i f' (by simpa using IN)) (by
   simp only[DataW.weights,hu]at hw;rw[List.map_map]
   exact hw)
  simpa using this
 ·simp at ht
theorem Rd.conv {α β:Type} {t:TypeId} {n:Nat} {f:α->List T} {good:α->Prop} {g:β->List T} {good':β->Prop} (h:Rd enc P W nm n t f good) (hc: ∀a,good a-> ∃b,good' b/\f a=g b):Rd enc P W nm n t g good':=by
 intro cs x Fu hw;obtain⟨a,ha,hr⟩:=h cs x Fu hw;obtain⟨b,hb,he⟩:=hc a ha;exact⟨b,hb,he▸hr⟩
end
end Rg
end
section
namespace Rg
open Go
structure Tys where
 int:Nat
 bool:Nat
 str:Nat
 u8:Nat
 ints:Nat
 bytes:Nat
 expr:Nat
 exprs:Nat
 cell:Nat
 cells:Nat
 assign:Nat
 assigns:Nat
 step:Nat
 steps:Nat
 loop:Nat
 loops:Nat
 thread:Nat
 threads:Nat
 contract:Nat
 contracts:Nat
 lock:Nat
 locks:Nat
 prog:Nat
 entry:Nat
 entries:Nat
 bufs:Nat
 config:Nat
 choice:Nat
def zyx (P:Program) (t:TypeId) (k:IntKind):Bool:=(match P.underlying t with | some (.int k')=>decide (k'=k) | _=>false)&&decide (P.cellsOf t=1)
def zzi (P:Program) (t:TypeId):Bool:=(match P.underlying t with | some .bool=>true | _=>false)&&decide (P.cellsOf t=1)
def zzZ (P:Program) (t:TypeId):Bool:=(match P.underlying t with | some .string=>true | _=>false)&&decide (P.cellsOf t=1)
def zy9 (P:Program) (t e:TypeId):Bool:=(match P.underlying t with | some (.slice e')=>decide (e'=e) | _=>false)&&decide (0<P.bytesOf e)&&decide (0<P.cellsOf e)&&decide (P.cellsOf t=1)
def zzV (P:Program) (t:TypeId) (tot:Nat) (fs:List (TypeId×Nat)):Bool:=
 (match P.underlying t with | some (.struct a)=>decide (a.toList.map (fun x=>(x.type,x.offset))=fs) | _=>false)&&decide (P.cellsOf t=tot)
structure Tys.Ok0 (P:Program) (y:Tys):Prop where
 int:zyx P y.int .i64=true
 bool:zzi P y.bool=true
 str:zzZ P y.str=true
 u8:zyx P y.u8 .u8=true
 ints:zy9 P y.ints y.int=true
 expr:zzV P y.expr 4 [(y.int,0),(y.int,1),(y.int,2),(y.exprs,3)]=true
 exprs:zy9 P y.exprs y.expr=true
 cell:zzV P y.cell 6 [(y.str,0),(y.int,1),(y.int,2),(y.int,3),(y.bool,4),(y.int,5)]=true
 cells:zy9 P y.cells y.cell=true
 assign:zzV P y.assign 5 [(y.int,0),(y.expr,1)]=true
 assigns:zy9 P y.assigns y.assign=true
 step:zzV P y.step 11 [(y.int,0),(y.int,1),(y.int,2),(y.expr,3),(y.assigns,7),(y.bool,8),(y.int,9),(y.int,10)]=true
 steps:zy9 P y.steps y.step=true
 loop:zzV P y.loop 6 [(y.int,0),(y.ints,1),(y.expr,2)]=true
 loops:zy9 P y.loops y.loop=true
 thread:zzV P y.thread 7 [(y.str,0),(y.int,1),(y.exprs,2),(y.ints,3),(y.steps,4),(y.loops,5),(y.bool,6)]=true
 threads:zy9 P y.threads y.thread=true
 contract:zzV P y.contract 11 [(y.str,0),(y.str,1),(y.expr,2),(y.expr,6),(y.ints,10)]=true
 contracts:zy9 P y.contracts y.contract=true
 lock:zzV P y.lock 6 [(y.int,0),(y.expr,1),(y.int,5)]=true
 locks:zy9 P y.locks y.lock=true
 prog:zzV P y.prog 4 [(y.cells,0),(y.contracts,1),(y.locks,2),(y.threads,3)]=true
structure Tys.OkP (P:Program) (y:Tys):Prop extends y.Ok0 P where
 bytes:zy9 P y.bytes y.u8=true
structure Tys.Ok (P:Program) (y:Tys):Prop extends y.OkP P where
 entry:zzV P y.entry 2 [(y.ints,0),(y.ints,1)]=true
 entries:zy9 P y.entries y.entry=true
 bufs:zy9 P y.bufs y.entries=true
 config:zzV P y.config 3 [(y.ints,0),(y.ints,1),(y.bufs,2)]=true
 choice:zzV P y.choice 3 [(y.int,0),(y.int,1),(y.int,2)]=true
section
variable {P:Program} {t e:TypeId} {k:IntKind}
theorem zyx.u (h:zyx P t k=true):P.underlying t=some (.int k):=by
 simp only[zyx,zF]at h;have h:=h.1;split at h
 ·rename_i hu;rw[hu,of_decide_eq_true h]
 ·simp at h
theorem zyx.c (h:zyx P t k=true):P.cellsOf t=1:=by
 simp only[zyx,zF,decide_eq_true_eq]at h;exact h.2
theorem zzi.u (h:zzi P t=true):P.underlying t=some .bool:=by
 simp only[zzi,zF]at h;have h:=h.1;split at h
 ·rename_i hu;exact hu
 ·simp at h
theorem zzi.c (h:zzi P t=true):P.cellsOf t=1:=by
 simp only[zzi,zF,decide_eq_true_eq]at h;exact h.2
theorem zzZ.u (h:zzZ P t=true):P.underlying t=some .string:=by
 simp only[zzZ,zF]at h;have h:=h.1;split at h
 ·rename_i hu;exact hu
 ·simp at h
theorem zzZ.c (h:zzZ P t=true):P.cellsOf t=1:=by
 simp only[zzZ,zF,decide_eq_true_eq]at h;exact h.2
theorem zy9.u (h:zy9 P t e=true):P.underlying t=some (.slice e):=by
 simp only[zy9,zF]at h;have h:=h.1.1.1;split at h
 ·rename_i hu;rw[hu,of_decide_eq_true h]
 ·simp at h
theorem zy9.p (h:zy9 P t e=true):0<P.bytesOf e/\0<P.cellsOf e/\P.cellsOf t=1:=by
 simp only[zy9,zF,decide_eq_true_eq]at h;exact⟨h.1.1.2,h.1.2,h.2⟩
theorem zy9.c (h:zy9 P t e=true):P.cellsOf t=1:=(zy9.p h).2.2
theorem zzV.c {tot:Nat} {fs:List (TypeId×Nat)} (h:zzV P t tot fs=true):P.cellsOf t=tot:=by
 simp only[zzV,zF,decide_eq_true_eq]at h;exact h.2
end
section
variable {H:Type} {enc:TypeId×Value->H} {P:Program} {W:World} {nm:Nat->Nat} {y:Tys}
theorem zz7 {α:Type} {t e:TypeId} {f:α->List T} {good:α->Prop} (h:zy9 P t e=true) (n:Nat) (hr: ∀m,m<n->Rd enc P W nm m e f good):
 Rd enc P W nm n t (fun l:List α=>[.sl (l.map f)]) (fun l=>l.length<=reachBytes/\ ∀a∈l,good a):=zmF (zy9.u h) (zy9.p h).1 (zy9.p h).2.1 n hr
theorem zAK {α:Type} {t:TypeId} {fs:List (TypeId×Nat)} {tot:Nat} {f:α->List T} {good:α->Prop} (h:zzV P t tot fs=true) (n:Nat)
 (hr: ∀m,m<n->RdF enc P W nm m tot fs 0 f good):Rd enc P W nm n t f good:=by
 have hc:=zzV.c h;simp only[zzV,zF]at h;exact zkN h.1 hc n hr
theorem zAz (hy:y.Ok0 P) (n:Nat):Rd enc P W nm n y.int (fun i:Int=>[ti i]) (fun _=>True):=
 (zCQ (zyx.u hy.int) n).conv fun i _=>⟨i,trivial,rfl⟩
theorem zDB (hy:y.Ok0 P) (n:Nat):Rd enc P W nm n y.bool (fun b:Bool=>[tb b]) (fun _=>True):=zog (zzi.u hy.bool) n
theorem zDv (hy:y.Ok0 P) (n:Nat):Rd enc P W nm n y.str (fun s:ByteArray=>[.str s]) (fun s=>s.size<=reachBytes):=zpr (zzZ.u hy.str) n
theorem zBn (hy:y.Ok0 P) (n:Nat):Rd enc P W nm n y.ints (fun l:List Int=>[ints l]) (fun l=>l.length<=reachBytes):=
 (zz7 hy.ints n fun m _=>zAz hy m).conv fun l h=>⟨l,h.1,rfl⟩
theorem zDn (hy:y.Ok0 P) (n:Nat):Rd enc P W nm n y.u8 (fun i:Int=>[.int .u8 i]) (fun i=>0<=i/\i<256):=
 (zCQ (zyx.u hy.u8) n).conv fun i h=>⟨i,by simp[Lit.wf,IntKind.min,IntKind.max,IntKind.signed,IntKind.bits]at h;omega,rfl⟩
theorem zCA (hy:y.OkP P) (n:Nat):Rd enc P W nm n y.bytes (fun l:List Int=>[.sl (l.map fun n=>[.int .u8 n])]) (fun l=> ∀k∈l,0<=k/\k<256):=
 (zz7 hy.bytes n fun m _=>zDn hy.toOk0 m).conv fun l h=>⟨l,h.2,rfl⟩
theorem zzt (hy:y.Ok0 P) (n:Nat):Rd enc P W nm n y.expr Expr.enc (fun _=>True):=by
 induction n using Nat.strongRecOn with
 | _ n ih=>
   refine(zAK hy.expr n fun m hm=>zxe (zyx.c hy.int) (zAz hy m) (zxe (zyx.c hy.int) (zAz hy m) (zxe (zyx.c hy.int) (zAz hy m) (zxe (zy9.c hy.exprs) (zz7 hy.exprs m fun j hj=>ih j (by omega)) zcm)))).conv ?_;rintro⟨op,w,k,ks,u⟩ _;exact⟨.mk op w k ks,trivial,(Expr.enc_eq (.mk op w k ks)).symm⟩
theorem zCz (hy:y.Ok0 P) (n:Nat):Rd enc P W nm n y.exprs (fun l:List Expr=>[.sl (l.map Expr.enc)]) (fun l=>l.length<=reachBytes):=
 (zz7 hy.exprs n fun m _=>zzt hy m).conv fun l h=>⟨l,h.1,rfl⟩
theorem zof (hy:y.Ok0 P) (n:Nat):Rd enc P W nm n y.cell Cell.enc (fun c=>c.name.size<=reachBytes):=by
 refine(zAK hy.cell n fun m hm=>zxe (zzZ.c hy.str) (zDv hy m) (zxe (zyx.c hy.int) (zAz hy m) (zxe (zyx.c hy.int) (zAz hy m) (zxe (zyx.c hy.int) (zAz hy m) (zxe (zzi.c hy.bool) (zDB hy m) (zxe (zyx.c hy.int) (zAz hy m) zcm)))))).conv ?_;rintro⟨a,b,c,d,e,f,u⟩ h;exact⟨⟨a,b,c,d,e,f⟩,h.1,rfl⟩
theorem zkO (hy:y.Ok0 P) (n:Nat):Rd enc P W nm n y.assign Assign.enc (fun _=>True):=by
 refine(zAK hy.assign n fun m hm=>zxe (zyx.c hy.int) (zAz hy m) (zxe (zzV.c hy.expr) (zzt hy m) zcm)).conv ?_;rintro⟨a,b,u⟩ h;exact⟨⟨a,b⟩,trivial,by simp[Assign.enc]⟩
theorem zBK (hy:y.Ok0 P) (n:Nat):Rd enc P W nm n y.assigns (fun l:List Assign=>[.sl (l.map Assign.enc)]) (fun l=>l.length<=reachBytes):=
 (zz7 hy.assigns n fun m _=>zkO hy m).conv fun l h=>⟨l,h.1,rfl⟩
theorem zoc (hy:y.Ok0 P) (n:Nat):Rd enc P W nm n y.step Step.enc (fun s=>s.set.length<=reachBytes):=by
 refine(zAK hy.step n fun m hm=>zxe (zyx.c hy.int) (zAz hy m) (zxe (zyx.c hy.int) (zAz hy m) (zxe (zyx.c hy.int) (zAz hy m) (zxe (zzV.c hy.expr) (zzt hy m) (zxe (zy9.c hy.assigns) (zBK hy m) (zxe (zzi.c hy.bool) (zDB hy m)
  (zxe (zyx.c hy.int) (zAz hy m) (zxe (zyx.c hy.int) (zAz hy m) zcm)))))))).conv ?_
 rintro⟨a,b,c,d,e,f,g,i,u⟩ h;exact⟨⟨a,b,c,d,e,f,g,i⟩,h.2.2.2.2.1,by simp[Step.enc]⟩
theorem zod (hy:y.Ok0 P) (n:Nat):Rd enc P W nm n y.loop Loop.enc (fun x=>x.body.length<=reachBytes):=by
 refine(zAK hy.loop n fun m hm=>zxe (zyx.c hy.int) (zAz hy m) (zxe (zy9.c hy.ints) (zBn hy m) (zxe (zzV.c hy.expr) (zzt hy m) zcm))).conv ?_;rintro⟨a,b,c,u⟩ h;exact⟨⟨a,b,c⟩,h.2.1,by simp[Loop.enc]⟩
structure Thread.inMem (x:Thread):Prop where
 name:x.name.size<=reachBytes
 steps:x.steps.length<=reachBytes
 asserts:x.asserts.length<=reachBytes
 modules:x.modules.length<=reachBytes
 loops:x.loops.length<=reachBytes
 sets: ∀s∈x.steps,s.set.length<=reachBytes
 bodies: ∀l∈x.loops,l.body.length<=reachBytes
theorem zkM (hy:y.Ok0 P) (n:Nat):Rd enc P W nm n y.thread Thread.enc Thread.inMem:=by
 refine(zAK hy.thread n fun m hm=>zxe (zzZ.c hy.str) (zDv hy m) (zxe (zyx.c hy.int) (zAz hy m) (zxe (zy9.c hy.exprs) (zCz hy m) (zxe (zy9.c hy.ints) (zBn hy m)
  (zxe (zy9.c hy.steps) (zz7 hy.steps m fun j _=>zoc hy j) (zxe (zy9.c hy.loops) (zz7 hy.loops m fun j _=>zod hy j) (zxe (zzi.c hy.bool) (zDB hy m) zcm))))))).conv ?_
 rintro⟨a,b,c,d,e,f,g,u⟩ h;exact⟨⟨a,b,c,d,e,f,g⟩,⟨h.1,h.2.2.2.2.1.1,h.2.2.1,h.2.2.2.1,h.2.2.2.2.2.1.1,h.2.2.2.2.1.2,h.2.2.2.2.2.1.2⟩,rfl⟩
theorem zh8 (hy:y.Ok0 P) (n:Nat):Rd enc P W nm n y.contract Contract.enc (fun x=>x.name.size<=reachBytes/\x.owner.size<=reachBytes/\x.frame.length<=reachBytes):=by
 refine(zAK hy.contract n fun m hm=>zxe (zzZ.c hy.str) (zDv hy m) (zxe (zzZ.c hy.str) (zDv hy m) (zxe (zzV.c hy.expr) (zzt hy m) (zxe (zzV.c hy.expr) (zzt hy m) (zxe (zy9.c hy.ints) (zBn hy m) zcm))))).conv ?_;rintro⟨a,b,c,d,e,u⟩ h;exact⟨⟨a,b,c,d,e⟩,⟨h.1,h.2.1,h.2.2.2.2.1⟩,by simp[Contract.enc]⟩
theorem zoe (hy:y.Ok0 P) (n:Nat):Rd enc P W nm n y.lock Lock.enc (fun _=>True):=by
 refine(zAK hy.lock n fun m hm=>zxe (zyx.c hy.int) (zAz hy m) (zxe (zzV.c hy.expr) (zzt hy m) (zxe (zyx.c hy.int) (zAz hy m) zcm))).conv ?_;rintro⟨a,b,c,u⟩ h;exact⟨⟨a,b,c⟩,trivial,by simp[Lock.enc]⟩
structure Prog.inMem (p:Prog):Prop where
 cells: ∀c∈p.cells,c.name.size<=reachBytes
 modules: ∀m∈p.modules,m.name.size<=reachBytes/\m.owner.size<=reachBytes/\m.frame.length<=reachBytes
 threads: ∀x∈p.threads,x.inMem
 nCells:p.cells.length<=reachBytes
 nModules:p.modules.length<=reachBytes
 nLocks:p.locks.length<=reachBytes
 nThreads:p.threads.length<=reachBytes
theorem zC0 (hy:y.Ok0 P) (n:Nat):Rd enc P W nm n y.prog Prog.enc Prog.inMem:=by
 refine(zAK hy.prog n fun m hm=>zxe (zy9.c hy.cells) (zz7 hy.cells m fun j _=>zof hy j) (zxe (zy9.c hy.contracts) (zz7 hy.contracts m fun j _=>zh8 hy j)
  (zxe (zy9.c hy.locks) (zz7 hy.locks m fun j _=>zoe hy j) (zxe (zy9.c hy.threads) (zz7 hy.threads m fun j _=>zkM hy j) zcm)))).conv ?_
 rintro⟨a,b,c,d,u⟩ h;exact⟨⟨a,b,c,d⟩,⟨h.1.2,h.2.1.2,h.2.2.2.1.2,h.1.1,h.2.1.1,h.2.2.1.1,h.2.2.2.1.1⟩,rfl⟩
end
end Rg
end
section
namespace Rg
open Go
abbrev zP (p:Prog):V:=.agg [.t (.sl (p.cells.map Cell.enc)),.t (.sl (p.modules.map Contract.enc)),.t (.sl (p.locks.map Lock.enc)),.t (.sl (p.threads.map Thread.enc))]
abbrev zT (x:Thread):V:=.agg [.t (.str x.name),.t (ti x.points),.t (.sl (x.asserts.map Expr.enc)),.t (ints x.modules),.t (.sl (x.steps.map Step.enc)),.t (.sl (x.loops.map Loop.enc)),.t (tb x.asleep)]
abbrev zS (s:Step):V:=.agg [.t (ti s.kind),.t (ti s.fr),.t (ti s.to),.t (ti s.guard.op),.t (ti s.guard.w),.t (ti s.guard.n),.t (.sl (s.guard.kids.map Expr.enc)),.t (.sl (s.set.map Assign.enc)),.t (tb s.release),.t (ti s.target),.t (ti s.module)]
end Rg
end
