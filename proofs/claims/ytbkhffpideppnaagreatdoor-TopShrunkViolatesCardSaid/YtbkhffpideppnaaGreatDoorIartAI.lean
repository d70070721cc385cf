/- Part of the proof of laws of relyguardtop. No condition. -/
import Derived.Shelf.Strings.OnBuilder
import Derived.Shelf.Strconv.Itoa3
import Derived.Test.YtbkhffpideppnaaGreatDoorIartAH
import Derived.Shelf.Strings.Cut
import Derived.Shelf.SlGeneric
import Derived.Shelf.LaysM
import Derived.Shelf.Slices.Clone
import Derived.Shelf.SlicesE.Clone
import Derived.Test.YtbkhffpideppnaaGreatDoorRows
import Derived.KernelRfl
import Derived.Test.YtbkhffpideppnaaGreatDoorIartAG
import Derived.ChangeArms
import GoSem.ClaimJoined
import Derived.ChangeSame
import Derived.WideKeyArgs
import Derived.RowKit
import Derived.LaidLaws
import Derived.Stop.Joined
import Derived.OpenShut
import Derived.MakeChecks
import Derived.FnData
set_option linter.unusedVariables false
set_option linter.unusedSimpArgs false
section
namespace Rg
open Go Go.Proofs Go.Lib Go.Shelf Go.RowKit Go.Sort
variable {N:Nam} {c:Ctx} {A:Nat->Prop} {μ lam:Nat->Nat} {w:World} {H:Nat->Option O} {n:Nat}
theorem Rel.changeB (R:Rel N c 0 A μ lam (.init [] H n) zaM w) {k:Nat} {x:Bx} {w':World} (hk:H k=some (.raw x)) (hx: ∀l,x≠ .buf l)
 (AS:w.heap.size<=w'.heap.size) {gb:Option Nat} (JK: ∀g,gb=some g->Orphan c A μ lam (.init [] H n) g) (Jl: ∀r,r<w.heap.size->r≠μ k->some r≠gb->w'.heap[r]? =w.heap[r]?)
 (hs: ∀r x,w.shape? r=some x->w'.shape? r=some x) (ho: ∃p v,w'.heap[μ k]? =some (.cells #[p,v] N.tB (0,0))) (De:w'.os=w.os/\w'.output=w.output):
 Rel N c 0 A μ lam (.init [] (upd H k (some (.raw .mid))) n) zaM w':=by
 have hl:(O.raw x).live=true:=rfl;have hm: ∀sz rs,O.raw x≠ .rows sz rs true:=by intro sz rs h;cases h
 have QC: ∀r,A r->some r≠gb:=fun r h e=>(JK r e.symm).a h
 have hA: ∀r,A r->w'.heap[r]? =w.heap[r]? :=fun r h=>Jl r (R.alt r h) (fun e=>R.aH r h ⟨k,_,hk,hm,hl,e.symm⟩) (QC r h)
 have A5:O.le (.raw x) (.raw .mid):=by cases x<;>first | trivial | exact absurd rfl (hx _)
 have D1: ∀k1 o1,H k1=some o1->o1.live=true->k1≠k->w'.heap[μ k1]? =w.heap[μ k1]? :=fun k1 o1 h l1 Az=>Jl _ (R.lt_live h l1) (fun e=>Az (R.hinj k1 k o1 _ h hk l1 hl e)) (fun e=>(JK _ e.symm).h k1 o1 h l1 rfl)
 have E:Evo w A μ H w' A μ (upd H k (some (.raw .mid))):=by
  refine⟨hA,fun _ h=>h,fun k1 o1 h=> ?_,hs⟩
  by_cases e:k1=k
  ·subst e;rw[hk]at h;cases h;exact⟨_,by simp,A5,fun _=>rfl⟩
  ·exact⟨o1,by rw[zad _ _ e];exact h,O.le_refl o1,fun _=>rfl⟩
 have Al: ∀k1 o1,(upd H k (some (.raw .mid))) k1=some o1->(k1=k/\o1= .raw .mid)\/(k1≠k/\H k1=some o1):=by
  intro k1 o1 h
  by_cases e:k1=k
  ·subst e;simp at h;exact .inl ⟨rfl,h.symm⟩
  ·rw[zad _ _ e]at h;exact .inr ⟨e,h⟩
 have AA: ∀k1 o1,(upd H k (some (.raw .mid))) k1=some o1->o1.live=true-> ∃o2,H k1=some o2/\o2.live=true:=by
  intro k1 o1 h AO;rcases Al k1 o1 h with⟨rfl,rfl⟩ | ⟨_,h⟩
  ·exact⟨_,hk,hl⟩
  ·exact⟨o1,h,AO⟩
 exact{
  size:=rfl
  defers:=zdG.nil _ _ _
  env:=fun t=>by simp[St.init,zfz,zaM,zbl]
  loc:=fun t cs h=>by simp[St.init]at h
  adr:=fun t b o h=>by simp[St.init]at h
  heap:=fun k1 o1 h=>by
   rcases Al k1 o1 h with⟨rfl,rfl⟩ | ⟨e,h⟩
   ·exact ho
   ·cases AO:o1.live with
    | false=>cases o1<;>simp_all [O.live];trivial
    | true=>exact(R.heap k1 o1 h).evo E (D1 k1 o1 h AO e)
  hinj:=fun k1 k2 o1 o2 h1 h2 l1 l2 he=>by
   obtain⟨p1,q1,m1⟩:=AA k1 o1 h1 l1;obtain⟨p2,q2,m2⟩:=AA k2 o2 h2 l2;exact R.hinj k1 k2 p1 p2 q1 q2 m1 m2 he
  linj:=fun t t' h=>by simp[St.init]at h
  lh:=fun t k o h=>by simp[St.init]at h
  aH:=fun r DK Ll=>by
   obtain⟨k1,o1,h,D8,AO,he⟩:=Ll;rcases Al k1 o1 h with⟨rfl,rfl⟩ | ⟨e,h⟩
   ·exact R.aH r DK ⟨k1,_,hk,hm,hl,he⟩
   ·exact R.aH r DK ⟨k1,o1,h,D8,AO,he⟩
  aL:=fun r _ Ll=>by obtain⟨t,h,_⟩:=Ll;simp[St.init]at h
  alt:=fun r h=>Nat.lt_of_lt_of_le (R.alt r h) AS
  afz:=fun k1 sz rs h=>by
   rcases Al k1 _ h with⟨rfl,g⟩ | ⟨e,h⟩
   ·cases g
   ·exact R.afz k1 sz rs h
  fresh:=fun k1 h=>by
   have:k1≠k:=by rintro rfl;have:=R.fresh k1 h;simp only[St.init,hk]at this;cases this
   show upd H k _ k1=none;rw[zad _ _ this];exact R.fresh k1 h
  glob:=fun g j y h=>by
   obtain⟨h1,⟨te,F1⟩,v,hv,hr⟩:=R.glob g j y h;exact⟨h1,⟨te,hs _ _ F1⟩,v,by rw[cell?_eq (hA _ h1)];exact hv,hr.mono E.blk E.sub⟩
  cout:=⟨De.1.trans R.cout.1,De.2.trans R.cout.2⟩
  csize:=Nat.le_trans R.csize AS
  ckeep:=fun r h1 h2=>by
   rw[Jl r (Nat.lt_of_lt_of_le h1 R.csize) ?_ ?_]
   ·exact R.ckeep r h1 h2
   ·rintro rfl;rcases R.clive _ ⟨k,_,hk,hm,hl,rfl⟩with h | h
    ·exact h2 h
    ·omega
   ·intro e;rcases(JK r e.symm).x with h | h
    ·exact h2 h
    ·omega
  cshp:=fun r y h=>hs r y (R.cshp r y h)
  csub:=R.csub
  canew:=R.canew
  clive:=fun r Ll=>by
   obtain⟨k1,o1,h,D8,AO,he⟩:=Ll;rcases Al k1 o1 h with⟨rfl,rfl⟩ | ⟨e,h⟩
   ·exact R.clive r ⟨k1,_,hk,hm,hl,he⟩
   ·exact R.clive r ⟨k1,o1,h,D8,AO,he⟩
  cloc:=fun t h=>by simp[St.init]at h
  chp:=fun k1 o1 h=>by
   obtain⟨o2,h2,h3,h4⟩:=R.chp k1 o1 h
   by_cases e:k1=k
   ·subst e;have EY:H k1=some o2:=h2;rw[hk]at EY;cases EY;exact⟨.raw .mid,by simp[St.init],O.le_trans h3 A5,fun _=>h4 hl⟩
   ·exact⟨o2,by simp only[St.init,zad _ _ e];exact h2,h3,h4⟩ }
theorem zrg {H:Nat->Option O} (k:Nat) (a b:Option O):upd (upd H k a) k b=upd H k b:=by
 funext j;unfold upd;split<;>rfl
theorem ztQ {H:Nat->Option O} {k j:Nat} (h:k≠j) (a b:Option O):upd (upd H k a) j b=upd (upd H j b) k a:=by
 funext q;unfold upd
 by_cases h1:q=j
 ·subst h1;rw[if_pos rfl,if_neg (Ne.symm h),if_pos rfl]
 ·rw[if_neg h1];split<;>simp
theorem zhd (R:Rel N c 0 A μ lam (.init [] H n) zaM w) {k:Nat} {g:Option Nat} (hk:H k=some (.raw (.bld g))) (hg: ∀q,g=some q-> ∃l,H q=some (.raw (.buf l))):
 ∃p v l,w.heap[μ k]? =some (.cells #[p,v] N.tB (0,0))/\(p= .pointer none\/p= .pointer (some ⟨μ k,0,none⟩))/\w.ownsRow 0 N.tU 1 v l.length (Lib.byteCells l)/\v.ownBlock=g.map μ/\(g=none->l=[]/\v= .slice none 0 0)/\(∀q,g=some q->H q=some (.raw (.buf l))/\l≠[]/\ ∃cap,v= .slice (some ⟨μ q,0,none⟩) l.length cap):=by
 cases g with
 | none=>
   obtain⟨p,h1,h2⟩:=R.heap k _ hk
   exact⟨p,_,[],h1,h2,World.ownsRow_nil _ _ _ _,rfl,fun _=>⟨rfl,rfl⟩,fun q h=>by cases h⟩
 | some q=>
   obtain⟨l,hl⟩:=hg q rfl;obtain⟨a,len,cap,h1,h2⟩:=R.heap k _ hk;obtain⟨cur,g1,g2,g3,g4,g5⟩:=R.heap q _ hl;rcases h2 with h2 | ⟨l',h2,rfl,rfl,h5⟩
   ·have EY:H q=some .dead:=h2;rw[hl]at EY;cases EY
   ·have EY:H q=some (.raw (.buf l')):=h2;rw[hl]at EY;cases EY;simp only[World.shape?,g1,zA,Prod.mk.injEq,true_and]at h5;subst h5;refine⟨_,_,l,h1,.inr rfl,⟨by simp[Lib.byteCells],.inr ⟨μ q,cur.size,cur,rfl,Nat.zero_le _,g1,g3,g4,by simp,?_⟩⟩,rfl,(fun h=>by cases h),(fun q' h=>by cases h;exact⟨hl,g2,_,rfl⟩)⟩;rw[Nat.mul_one];exact g5
theorem zwq (R:Rel N c 0 A μ lam (.init [] H n) zaM w) {k n':Nat} {new:List UInt8} {H':Nat->Option O} (h:zia H n k new=some (H',n')):
 ∃p v m xs,w.heap[μ k]? =some (.cells #[p,v] N.tB (0,0))/\(p= .pointer none\/p= .pointer (some ⟨μ k,0,none⟩))/\w.ownsRow 0 N.tU 1 v m xs/\m+new.length<=140737488355328/\
  ∀w' v',Wrote w (μ k) v m xs (Lib.byteCells new) N.tB N.tU v' w'-> ∃μ',Rel N c 0 A μ' lam (.init [] H' n') zaM w':=by
 -- a builder whose row is given up (if it Dt one),written
 have main: ∀{H0:Nat->Option O} (g:Option Nat) (p v:Value) (l:List UInt8),Rel N c 0 A μ lam (.init [] H0 n) zaM w->H0 k=some (.raw (.bld g))->(∀q,v.ownBlock=some q->Orphan c A μ lam (.init [] H0 n) q)->
  w.heap[μ k]? =some (.cells #[p,v] N.tB (0,0))->v.ownBlock≠some (μ k)-> ∀w' v',Wrote w (μ k) v l.length (Lib.byteCells l) (Lib.byteCells new) N.tB N.tU v' w'->l++new≠[]->
  ∃μ',Rel N c 0 A μ' lam (.init [] (upd (upd H0 n (some (.raw (.buf (l++new))))) k (some (.raw (.bld (some n))))) (n+1)) zaM w':=by
  intro H0 g p v l R0 hk F6 hb Di w' v' hw Az;have R1:=R0.changeB hk (by intro l h;cases h) hw.size (gb:=v.ownBlock) F6 hw.oth hw.shp ⟨_,_,hw.blk⟩ hw.out;have R2:=R1.more (Nat.le_succ n)
  obtain⟨g',cap,cur,rfl,_,B9,Dr,CG,Oi,M5⟩: ∃g cap cur,v'= .slice (some ⟨g,0,none⟩) (l.length+(Lib.byteCells new).length) cap/\0<=g/\w'.heap[g]? =some (.cells cur N.tU (0,0))/\l.length+(Lib.byteCells new).length<=cap/\cap<=maxLen/\cur.size=cap*1/\cur.toList.take ((l.length+(Lib.byteCells new).length)*1)=Lib.byteCells l++Lib.byteCells new:=by
   rcases hw.own.2 with⟨_,h0⟩ | h
   ·exfalso;apply Az
    have:l.length=0/\new.length=0:=by
     rw[Lib.byteCells_length]at h0;omega
    rw[List.eq_nil_of_length_eq_zero this.1,List.eq_nil_of_length_eq_zero this.2];rfl
   ·exact h
  rw[Lib.byteCells_length]at Dr M5
  have EK:k≠n:=by
   rintro rfl;have:=R0.fresh k (Nat.le_refl _);simp[St.init,hk]at this
  have Rc:(upd H0 k (some (.raw .mid))) n=none:=by
   rw[zad _ _ (Ne.symm EK)];exact R0.fresh n (Nat.le_refl _)
  -- the row
  have Dl:Orphan c A μ lam (.init [] (upd H0 k (some (.raw .mid))) (n+1)) g':=by
   rcases hw.new with AQ | ⟨g2,GS,Bv⟩
   ·have hq:=F6 g' (by rw[<- AQ];rfl);refine⟨hq.a,fun t ht=>by simp[St.init]at ht,fun k1 o1 h1 l1 e=> ?_,hq.x⟩
    by_cases e1:k1=k
    ·subst e1;exact Di (by rw[<- AQ];simp[Value.ownBlock,e])
    ·exact hq.h k1 o1 (by simpa only[St.init,zad _ _ e1]using h1) l1 e
   ·simp only[Value.ownBlock,zA]at GS;subst GS;refine⟨fun h=> ?_,fun t ht=>by simp[St.init]at ht,fun k1 o1 h1 l1 e=> ?_,.inr (Nat.le_trans R0.csize Bv)⟩
    ·have:=R0.alt _ h;omega
    ·by_cases e1:k1=k
     ·subst e1;have:=R0.lt_live hk rfl;omega
     ·have:=R0.lt_live (k:=k1) (o:=o1) (by simpa only[St.init,zad _ _ e1]using h1) l1;omega
  have R3:=R2.adoptH (k:=n) (r:=g') (o:=.raw (.buf (l++new))) Rc (Nat.lt_succ_self n) Dl ⟨cur,B9,Az,by simp;omega,by omega,by
   rw[zM,<- Nat.mul_one (l.length+new.length),M5,List.map_append];rfl⟩ (by simp)
  have B4:(upd (upd H0 k (some (.raw .mid))) n (some (.raw (.buf (l++new))))) k=some (.raw .mid):=by rw[zad _ _ EK,zaz]
  have hμk:upd μ n g' k=μ k:=zad _ _ EK
  have R4:=R3.changeH (k:=k) (o:=.raw .mid) (o':= .raw (.bld (some n))) (w':=w') B4 trivial rfl (by simp) (by simp) rfl rfl (fun _ _=>rfl) (fun _ _ h=>h) (fun _=>by
   refine⟨some ⟨g',0,none⟩,l.length+(Lib.byteCells new).length,cap,by rw[hμk];exact hw.blk,.inr ⟨l++new,?_,?_,?_,?_⟩⟩
   ·show upd (upd _ n _) k _ n=_;rw[zad _ _ (Ne.symm EK),zaz]
   ·rw[zaz]
   ·rw[zM,Lib.byteCells_length]
   ·rw[zaz]
    simp only[World.shape?,B9,zA,Prod.mk.injEq,true_and];omega) ⟨rfl,rfl⟩
  refine⟨upd μ n g',?_⟩
  have e:upd (upd H0 n (some (.raw (.buf (l++new))))) k (some (.raw (.bld (some n))))=upd (upd (upd H0 k (some (.raw .mid))) n (some (.raw (.buf (l++new))))) k (some (.raw (.bld (some n)))):=by
   rw[ztQ EK,zrg]
  rw[e];exact R4
 unfold zia at h;split at h
 ·rename_i hk;split at h
  ·rename_i Ac;obtain⟨p,v,l,h1,h2,h3,h4,h5,_⟩:=zhd R hk (by intro q h;cases h);obtain⟨rfl,rfl⟩:=h5 rfl;refine⟨p,_,0,[],h1,h2,h3,by simpa using Ac,fun w' v' hw=> ?_⟩;split at h
   ·rename_i B2;cases h;subst B2;have BQ:=hw.nil.2 ⟨rfl,rfl⟩;subst BQ;have R1:=R.changeB hk (by intro l h;cases h) hw.size (gb:=none) (by intro g h;cases h) (fun r hr Nk _=>hw.oth r hr Nk (by simp[Value.ownBlock])) hw.shp ⟨_,_,hw.blk⟩ hw.out;have R2:=R1.changeH (k:=k) (o:=.raw .mid) (o':= .raw (.bld none)) (w':=w') (zaz _ _ _) trivial rfl (by simp) (by simp) rfl rfl (fun _ _=>rfl) (fun _ _ h=>h) (fun _=>⟨_,hw.blk,.inr rfl⟩) ⟨rfl,rfl⟩;refine⟨μ,?_⟩;simp only[St.init,zrg,zvC hk]at R2;exact R2
   ·rename_i B2;cases h;simpa using main none p _ [] R hk (by intro q h;simp[Value.ownBlock]at h) h1 (by simp[Value.ownBlock]) w' v' hw (by simpa using B2)
  ·cases h
 ·rename_i g hk;split at h
  ·rename_i l hg;split at h
   ·rename_i Ac;cases h;obtain⟨p,v,l',h1,h2,h3,h4,_,h6⟩:=zhd R hk (fun q h=>by cases h;exact⟨l,hg⟩);obtain⟨h7,h8,_⟩:=h6 g rfl;rw[hg]at h7;cases h7;have Pm:g≠k:=by rintro rfl;rw[hg]at hk;cases hk
    refine⟨p,v,l.length,_,h1,h2,h3,Ac,fun w' v' hw=> ?_⟩;have OS: ∀q,v.ownBlock=some q->q=μ g:=by intro q hq;rw[h4]at hq;simpa using hq.symm
    exact main (some g) p v l (R.kill hg) (by simp only[zad _ _ (Ne.symm Pm)];exact hk) (fun q hq=>by rw[OS q hq];exact R.orphan_kill hg rfl (by simp)) h1 (by
     intro hq
     exact Pm (R.hinj g k _ _ hg hk rfl rfl (OS _ hq).symm)) w' v' hw (by simp[h8])
   ·cases h
  ·cases h
 ·cases h
theorem zoI {w:World} {A:Nat->Prop} {nm μ:Nat->Nat} {H:Nat->Option O} {vs:Array Value} {x y:V} (h:zb1 w A nm μ H vs [x,y]): ∃u v,vs= #[u,v]/\zbl w A nm μ H u x/\zbl w A nm μ H v y:=by
 obtain⟨h1,h2⟩:=h;obtain⟨u,hu,hr⟩:=h2 0 x rfl;obtain⟨v,hv,hs⟩:=h2 1 y rfl;refine⟨u,v,?_,hr,hs⟩;apply Array.ext_getElem?;intro i
 match i with
 | 0=>simpa using hu
 | 1=>simpa using hv
 | i+2=>rw[Array.getElem?_eq_none (by simp at h1;omega),Array.getElem?_eq_none (by simp)]
theorem zox {w:World} {A:Nat->Prop} {nm μ:Nat->Nat} {H:Nat->Option O} {v:Value} {k:Nat} {x:Bx} (h:zbl w A nm μ H v (.mp k 0 0)) (hk:H k=some (.raw x)):v= .pointer (some ⟨μ k,0,none⟩):=by
 cases(h:RepC w A nm μ H v (.mp k 0 0))with
 | mp _ _ _ _ _ _ Ah=>rw[hk]at Ah;cases Ah
 | mb _ _ _=>rfl
 | dmp _ _ _ Ah=>rw[hk]at Ah;cases Ah
theorem zqX {k n':Nat} {new:List UInt8} {H':Nat->Option O} (h:zia H n k new=some (H',n')): ∃x,H k=some (.raw x):=by
 unfold zia at h;split at h
 ·rename_i hk;exact⟨_,hk⟩
 ·rename_i g hk;exact⟨_,hk⟩
 ·cases h
theorem zAJ {P:Program} {g:Nat} {ρ:Ren} (Ly:Lays.n166 P ρ) (X:Builder.Extra P ρ) (hf:ρ.f 166=N.nm g) (hB:ρ.t 72=N.tB) (hU:ρ.t 5=N.tU) {rf:Func} (hr:Real P (N.nm g) rf):zl3 P N g .bldS:=by
 refine⟨⟨rf,hr⟩,fun args H n r H' n' h c A μ lam w vs R ha=> ?_,fun _ _ h=>by simp[zev]at h⟩;rw[<- hf];unfold zd3 at h;split at h
 all_goals(try contradiction)
 rename_i k s _;simp only[zE,Prod.exists,Prod.mk.injEq]at h;obtain⟨H2,n2,Hk,rfl,rfl,rfl⟩:=h;obtain⟨u1,u2,rfl,AX,DT⟩:=zoI ha;cases DT.str_inv;obtain⟨x,hk⟩:=zqX Hk;cases zox AX hk;obtain⟨p,v,m,xs,h1,h2,h3,h4,h5⟩:=zwq R Hk;rw[<- hB]at h1;rw[<- hU]at h3;have AS:s.data.toList.length=s.size:=by rw[Array.length_toList];rfl
 refine(zl8 Ly X (μ k) p v m xs s w h1 h2 h3 (by omega)).mono ?_;rintro e w' ⟨rfl,v',hw⟩;rw[hB,hU]at hw;obtain⟨μ',R'⟩:=h5 w' v' hw;refine⟨_,A,μ',lam,rfl,R',⟨_,rfl,rfl,fun i x hi=> ?_⟩⟩
 match i,hi with
 | 0,hi=>simp at hi;subst hi;exact⟨_,rfl,RepC.t (.int _ _)⟩
 | 1,hi=>simp at hi;subst hi;exact⟨_,rfl,RepC.t .nili⟩
theorem zo5 (R:Rel N c 0 A μ lam (.init [] H n) zaM w) {w':World} {gb:Option Nat} (ht:Took w gb w') (JK: ∀g,gb=some g->Orphan c A μ lam (.init [] H n) g):Rel N c 0 A μ lam (.init [] H n) zaM w':=by
 refine R.world (by rw[ht.size];exact Nat.le_refl _) ?_ ?_ ht.shp (zdG.nil _ _ _) ht.out
 ·rintro r (h | h | ⟨k,o,hk,hl,rfl⟩)
  ·exact ht.oth r (fun e=>(JK r e.symm).a h)
  ·obtain⟨t,ht,_⟩:=h;simp[St.init]at ht
  ·exact ht.oth _ (fun e=>(JK _ e.symm).h k o hk hl rfl)
 ·intro r hr hx;refine ht.oth r (fun e=> ?_);rcases(JK r e.symm).x with h | h
  ·exact hx h
  ·omega
theorem zAK {P:Program} {g:Nat} {ρ:Ren} (Ly:Lays.n169 P ρ) (X:Builder.Extra P ρ) (hf:ρ.f 169=N.nm g) (hB:ρ.t 72=N.tB) (hU:ρ.t 5=N.tU) {rf:Func} (hr:Real P (N.nm g) rf):zl3 P N g .bldG:=by
 refine⟨⟨rf,hr⟩,fun args H n r H' n' h c A μ lam w vs R ha=> ?_,fun _ _ h=>by simp[zev]at h⟩;rw[<- hf];unfold zd3 at h;split at h
 all_goals(try contradiction)
 rename_i k _;obtain⟨u1,rfl,AX⟩:=ze2 ha;split at h
 ·rename_i hk;cases h;cases zox AX hk;obtain⟨p,v,l,h1,h2,h3,h4,h5,_⟩:=zhd R hk (by intro q h;cases h);obtain⟨rfl,rfl⟩:=h5 rfl;rw[<- hB]at h1;refine(zp5 Ly X (μ k) p w h1).mono ?_;rintro e w' ⟨rfl,ht⟩;exact⟨_,A,μ,lam,rfl,zo5 (R.kill hk) ht (by intro g h;cases h),(RepC.t (.str _)).toV⟩
 ·rename_i q hk;split at h
  ·rename_i l hq;cases h;cases zox AX hk;obtain⟨p,v,l',h1,h2,h3,h4,_,h6⟩:=zhd R hk (fun q' h=>by cases h;exact⟨l,hq⟩);obtain⟨h7,h8,cap,rfl⟩:=h6 q rfl;rw[hq]at h7;cases h7;rw[<- hB]at h1;rw[<- hU]at h3;have Nn:q≠k:=by rintro rfl;rw[hq]at hk;cases hk
   refine(znA Ly X (μ k) p (μ q) cap l w h1 h3 h8).mono ?_;rintro e w' ⟨rfl,ht⟩;have R1:Rel N c 0 A μ lam (.init [] (upd (upd H q (some .dead)) k (some .dead)) n) zaM w:=(R.kill hq).kill (k:=k) (o:=.raw (.bld (some q))) (by simp only[zad _ _ (Ne.symm Nn)];exact hk);have F6:=R.orphan_kill hq rfl (by simp);refine⟨_,A,μ,lam,rfl,zo5 R1 ht ?_,(RepC.t (.str _)).toV⟩;intro g2 GS;cases GS;refine⟨F6.a,fun t ht=>by simp[St.init]at ht,fun k1 o1 AT l1=> ?_,F6.x⟩;have EM:upd (upd H q (some .dead)) k (some .dead) k1=some o1:=AT
   by_cases e:k1=k
   ·subst e;rw[zaz]at EM;cases EM;cases l1
   ·rw[zad _ _ e]at EM;exact F6.h k1 o1 EM l1
  ·cases h
 ·cases h
theorem zu2 {P : Program} {g q j : Nat} {ρ : Ren} (Ly : LaysM.n171 P ρ) (hf : ρ.f 171 = N.nm g) (hq : P.globalNamed "internal/strconv.uint64pow10" = some q) (Ku : N.gm j = q) (hG : N.GL j = Lib.pow10Tab.map (T.int .u64))
 {rf:Func} (hr:Real P (N.nm g) rf):zl3 P N g .itoa:=by
 refine⟨⟨rf,hr⟩,fun args H n r H' n' h=>by simp[zd3]at h,fun args r h=> ?_⟩;intro A w vs hA JI ha;rw[<- hf];unfold zev at h;split at h
 all_goals(try contradiction)
 rename_i z _;split at h
 ·rename_i hz;cases h;obtain⟨u1,rfl,AX⟩:=ze2 ha;cases AX.int_inv
  have MY : Lib.TabIs P w "internal/strconv.uint64pow10" .u64 Lib.pow10Tab := by
   have h0:=JI j 0 (.int .u64 1) (by rw[hG];rfl);obtain⟨_,⟨e0,Bo⟩,_⟩:=h0;rw[Ku]at Bo;unfold World.shape? at Bo;unfold Lib.TabIs World.var?;rw[hq]
   cases hb:w.heap[q]? with
   | none=>rw[hb]at Bo;cases Bo
   | some o=>
     rw[hb]at Bo
     cases o with
     | cells cs e z0=>
       simp only[zA,Prod.mk.injEq]at Bo;simp only[zD,hb,zA];apply Array.ext_getElem?;intro i
       by_cases hi:i<Lib.pow10Tab.length
       ·obtain⟨_,_,v,hv,Ae⟩:=JI j i (.int .u64 Lib.pow10Tab[i]) (by rw[hG,zJ,zI hi];rfl);rw[Ku,Lib.cell_of_heap hb]at hv;cases Ae;rw[hv];simp[hi]
       ·rw[Array.getElem?_eq_none (by rw[Bo.2,hG];simp;omega),Array.getElem?_eq_none (by simp;omega)]
     | _=>cases Bo
  refine(Any.strconv_Itoa Ly z hz.1 hz.2 w MY).mono ?_;rintro e w' ⟨rfl,k,os,rfl⟩
  have Ag: ∀r,r<w.heap.size->(grow (w.drewN k) os).heap[r]? =w.heap[r]? :=fun r hr=>by
   simp[grow,Array.getElem?_append,hr]
  refine⟨_,rfl,⟨?_,?_⟩,?_,Ag,(RepC.t (.str _)).toV⟩
  ·rfl
  ·rfl
  ·simp[grow]
 ·cases h
end Rg
end
section
namespace Rg
open Go Go.Proofs Go.Lib Go.Shelf Go.RowKit
theorem zJR {P:Program} {N:Nam} {g j:Nat} {m:Int} {ρ:Ren} (Ly:Lays.n145 P ρ) (hf:ρ.f 145=N.nm g) (Ku:N.gm j=ρ.g 1) (hG:N.GL j=[.int .i64 m]) {rf:Func} (hr:Real P (N.nm g) rf):zl3 P N g .cutS:=by
 refine⟨⟨rf,hr⟩,fun args H n r H' n' h=>by simp[zd3]at h,fun args r h=> ?_⟩;intro A w vs hA JI ha;rw[<- hf];unfold zev at h;split at h
 all_goals(try contradiction)
 rename_i s sep _;split at h
 ·rename_i hb;cases h;obtain⟨u1,u2,rfl,AX,DT⟩:=zoI ha;cases AX.str_inv;cases DT.str_inv;obtain⟨_,_,v,hv,Ae⟩:=JI j 0 (.int .i64 m) (by rw[hG];rfl);rw[Ku]at hv;cases Ae;refine(Any.strings_Cut Ly s sep m w hb hv).mono ?_;rintro e w' ⟨rfl,k,rfl⟩;refine⟨_,rfl,⟨rfl,rfl⟩,Nat.le_refl _,fun q _=>rfl,?_⟩;refine⟨_,rfl,rfl,fun i c hi=> ?_⟩
  match i,hi with
  | 0,hi=>cases hi;exact⟨_,rfl,RepC.t (.str _)⟩
  | 1,hi=>cases hi;exact⟨_,rfl,RepC.t (.str _)⟩
  | 2,hi=>cases hi;exact⟨_,rfl,RepC.t (.bool _)⟩
  | i+3,hi=>simp at hi
 ·cases h
end Rg
end
section
namespace Go.Proofs
open Go.Shelf
def Tryz.lays2n15_ren:Go.Shelf.Ren:=⟨fun | 15=>145 | n=>n,fun | 22=>58 | 3=>3 | 4=>4 | n=>n,fun | n=>n⟩
theorem Tryz.lays2n15:Go.Proofs.Lays2.n15 Tryz.prog Tryz.lays2n15_ren:={
 mixed:=by kernel_rfl
 f15:=Tryz.func145.trans (congrArg some (by kernel_rfl))
 t3:=Tryz.underlying3
 a3:=Tryz.isAgg3
 z3:=Tryz.sizeOf3
 v3:=Tryz.zeroValue3
 t4:=Tryz.underlying4
 a4:=Tryz.isAgg4
 z4:=Tryz.sizeOf4
 v4:=Tryz.zeroValue4
 t22:=Tryz.underlying58
 a22:=Tryz.isAgg58
 z22:=Tryz.sizeOf58
 v22:=Tryz.zeroValue58
 i3:=by kernel_rfl }
def Tryz.lays41_25_ren:Go.Shelf.Ren:=⟨fun | 41=>25 | n=>n,fun | 22=>28 | 23=>54 | 4=>4 | n=>n,fun | n=>n⟩
theorem Tryz.lays41_25:Go.Proofs.SlLaysE0.n41 Tryz.prog Tryz.lays41_25_ren:={
 mixed:=by kernel_rfl
 f41:=⟨Tryz.f25.name,by decide,Tryz.func25.trans (congrArg some (by kernel_rfl))⟩
 t4:=Tryz.underlying4
 a4:=Tryz.isAgg4
 z4:=Tryz.sizeOf4
 v4:=Tryz.zeroValue4
 t22:=Tryz.underlying28
 a22:=Tryz.isAgg28
 z22:=Tryz.sizeOf28
 v22:=Tryz.zeroValue28 }
def Tryz.laysM171_ren:Go.Shelf.Ren:=⟨fun | 171=>56 | 243=>79 | 246=>122 | 283=>152 | 284=>153 | 285=>154 | 286=>155 | 129=>174 | 317=>173 | 318=>175 | 319=>176 | 320=>177 | 337=>183 | 338=>184 | n=>n,fun | 3=>3 | 9=>9 | 2=>2 | 4=>4 | 171=>228 | 0=>0 | 53=>229 | 37=>129 | 5=>5 | 173=>232 | 212=>243 | 51=>234 | 20=>20 | 213=>244 | 46=>160 | 232=>250 | 233=>251 | n=>n,fun | 17=>2 | 18=>3 | 19=>4 | n=>n⟩
theorem Tryz.laysM171:Go.Proofs.LaysM.n171 Tryz.prog Tryz.laysM171_ren:={
 mixed:=by kernel_rfl
 f129:=Tryz.func174.trans (congrArg some (by kernel_rfl))
 f171:=Tryz.func56.trans (congrArg some (by kernel_rfl))
 f243:=Tryz.func79.trans (congrArg some (by kernel_rfl))
 f246:=Tryz.func122.trans (congrArg some (by kernel_rfl))
 f283:=Tryz.func152.trans (congrArg some (by kernel_rfl))
 f284:=Tryz.func153.trans (congrArg some (by kernel_rfl))
 f285:=Tryz.func154.trans (congrArg some (by kernel_rfl))
 f286:=Tryz.func155.trans (congrArg some (by kernel_rfl))
 f317:=Tryz.func173.trans (congrArg some (by kernel_rfl))
 f318:=Tryz.func175.trans (congrArg some (by kernel_rfl))
 f319:=Tryz.func176.trans (congrArg some (by kernel_rfl))
 f320:=Tryz.func177.trans (congrArg some (by kernel_rfl))
 f337:=Tryz.func183.trans (congrArg some (by kernel_rfl))
 f338:=Tryz.func184.trans (congrArg some (by kernel_rfl))
 t0:=Tryz.underlying0
 a0:=Tryz.isAgg0
 z0:=Tryz.sizeOf0
 v0:=Tryz.zeroValue0
 t2:=Tryz.underlying2
 a2:=Tryz.isAgg2
 z2:=Tryz.sizeOf2
 v2:=Tryz.zeroValue2
 t3:=Tryz.underlying3
 a3:=Tryz.isAgg3
 z3:=Tryz.sizeOf3
 v3:=Tryz.zeroValue3
 t4:=Tryz.underlying4
 a4:=Tryz.isAgg4
 z4:=Tryz.sizeOf4
 v4:=Tryz.zeroValue4
 t5:=Tryz.underlying5
 a5:=Tryz.isAgg5
 z5:=Tryz.sizeOf5
 v5:=Tryz.zeroValue5
 t9:=Tryz.underlying9
 a9:=Tryz.isAgg9
 z9:=Tryz.sizeOf9
 v9:=Tryz.zeroValue9
 t20:=Tryz.underlying20
 a20:=Tryz.isAgg20
 z20:=Tryz.sizeOf20
 v20:=Tryz.zeroValue20
 t37:=Tryz.underlying129
 a37:=Tryz.isAgg129
 z37:=Tryz.sizeOf129
 v37:=Tryz.zeroValue129
 t46:=Tryz.underlying160
 a46:=Tryz.isAgg160
 z46:=Tryz.sizeOf160
 v46:=Tryz.zeroValue160
 t51:=Tryz.underlying234
 a51:=Tryz.isAgg234
 z51:=Tryz.sizeOf234
 v51:=Tryz.zeroValue234
 t53:=Tryz.underlying229
 a53:=Tryz.isAgg229
 z53:=Tryz.sizeOf229
 v53:=Tryz.zeroValue229
 t171:=Tryz.underlying228
 a171:=Tryz.isAgg228
 z171:=Tryz.sizeOf228
 v171:=Tryz.zeroValue228
 t173:=Tryz.underlying232
 a173:=Tryz.isAgg232
 z173:=Tryz.sizeOf232
 v173:=Tryz.zeroValue232
 t212:=Tryz.underlying243
 a212:=Tryz.isAgg243
 z212:=Tryz.sizeOf243
 v212:=Tryz.zeroValue243
 t213:=Tryz.underlying244
 a213:=Tryz.isAgg244
 z213:=Tryz.sizeOf244
 t232:=Tryz.underlying250
 a232:=Tryz.isAgg250
 z232:=Tryz.sizeOf250
 v232:=Tryz.zeroValue250
 t233:=Tryz.underlying251
 a233:=Tryz.isAgg251
 z233:=Tryz.sizeOf251
 v233:=Tryz.zeroValue251
 g17:=by kernel_rfl
 g18:=by kernel_rfl
 g19:=by kernel_rfl
 i0:=by kernel_rfl
 i2:=by kernel_rfl
 i3:=by kernel_rfl
 i4:=by kernel_rfl
 i5:=by kernel_rfl
 i9:=by kernel_rfl
 i20:=by kernel_rfl
 i37:=by kernel_rfl
 i46:=by kernel_rfl
 i51:=by kernel_rfl
 i53:=by kernel_rfl
 i171:=by kernel_rfl
 i173:=by kernel_rfl
 i212:=by kernel_rfl
 i232:=by kernel_rfl
 i233:=by kernel_rfl
 m17:=by kernel_rfl
 m18:=by kernel_rfl
 m19:=by kernel_rfl }
def Tryz.laysM145_ren:Go.Shelf.Ren:=⟨fun | 145=>30 | 220=>57 | 219=>80 | 217=>123 | 225=>124 | 224=>125 | 267=>126 | 266=>156 | 314=>157 | n=>n,fun | 9=>9 | 4=>4 | 59=>84 | 3=>3 | 5=>5 | 46=>160 | 146=>235 | 51=>234 | n=>n,fun | 1=>1 | n=>n⟩
theorem Tryz.laysM145:Go.Proofs.LaysM.n145 Tryz.prog Tryz.laysM145_ren:={
 mixed:=by kernel_rfl
 f145:=Tryz.func30.trans (congrArg some (by kernel_rfl))
 f217:=Tryz.func123.trans (congrArg some (by kernel_rfl))
 f219:=Tryz.func80.trans (congrArg some (by kernel_rfl))
 f220:=Tryz.func57.trans (congrArg some (by kernel_rfl))
 f224:=Tryz.func125.trans (congrArg some (by kernel_rfl))
 f225:=Tryz.func124.trans (congrArg some (by kernel_rfl))
 f266:=Tryz.func156.trans (congrArg some (by kernel_rfl))
 f267:=Tryz.func126.trans (congrArg some (by kernel_rfl))
 f314:=Tryz.func157.trans (congrArg some (by kernel_rfl))
 t3:=Tryz.underlying3
 a3:=Tryz.isAgg3
 z3:=Tryz.sizeOf3
 v3:=Tryz.zeroValue3
 t4:=Tryz.underlying4
 a4:=Tryz.isAgg4
 z4:=Tryz.sizeOf4
 v4:=Tryz.zeroValue4
 t5:=Tryz.underlying5
 a5:=Tryz.isAgg5
 z5:=Tryz.sizeOf5
 v5:=Tryz.zeroValue5
 t9:=Tryz.underlying9
 a9:=Tryz.isAgg9
 z9:=Tryz.sizeOf9
 v9:=Tryz.zeroValue9
 t46:=Tryz.underlying160
 a46:=Tryz.isAgg160
 z46:=Tryz.sizeOf160
 v46:=Tryz.zeroValue160
 t51:=Tryz.underlying234
 a51:=Tryz.isAgg234
 z51:=Tryz.sizeOf234
 v51:=Tryz.zeroValue234
 t59:=Tryz.underlying84
 a59:=Tryz.isAgg84
 z59:=Tryz.sizeOf84
 v59:=Tryz.zeroValue84
 t146:=Tryz.underlying235
 a146:=Tryz.isAgg235
 z146:=Tryz.sizeOf235
 v146:=Tryz.zeroValue235
 g1:=by kernel_rfl
 i3:=by kernel_rfl
 i4:=by kernel_rfl
 i5:=by kernel_rfl
 i9:=by kernel_rfl
 i46:=by kernel_rfl
 i51:=by kernel_rfl
 i59:=by kernel_rfl
 i146:=by kernel_rfl
 m1:=by kernel_rfl
 s1_3:=fun w h=>Go.Proofs.cell_of_shapedOpen_int (zero:= #[.int .i64 0]) (t:=3) h (of_decide_eq_true (by kernel_rfl)) (by kernel_rfl) rfl (by kernel_rfl) (by kernel_rfl) Tryz.underlying3 }
def Tryz.lays156_ren:Go.Shelf.Ren:=⟨fun | 166=>54 | 169=>55 | 240=>78 | 276=>121 | n=>n,fun | 9=>9 | 3=>3 | 4=>4 | 0=>0 | 20=>20 | 72=>131 | 76=>134 | 70=>128 | 37=>129 | 75=>133 | 127=>158 | 164=>203 | 5=>5 | 80=>136 | n=>n,fun | n=>n⟩
theorem Tryz.lays169:Go.Proofs.Lays.n169 Tryz.prog Tryz.lays156_ren:={
 mixed:=by kernel_rfl
 f169:=Tryz.func55.trans (congrArg some (by kernel_rfl))
 t0:=Tryz.underlying0
 a0:=Tryz.isAgg0
 z0:=Tryz.sizeOf0
 v0:=Tryz.zeroValue0
 t3:=Tryz.underlying3
 a3:=Tryz.isAgg3
 z3:=Tryz.sizeOf3
 v3:=Tryz.zeroValue3
 t9:=Tryz.underlying9
 a9:=Tryz.isAgg9
 z9:=Tryz.sizeOf9
 v9:=Tryz.zeroValue9
 t37:=Tryz.underlying129
 a37:=Tryz.isAgg129
 z37:=Tryz.sizeOf129
 v37:=Tryz.zeroValue129
 t70:=Tryz.underlying128
 a70:=Tryz.isAgg128
 z70:=Tryz.sizeOf128
 v70:=Tryz.zeroValue128
 t72:=Tryz.underlying131
 a72:=Tryz.isAgg131
 z72:=Tryz.sizeOf131
 v72:=Tryz.zeroValue131
 t127:=Tryz.underlying158
 a127:=Tryz.isAgg158
 z127:=Tryz.sizeOf158
 v127:=Tryz.zeroValue158 }
theorem Tryz.lays166:Go.Proofs.Lays.n166 Tryz.prog Tryz.lays156_ren:={
 mixed:=by kernel_rfl
 f166:=Tryz.func54.trans (congrArg some (by kernel_rfl))
 f240:=Tryz.func78.trans (congrArg some (by kernel_rfl))
 f276:=Tryz.func121.trans (congrArg some (by kernel_rfl))
 t0:=Tryz.underlying0
 a0:=Tryz.isAgg0
 z0:=Tryz.sizeOf0
 v0:=Tryz.zeroValue0
 t3:=Tryz.underlying3
 a3:=Tryz.isAgg3
 z3:=Tryz.sizeOf3
 v3:=Tryz.zeroValue3
 t4:=Tryz.underlying4
 a4:=Tryz.isAgg4
 z4:=Tryz.sizeOf4
 v4:=Tryz.zeroValue4
 t9:=Tryz.underlying9
 a9:=Tryz.isAgg9
 z9:=Tryz.sizeOf9
 v9:=Tryz.zeroValue9
 t20:=Tryz.underlying20
 a20:=Tryz.isAgg20
 z20:=Tryz.sizeOf20
 v20:=Tryz.zeroValue20
 t37:=Tryz.underlying129
 a37:=Tryz.isAgg129
 z37:=Tryz.sizeOf129
 v37:=Tryz.zeroValue129
 t70:=Tryz.underlying128
 a70:=Tryz.isAgg128
 z70:=Tryz.sizeOf128
 v70:=Tryz.zeroValue128
 t72:=Tryz.underlying131
 a72:=Tryz.isAgg131
 z72:=Tryz.sizeOf131
 v72:=Tryz.zeroValue131
 t75:=Tryz.underlying133
 a75:=Tryz.isAgg133
 z75:=Tryz.sizeOf133
 v75:=Tryz.zeroValue133
 t164:=Tryz.underlying203
 a164:=Tryz.isAgg203
 z164:=Tryz.sizeOf203
 v164:=Tryz.zeroValue203 }
theorem Tryz.bx156:Builder.Extra Tryz.prog Tryz.lays156_ren:={
 sizeBuilder:=by kernel_rfl
 liesBuilder:=by kernel_rfl
 t5:=Tryz.underlying5
 a5:=Tryz.isAgg5
 z5:=Tryz.sizeOf5
 v5:=Tryz.zeroValue5
 infoByte:=by kernel_rfl
 cellsByte:=by kernel_rfl
 sizeByte:=by kernel_rfl
 neB5:=by decide }
end Go.Proofs
end
section
set_option maxRecDepth 100000
namespace Rg
open Go Go.Proofs Go.Proofs.YtbkhffpideppnaaGreatDoor
namespace Seat
def tbl:List Nat:=[2,1000001,1000002,1000003,1000004,1000005,1000006,1000007,1000008,1000009,1000010,1000011,65,1000013,1000014,1000015,1000016,1000017,96,1000019,1000020,1000021,1000022,16,48,1000025,1000026,34,1000028,1000029,1000030,1000031,1000032,42,1000034,1000035,1000036,1000037,95,1000039,1000040,1000041,1000042,135,136,137,1000046,40,70,71,1000050,67,1000052,1000053,1000054,1000055,68,1000057,1000058,1000059,134,36,39,38,32,6,1000066,169,111,1000069,103,104,105,106,1000074,1000075,132,167,168,59,60,61,62,63,18,19,20,21,22,148,1000090,146,147,1000093,1000094,81,82,83,84,85,86,87,88,89,90,91,92,93,94,41,43,44,45,46,47,49,171,1000117,1000118,1000119,1000120,1000121,1000122,1000123,1000124,1000125,1000126,1000127,1000128,1000129,174,127,128,129,130,131,133,69,72,1000139,1000140,1000141,1000142,1000143,1000144,158,159,160,161,162,163,164,165,166,107,108,109,110,112,113,1000160,178,179,180,181,182,185,211,1000168,1000169,1000170,1000171,1000172,1000173,1000174,1000175,1000176,1000177,1000178,1000179,66,1000181,1000182,1000183,1000184,1000185,1000186,97,100,101,98,99,102,1000193,1000194,138,139,1000197,145,143,140,141,142,144,1000204,170,116,149,1000208,1000209,1000210,1000211,1000212,1000213,1000214,1000215,1000216,1000217,1000218,1000219,1000220,1000221,1000222,1000223,1000224,1000225,1000226,1000227,1000228,1000229,1000230,1000231,1000232,1000233,1000234,1000235,1000236,1000237,1000238,1000239,56,1000241,1000242,1000243,1000244,1000245,55,1000247,1000248,1000249,1000250,1000251,1000252,1000253,1000254,1000255,1000256,79,54,1000259,1000260,1000261,1000262,1000263,1000264,122,78,1000267,1000268,152,153,154,155,1000273,1000274,173,175,176,177,183,184,1000281,1000282,1000283,1000284,1000285,1000286,1000287,1000288,1000289,1000290,1000291,1000292,1000293,1000294,1000295,1000296,1000297,1000298,1000299,1000300,1000301,1000302,1000303,1000304,1000305,1000306,1000307,1000308,1000309,1000310,1000311,1000312,1000313,1000314,1000315,1000316,1000317,1000318,1000319,1000320,1000321,1000322,1000323,1000324,1000325,1000326,1000327,1000328,1000329,1000330,1000331,1000332,1000333,1000334,1000335,1000336,1000337,1000338,1000339,1000340,1000341,1000342,1000343,1000344,1000345,1000346,1000347,1000348,1000349,1000350,1000351,1000352,1000353,1000354,1000355,1000356,1000357,1000358,1000359,1000360,1000361,1000362,1000363,1000364,1000365,1000366,1000367,1000368,1000369,1000370,1000371,1000372,1000373,1000374,1000375,1000376,1000377,1000378,1000379,1000380,1000381,1000382,1000383,1000384,1000385,1000386,1000387,1000388,1000389,1000390,1000391,1000392,1000393,1000394,1000395,1000396,1000397,1000398,1000399,1000400,1000401,1000402,1000403,1000404,1000405,1000406,1000407,1000408,1000409,1000410,1000411,1000412,1000413,1000414,1000415,1000416,1000417,1000418,1000419,1000420,1000421,1000422,1000423,1000424,1000425,1000426,1000427,1000428,1000429,1000430,1000431,1000432,1000433,1000434,1000435,1000436,1000437,1000438,1000439,1000440,1000441,1000442,5,1000444,11,1000446,9,10,13,1000450,17,1000452,1000453,1000454,33,27,28,29,30,31,64,57,58,80,123,125,126,157,3,4,7,8,12,14,15,23,24,25,26,35,37,50,51,52,53,73,74,75,76,77,114,115,117,118,119,120,150,151,172,203]
def I:Inv:=⟨fun f=>tbl.findIdx? (· ==f),fun g=>if g=0 then some 0 else if g=2 then some 2 else none,some 131,[(20000,156),(20003,121)]⟩
def N (m:Int):Nam:=⟨fun k=>if k<20000 then tbl.getD k 0 else 10000000+[156,0,0,121].getD (k-20000) 0,fun k=>[0,0,2,1].getD k 0,G,fun k=>if k=3 then [.int .i64 m]else G k,CR Tryz.prog I,131,5⟩
def zaB (s:List Nat):Raws:=⟨[52,53,54,57,60,70,74,75,76,77,83,93,97,120,121,122,123,124,125,127,128,136,139,141,142,143,158,160,199,200,202,203,236,241,244,245,246,258,260,261,295,300,301,302,310,315,317,322,323,324,326,350,353,356,360,361,362,363,364,365,368,375,376,378,379,380,381,382,386,387,388,389,390,391,392,393,425,426,453,455,461,483,485,500],s,[32,78,198]⟩
def Ent (m:Int) (q:Nat×F):Prop:=(∃rf rw L raw,Tryz.prog.funcs[(N m).nm q.1]? =some rf/\zou Tryz.prog I rw L raw rf=some q.2)\/ ∃e,q.2.body= .ext e/\zl3 Tryz.prog (N m) q.1 e
theorem e12 {m:Int}:Ent m (12,f12):=.inl ⟨Tryz.f65,zaB [],[3,2,1],false,Tryz.func65,by kernel_rfl⟩
theorem e18 {m:Int}:Ent m (18,f18):=.inl ⟨Tryz.f96,zaB [],[9,6,5,4,3],false,Tryz.func96,by kernel_rfl⟩
theorem e23 {m:Int}:Ent m (23,f23):=.inl ⟨Tryz.f16,zaB [],[2],false,Tryz.func16,by kernel_rfl⟩
theorem e24 {m:Int}:Ent m (24,f24):=.inl ⟨Tryz.f48,zaB [],[3],false,Tryz.func48,by kernel_rfl⟩
theorem e27 {m:Int}:Ent m (27,f27):=.inl ⟨Tryz.f34,zaB [],[],false,Tryz.func34,by kernel_rfl⟩
theorem e33 {m:Int}:Ent m (33,f33):=.inl ⟨Tryz.f42,zaB [],[],false,Tryz.func42,by kernel_rfl⟩
theorem e38 {m:Int}:Ent m (38,f38):=.inl ⟨Tryz.f95,zaB [],[1],false,Tryz.func95,by kernel_rfl⟩
theorem e43 {m:Int}:Ent m (43,f43):=.inl ⟨Tryz.f135,zaB [],[9,3,2],false,Tryz.func135,by kernel_rfl⟩
theorem e44 {m:Int}:Ent m (44,f44):=.inl ⟨Tryz.f136,zaB [],[3,2],false,Tryz.func136,by kernel_rfl⟩
theorem e45 {m:Int}:Ent m (45,f45):=.inl ⟨Tryz.f137,zaB [],[10,8,7,6,5,4,3],false,Tryz.func137,by kernel_rfl⟩
theorem e47 {m:Int}:Ent m (47,f47):=.inl ⟨Tryz.f40,zaB [],[2],false,Tryz.func40,by kernel_rfl⟩
theorem e48 {m:Int}:Ent m (48,f48):=.inl ⟨Tryz.f70,zaB [],[1],false,Tryz.func70,by kernel_rfl⟩
theorem e49 {m:Int}:Ent m (49,f49):=.inl ⟨Tryz.f71,zaB [],[3],false,Tryz.func71,by kernel_rfl⟩
theorem e51 {m:Int}:Ent m (51,f51):=.inl ⟨Tryz.f67,zaB [7],[],false,Tryz.func67,by kernel_rfl⟩
theorem e56 {m:Int}:Ent m (56,f56):=.inl ⟨Tryz.f68,zaB [],[7],false,Tryz.func68,by kernel_rfl⟩
theorem e60 {m:Int}:Ent m (60,f60):=.inl ⟨Tryz.f134,zaB [],[],true,Tryz.func134,by kernel_rfl⟩
theorem e61 {m:Int}:Ent m (61,f61):=.inl ⟨Tryz.f36,zaB [],[4],false,Tryz.func36,by kernel_rfl⟩
theorem e62 {m:Int}:Ent m (62,f62):=.inl ⟨Tryz.f39,zaB [],[4],false,Tryz.func39,by kernel_rfl⟩
theorem e63 {m:Int}:Ent m (63,f63):=.inl ⟨Tryz.f38,zaB [],[8,7,6],false,Tryz.func38,by kernel_rfl⟩
theorem e64 {m:Int}:Ent m (64,f64):=.inl ⟨Tryz.f32,zaB [],[13,5,1],false,Tryz.func32,by kernel_rfl⟩
theorem e65 {m:Int}:Ent m (65,f65):=.inl ⟨Tryz.f6,zaB [],[1],false,Tryz.func6,by kernel_rfl⟩
theorem e67 {m:Int}:Ent m (67,f67):=.inl ⟨Tryz.f169,zaB [],[9,5,4],false,Tryz.func169,by kernel_rfl⟩
theorem e68 {m:Int}:Ent m (68,f68):=.inl ⟨Tryz.f111,zaB [],[2],false,Tryz.func111,by kernel_rfl⟩
theorem e70 {m:Int}:Ent m (70,f70):=.inl ⟨Tryz.f103,zaB [38],[],true,Tryz.func103,by kernel_rfl⟩
theorem e71 {m:Int}:Ent m (71,f71):=.inl ⟨Tryz.f104,zaB [],[],false,Tryz.func104,by kernel_rfl⟩
theorem e72 {m:Int}:Ent m (72,f72):=.inl ⟨Tryz.f105,zaB [],[],false,Tryz.func105,by kernel_rfl⟩
theorem e73 {m:Int}:Ent m (73,f73):=.inl ⟨Tryz.f106,zaB [],[3],false,Tryz.func106,by kernel_rfl⟩
theorem e76 {m:Int}:Ent m (76,f76):=.inl ⟨Tryz.f132,zaB [13],[],true,Tryz.func132,by kernel_rfl⟩
theorem e77 {m:Int}:Ent m (77,f77):=.inl ⟨Tryz.f167,zaB [],[],true,Tryz.func167,by kernel_rfl⟩
theorem e78 {m:Int}:Ent m (78,f78):=.inl ⟨Tryz.f168,zaB [],[1],true,Tryz.func168,by kernel_rfl⟩
theorem e79 {m:Int}:Ent m (79,f79):=.inl ⟨Tryz.f59,zaB [],[6,4,1],false,Tryz.func59,by kernel_rfl⟩
theorem e80 {m:Int}:Ent m (80,f80):=.inl ⟨Tryz.f60,zaB [],[5,1],false,Tryz.func60,by kernel_rfl⟩
theorem e81 {m:Int}:Ent m (81,f81):=.inl ⟨Tryz.f61,zaB [],[5,1],false,Tryz.func61,by kernel_rfl⟩
theorem e82 {m:Int}:Ent m (82,f82):=.inl ⟨Tryz.f62,zaB [],[6,5,1],false,Tryz.func62,by kernel_rfl⟩
theorem e83 {m:Int}:Ent m (83,f83):=.inl ⟨Tryz.f63,zaB [],[14,12],true,Tryz.func63,by kernel_rfl⟩
theorem e84 {m:Int}:Ent m (84,f84):=.inl ⟨Tryz.f18,zaB [],[5,1],false,Tryz.func18,by kernel_rfl⟩
theorem e85 {m:Int}:Ent m (85,f85):=.inl ⟨Tryz.f19,zaB [],[4,1],false,Tryz.func19,by kernel_rfl⟩
theorem e86 {m:Int}:Ent m (86,f86):=.inl ⟨Tryz.f20,zaB [],[4,1],false,Tryz.func20,by kernel_rfl⟩
theorem e87 {m:Int}:Ent m (87,f87):=.inl ⟨Tryz.f21,zaB [],[4,1],false,Tryz.func21,by kernel_rfl⟩
theorem e88 {m:Int}:Ent m (88,f88):=.inl ⟨Tryz.f22,zaB [],[13,6,2],false,Tryz.func22,by kernel_rfl⟩
theorem e89 {m:Int}:Ent m (89,f89):=.inl ⟨Tryz.f148,zaB [],[1],false,Tryz.func148,by kernel_rfl⟩
theorem e91 {m:Int}:Ent m (91,f91):=.inl ⟨Tryz.f146,zaB [],[],false,Tryz.func146,by kernel_rfl⟩
theorem e92 {m:Int}:Ent m (92,f92):=.inl ⟨Tryz.f147,zaB [],[],false,Tryz.func147,by kernel_rfl⟩
theorem e95 {m:Int}:Ent m (95,f95):=.inl ⟨Tryz.f81,zaB [],[],false,Tryz.func81,by kernel_rfl⟩
theorem e96 {m:Int}:Ent m (96,f96):=.inl ⟨Tryz.f82,zaB [],[],false,Tryz.func82,by kernel_rfl⟩
theorem e97 {m:Int}:Ent m (97,f97):=.inl ⟨Tryz.f83,zaB [],[5],true,Tryz.func83,by kernel_rfl⟩
theorem e98 {m:Int}:Ent m (98,f98):=.inl ⟨Tryz.f84,zaB [],[1],false,Tryz.func84,by kernel_rfl⟩
theorem e99 {m:Int}:Ent m (99,f99):=.inl ⟨Tryz.f85,zaB [],[5,4],false,Tryz.func85,by kernel_rfl⟩
theorem zFf {m:Int}:Ent m (100,f100):=.inl ⟨Tryz.f86,zaB [],[2],false,Tryz.func86,by kernel_rfl⟩
theorem zFe {m:Int}:Ent m (101,f101):=.inl ⟨Tryz.f87,zaB [],[],false,Tryz.func87,by kernel_rfl⟩
theorem zFd {m:Int}:Ent m (102,f102):=.inl ⟨Tryz.f88,zaB [],[],false,Tryz.func88,by kernel_rfl⟩
theorem zFc {m:Int}:Ent m (103,f103):=.inl ⟨Tryz.f89,zaB [],[],false,Tryz.func89,by kernel_rfl⟩
theorem zFb {m:Int}:Ent m (104,f104):=.inl ⟨Tryz.f90,zaB [],[],false,Tryz.func90,by kernel_rfl⟩
theorem zFa {m:Int}:Ent m (105,f105):=.inl ⟨Tryz.f91,zaB [],[13,12,7,6,4],false,Tryz.func91,by kernel_rfl⟩
theorem zE9 {m:Int}:Ent m (106,f106):=.inl ⟨Tryz.f92,zaB [],[],false,Tryz.func92,by kernel_rfl⟩
theorem zE8 {m:Int}:Ent m (107,f107):=.inl ⟨Tryz.f93,zaB [],[],false,Tryz.func93,by kernel_rfl⟩
theorem zE7 {m:Int}:Ent m (108,f108):=.inl ⟨Tryz.f94,zaB [],[2],false,Tryz.func94,by kernel_rfl⟩
theorem zE6 {m:Int}:Ent m (109,f109):=.inl ⟨Tryz.f41,zaB [],[],false,Tryz.func41,by kernel_rfl⟩
theorem zE5 {m:Int}:Ent m (110,f110):=.inl ⟨Tryz.f43,zaB [],[],false,Tryz.func43,by kernel_rfl⟩
theorem zE4 {m:Int}:Ent m (111,f111):=.inl ⟨Tryz.f44,zaB [],[1],false,Tryz.func44,by kernel_rfl⟩
theorem zE3 {m:Int}:Ent m (112,f112):=.inl ⟨Tryz.f45,zaB [],[5,4],false,Tryz.func45,by kernel_rfl⟩
theorem zE2 {m:Int}:Ent m (113,f113):=.inl ⟨Tryz.f46,zaB [],[],false,Tryz.func46,by kernel_rfl⟩
theorem zE1 {m:Int}:Ent m (114,f114):=.inl ⟨Tryz.f47,zaB [],[5,3],false,Tryz.func47,by kernel_rfl⟩
theorem zE0 {m:Int}:Ent m (115,f115):=.inl ⟨Tryz.f49,zaB [],[5,4],false,Tryz.func49,by kernel_rfl⟩
theorem zEZ {m:Int}:Ent m (116,f116):=.inl ⟨Tryz.f171,zaB [],[],false,Tryz.func171,by kernel_rfl⟩
theorem zEV {m:Int}:Ent m (131,f131):=.inl ⟨Tryz.f127,zaB [],[],false,Tryz.func127,by kernel_rfl⟩
theorem zEU {m:Int}:Ent m (132,f132):=.inl ⟨Tryz.f128,zaB [],[],false,Tryz.func128,by kernel_rfl⟩
theorem zET {m:Int}:Ent m (133,f133):=.inl ⟨Tryz.f129,zaB [],[],false,Tryz.func129,by kernel_rfl⟩
theorem zES {m:Int}:Ent m (134,f134):=.inl ⟨Tryz.f130,zaB [],[],false,Tryz.func130,by kernel_rfl⟩
theorem zER {m:Int}:Ent m (135,f135):=.inl ⟨Tryz.f131,zaB [],[0],false,Tryz.func131,by kernel_rfl⟩
theorem zEQ {m:Int}:Ent m (136,f136):=.inl ⟨Tryz.f133,zaB [],[],true,Tryz.func133,by kernel_rfl⟩
theorem zEP {m:Int}:Ent m (137,f137):=.inl ⟨Tryz.f69,zaB [],[12,5,3],false,Tryz.func69,by kernel_rfl⟩
theorem zEO {m:Int}:Ent m (138,f138):=.inl ⟨Tryz.f72,zaB [],[1],false,Tryz.func72,by kernel_rfl⟩
theorem zEN {m:Int}:Ent m (145,f145):=.inl ⟨Tryz.f158,zaB [],[],false,Tryz.func158,by kernel_rfl⟩
theorem zEM {m:Int}:Ent m (146,f146):=.inl ⟨Tryz.f159,zaB [],[],false,Tryz.func159,by kernel_rfl⟩
theorem zEL {m:Int}:Ent m (147,f147):=.inl ⟨Tryz.f160,zaB [],[5,3],false,Tryz.func160,by kernel_rfl⟩
theorem zEK {m:Int}:Ent m (148,f148):=.inl ⟨Tryz.f161,zaB [],[11,9,5,3],false,Tryz.func161,by kernel_rfl⟩
theorem zEJ {m:Int}:Ent m (149,f149):=.inl ⟨Tryz.f162,zaB [],[5],false,Tryz.func162,by kernel_rfl⟩
theorem zEI {m:Int}:Ent m (150,f150):=.inl ⟨Tryz.f163,zaB [],[5,3],false,Tryz.func163,by kernel_rfl⟩
theorem zEH {m:Int}:Ent m (151,f151):=.inl ⟨Tryz.f164,zaB [],[5,3],false,Tryz.func164,by kernel_rfl⟩
theorem zEG {m:Int}:Ent m (152,zJe):=.inl ⟨Tryz.f165,zaB [],[5,3],false,Tryz.func165,by kernel_rfl⟩
theorem zEF {m:Int}:Ent m (153,zJd):=.inl ⟨Tryz.f166,zaB [],[5,3],false,Tryz.func166,by kernel_rfl⟩
theorem zEE {m:Int}:Ent m (154,zJc):=.inl ⟨Tryz.f107,zaB [],[3],false,Tryz.func107,by kernel_rfl⟩
theorem zED {m:Int}:Ent m (155,zJb):=.inl ⟨Tryz.f108,zaB [],[2],false,Tryz.func108,by kernel_rfl⟩
theorem zEC {m:Int}:Ent m (156,zJa):=.inl ⟨Tryz.f109,zaB [],[3,2],false,Tryz.func109,by kernel_rfl⟩
theorem zEB {m:Int}:Ent m (157,zI9):=.inl ⟨Tryz.f110,zaB [],[0],false,Tryz.func110,by kernel_rfl⟩
theorem zEA {m:Int}:Ent m (158,f158):=.inl ⟨Tryz.f112,zaB [],[3],true,Tryz.func112,by kernel_rfl⟩
theorem zEz {m:Int}:Ent m (159,f159):=.inl ⟨Tryz.f113,zaB [],[],false,Tryz.func113,by kernel_rfl⟩
theorem zEy {m:Int}:Ent m (161,f161):=.inl ⟨Tryz.f178,zaB [],[6,2],false,Tryz.func178,by kernel_rfl⟩
theorem zEx {m:Int}:Ent m (162,f162):=.inl ⟨Tryz.f179,zaB [],[6],false,Tryz.func179,by kernel_rfl⟩
theorem zEw {m:Int}:Ent m (163,f163):=.inl ⟨Tryz.f180,zaB [],[2],false,Tryz.func180,by kernel_rfl⟩
theorem zEv {m:Int}:Ent m (164,f164):=.inl ⟨Tryz.f181,zaB [],[],false,Tryz.func181,by kernel_rfl⟩
theorem zEu {m:Int}:Ent m (165,f165):=.inl ⟨Tryz.f182,zaB [],[1],false,Tryz.func182,by kernel_rfl⟩
theorem zEt {m:Int}:Ent m (166,f166):=.inl ⟨Tryz.f185,zaB [],[1],false,Tryz.func185,by kernel_rfl⟩
theorem zEq {m:Int}:Ent m (180,f180):=.inl ⟨Tryz.f66,zaB [],[6,4],false,Tryz.func66,by kernel_rfl⟩
theorem zEo {m:Int}:Ent m (187,zAE):=.inl ⟨Tryz.f97,zaB [],[6,5,3],false,Tryz.func97,by kernel_rfl⟩
theorem zEn {m:Int}:Ent m (188,zIZ):=.inl ⟨Tryz.f100,zaB [],[7,2],false,Tryz.func100,by kernel_rfl⟩
theorem zEm {m:Int}:Ent m (189,zIY):=.inl ⟨Tryz.f101,zaB [],[9,4],false,Tryz.func101,by kernel_rfl⟩
theorem zEl {m:Int}:Ent m (190,zIX):=.inl ⟨Tryz.f98,zaB [],[],false,Tryz.func98,by kernel_rfl⟩
theorem zEk {m:Int}:Ent m (191,zIW):=.inl ⟨Tryz.f99,zaB [],[7,6,3],false,Tryz.func99,by kernel_rfl⟩
theorem zEj {m:Int}:Ent m (192,zIu):=.inl ⟨Tryz.f102,zaB [],[11,9,8,7,6,4,3],false,Tryz.func102,by kernel_rfl⟩
theorem zEg {m:Int}:Ent m (195,zIV):=.inl ⟨Tryz.f138,zaB [],[1],false,Tryz.func138,by kernel_rfl⟩
theorem zEf {m:Int}:Ent m (196,zIU):=.inl ⟨Tryz.f139,zaB [],[11,9,3,2],false,Tryz.func139,by kernel_rfl⟩
theorem zEe {m:Int}:Ent m (198,zJO):=.inr ⟨.cloneI,rfl,zsN Tryz.lays2n15 (by kernel_rfl) (rf:=Tryz.f145) ⟨Tryz.func145,by kernel_rfl,by kernel_rfl⟩⟩
theorem zEd {m:Int}:Ent m (199,zIt):=.inl ⟨Tryz.f143,zaB [],[3],true,Tryz.func143,by kernel_rfl⟩
theorem zEc {m:Int}:Ent m (200,zIT):=.inl ⟨Tryz.f140,zaB [37],[6],true,Tryz.func140,by kernel_rfl⟩
theorem zEb {m:Int}:Ent m (201,zIS):=.inl ⟨Tryz.f141,zaB [],[6,3],false,Tryz.func141,by kernel_rfl⟩
theorem zEa {m:Int}:Ent m (202,zAD):=.inl ⟨Tryz.f142,zaB [],[7,3,2,1],true,Tryz.func142,by kernel_rfl⟩
theorem zD9 {m:Int}:Ent m (203,f203):=.inl ⟨Tryz.f144,zaB [],[],true,Tryz.func144,by kernel_rfl⟩
theorem zD7 {m:Int}:Ent m (205,zAA):=.inl ⟨Tryz.f170,zaB [],[7,3,2],false,Tryz.func170,by kernel_rfl⟩
theorem zD6 {m:Int}:Ent m (206,zIR):=.inl ⟨Tryz.f116,zaB [],[],false,Tryz.func116,by kernel_rfl⟩
theorem zD5 {m:Int}:Ent m (207,zIQ):=.inl ⟨Tryz.f149,zaB [],[],false,Tryz.func149,by kernel_rfl⟩
theorem zCM {m:Int}:Ent m (240,f240):=.inr ⟨.itoa,rfl,zu2 Tryz.laysM171 (by kernel_rfl) (q:=2) (j:=2) (by kernel_rfl) rfl (by kernel_rfl) (rf:=Tryz.f56) ⟨Tryz.func56,by kernel_rfl,by kernel_rfl⟩⟩
theorem zKf {m:Int}:Ent m (246,f246):=.inr ⟨.bldG,rfl,zAK Tryz.lays169 Tryz.bx156 (by kernel_rfl) (by kernel_rfl) (by kernel_rfl) (rf:=Tryz.f55) ⟨Tryz.func55,by kernel_rfl,by kernel_rfl⟩⟩
theorem zKe {m:Int}:Ent m (258,zJL):=.inr ⟨.bldS,rfl,zAJ Tryz.lays166 Tryz.bx156 (by kernel_rfl) (by kernel_rfl) (by kernel_rfl) (rf:=Tryz.f54) ⟨Tryz.func54,by kernel_rfl,by kernel_rfl⟩⟩
theorem zKb {m:Int}:Ent m (443,zIN):=.inl ⟨Tryz.f5,zaB [],[4,1],false,Tryz.func5,by kernel_rfl⟩
theorem zJ9 {m:Int}:Ent m (445,zIM):=.inl ⟨Tryz.f11,zaB [],[3],false,Tryz.func11,by kernel_rfl⟩
theorem zJ7 {m:Int}:Ent m (447,zIK):=.inl ⟨Tryz.f9,zaB [],[5],false,Tryz.func9,by kernel_rfl⟩
theorem zJ6 {m:Int}:Ent m (448,zIs):=.inl ⟨Tryz.f10,zaB [],[12],false,Tryz.func10,by kernel_rfl⟩
theorem zJ5 {m:Int}:Ent m (449,zIJ):=.inl ⟨Tryz.f13,zaB [],[],false,Tryz.func13,by kernel_rfl⟩
theorem zJ3 {m:Int}:Ent m (451,zIH):=.inl ⟨Tryz.f17,zaB [],[7,1],false,Tryz.func17,by kernel_rfl⟩
theorem zJZ {m:Int}:Ent m (455,zID):=.inl ⟨Tryz.f33,zaB [],[],true,Tryz.func33,by kernel_rfl⟩
theorem zJY {m:Int}:Ent m (456,zIC):=.inl ⟨Tryz.f27,zaB [],[1],false,Tryz.func27,by kernel_rfl⟩
theorem zJX {m:Int}:Ent m (457,zIB):=.inl ⟨Tryz.f28,zaB [],[9],false,Tryz.func28,by kernel_rfl⟩
theorem zJW {m:Int}:Ent m (458,zIA):=.inl ⟨Tryz.f29,zaB [],[1],false,Tryz.func29,by kernel_rfl⟩
theorem zJV {m:Int}:Ent m (459,zJK):=.inr ⟨.cutS,rfl,zJR Tryz.laysM145.ton145 (by kernel_rfl) (j:=3) (by kernel_rfl) rfl (rf:=Tryz.f30) ⟨Tryz.func30,by kernel_rfl,by kernel_rfl⟩⟩
theorem zJU {m:Int}:Ent m (460,zIz):=.inl ⟨Tryz.f31,zaB [],[9,4],false,Tryz.func31,by kernel_rfl⟩
theorem zJT {m:Int}:Ent m (461,zIy):=.inl ⟨Tryz.f64,zaB [14,33],[8,5],true,Tryz.func64,by kernel_rfl⟩
theorem zJS {m:Int}:Ent m (463,zIr):=.inl ⟨Tryz.f58,zaB [],[],false,Tryz.func58,by kernel_rfl⟩
theorem zOf {m:Int}:Ent m (469,zNA):=.inl ⟨Tryz.f3,zaB [],[26,23,3],false,Tryz.func3,by kernel_rfl⟩
theorem zOe {m:Int}:Ent m (470,zNz):=.inl ⟨Tryz.f4,zaB [],[4,1],false,Tryz.func4,by kernel_rfl⟩
theorem zOd {m:Int}:Ent m (471,zM3):=.inl ⟨Tryz.f7,zaB [],[3],false,Tryz.func7,by kernel_rfl⟩
theorem zOc {m:Int}:Ent m (472,zNy):=.inl ⟨Tryz.f8,zaB [],[3],false,Tryz.func8,by kernel_rfl⟩
theorem zOb {m:Int}:Ent m (473,zNx):=.inl ⟨Tryz.f12,zaB [],[6,3],false,Tryz.func12,by kernel_rfl⟩
theorem zOa {m:Int}:Ent m (474,zMJ):=.inl ⟨Tryz.f14,zaB [],[12,11,10,9,7,4],false,Tryz.func14,by kernel_rfl⟩
theorem zN9 {m:Int}:Ent m (475,zNw):=.inl ⟨Tryz.f15,zaB [],[0],false,Tryz.func15,by kernel_rfl⟩
theorem zN8 {m:Int}:Ent m (476,zNv):=.inl ⟨Tryz.f23,zaB [],[],false,Tryz.func23,by kernel_rfl⟩
theorem zN7 {m:Int}:Ent m (477,zNu):=.inl ⟨Tryz.f24,zaB [],[],false,Tryz.func24,by kernel_rfl⟩
theorem zN6 {m:Int}:Ent m (478,zNG):=.inr ⟨.cloneT 3,rfl,zMe Tryz.lays41_25 rfl rfl rfl rfl rfl (by decide) (fun _=>rfl) (by decide) (by kernel_rfl) (rf:=Tryz.f25) ⟨Tryz.func25,by kernel_rfl,by kernel_rfl⟩⟩
theorem zN5 {m:Int}:Ent m (479,zNt):=.inl ⟨Tryz.f26,zaB [],[10,3],false,Tryz.func26,by kernel_rfl⟩
theorem zN4 {m:Int}:Ent m (480,zNs):=.inl ⟨Tryz.f35,zaB [],[6,3,2],false,Tryz.func35,by kernel_rfl⟩
theorem zN3 {m:Int}:Ent m (481,zNr):=.inl ⟨Tryz.f37,zaB [],[3],false,Tryz.func37,by kernel_rfl⟩
theorem zN2 {m:Int}:Ent m (482,zMI):=.inl ⟨Tryz.f50,zaB [],[],false,Tryz.func50,by kernel_rfl⟩
theorem zN1 {m:Int}:Ent m (483,zNq):=.inl ⟨Tryz.f51,zaB [18,60],[7,5],true,Tryz.func51,by kernel_rfl⟩
theorem zN0 {m:Int}:Ent m (484,zNp):=.inl ⟨Tryz.f52,zaB [],[9],false,Tryz.func52,by kernel_rfl⟩
theorem zNZ {m:Int}:Ent m (485,zNo):=.inl ⟨Tryz.f53,zaB [],[0],true,Tryz.func53,by kernel_rfl⟩
theorem zNY {m:Int}:Ent m (486,zNn):=.inl ⟨Tryz.f73,zaB [],[6,3],false,Tryz.func73,by kernel_rfl⟩
theorem zNX {m:Int}:Ent m (487,zNm):=.inl ⟨Tryz.f74,zaB [],[],false,Tryz.func74,by kernel_rfl⟩
theorem zNW {m:Int}:Ent m (488,zNl):=.inl ⟨Tryz.f75,zaB [],[8,5],false,Tryz.func75,by kernel_rfl⟩
theorem zNV {m:Int}:Ent m (489,zNk):=.inl ⟨Tryz.f76,zaB [],[6,5],false,Tryz.func76,by kernel_rfl⟩
theorem zNU {m:Int}:Ent m (490,zNj):=.inl ⟨Tryz.f77,zaB [],[7,5],false,Tryz.func77,by kernel_rfl⟩
theorem zNT {m:Int}:Ent m (491,zNi):=.inl ⟨Tryz.f114,zaB [],[],false,Tryz.func114,by kernel_rfl⟩
theorem zNS {m:Int}:Ent m (492,zNh):=.inl ⟨Tryz.f115,zaB [],[2],false,Tryz.func115,by kernel_rfl⟩
theorem zNR {m:Int}:Ent m (493,zNg):=.inl ⟨Tryz.f117,zaB [],[4],false,Tryz.func117,by kernel_rfl⟩
theorem zNQ {m:Int}:Ent m (494,zNf):=.inl ⟨Tryz.f118,zaB [],[1],false,Tryz.func118,by kernel_rfl⟩
theorem zNP {m:Int}:Ent m (495,zNe):=.inl ⟨Tryz.f119,zaB [],[2],false,Tryz.func119,by kernel_rfl⟩
theorem zNO {m:Int}:Ent m (496,zNd):=.inl ⟨Tryz.f120,zaB [],[],false,Tryz.func120,by kernel_rfl⟩
theorem zNN {m:Int}:Ent m (497,zNc):=.inl ⟨Tryz.f150,zaB [],[],false,Tryz.func150,by kernel_rfl⟩
theorem zNM {m:Int}:Ent m (498,zNb):=.inl ⟨Tryz.f151,zaB [],[],false,Tryz.func151,by kernel_rfl⟩
theorem zNL {m:Int}:Ent m (499,zNa):=.inl ⟨Tryz.f172,zaB [],[],false,Tryz.func172,by kernel_rfl⟩
theorem zNK {m:Int}:Ent m (500,zM2):=.inl ⟨Tryz.f203,zaB [],[],true,Tryz.func203,by kernel_rfl⟩
theorem all {m:Int}: ∀q∈zBg,Ent m q:=by
 unfold zBg;simp only[List.forall_mem_cons];exact⟨e12,e18,e23,e24,e27,e33,e38,e43,e44,e45,e47,e48,e49,e51,e56,e60,e61,e62,e63,e64,e65,e67,e68,e70,e71,e72,e73,e76,e77,e78,e79,e80,e81,e82,e83,e84,e85,e86,e87,e88,e89,e91,e92,e95,e96,e97,e98,e99,zFf,zFe,zFd,zFc,zFb,zFa,zE9,zE8,zE7,zE6,zE5,zE4,zE3,zE2,zE1,zE0,zEZ,zEV,zEU,zET,zES,zER,zEQ,zEP,zEO,zEN,zEM,zEL,zEK,zEJ,zEI,zEH,zEG,zEF,zEE,zED,zEC,zEB,zEA,zEz,zEy,zEx,zEw,zEv,zEu,zEt,zEq,zEo,zEn,zEm,zEl,zEk,zEj,zEg,zEf,zEe,zEd,zEc,zEb,zEa,zD9,zD7,zD6,zD5,zCM,zKf,zKe,zKb,zJ9,zJ7,zJ6,zJ5,zJ3,zJZ,zJY,zJX,zJW,zJV,zJU,zJT,zJS,zOf,zOe,zOd,zOc,zOb,zOa,zN9,zN8,zN7,zN6,zN5,zN4,zN3,zN2,zN1,zN0,zNZ,zNY,zNX,zNW,zNV,zNU,zNT,zNS,zNR,zNQ,zNP,zNO,zNN,zNM,zNL,zNK,fun _ h=>by cases h⟩
end Seat
end Rg
end
section
namespace Rg
open Go
abbrev ti (n:Int):T:=.int .i64 n
abbrev tb (b:Bool):T:=.bool b
abbrev ints (l:List Int):T:=.sl (l.map fun n=>[ti n])
@[go_sem]theorem zFu (a b:Int):(a==b)=decide (a=b):=by by_cases h:a=b<;>simp[h]
@[go_sem]theorem zFt (a b:Int):(a != b)=decide (¬a=b):=by by_cases h:a=b<;>simp[h]
@[go_sem]theorem zFq:IntKind.i64.wrap 0=0:=by rw[IntKind.wrap_i64];rfl
@[go_sem]theorem zFp:IntKind.i64.wrap 1=1:=by rw[IntKind.wrap_i64];rfl
@[go_sem]theorem zFo:IntKind.i64.wrap 2=2:=by rw[IntKind.wrap_i64];rfl
@[go_sem]theorem zFn:IntKind.i64.wrap 3=3:=by rw[IntKind.wrap_i64];rfl
inductive Expr where
 | mk (op w n:Int) (kids:List Expr)
 deriving Inhabited
namespace Expr
def op:Expr->Int | .mk o _ _ _=>o
def w:Expr->Int | .mk _ w _ _=>w
def n:Expr->Int | .mk _ _ n _=>n
def kids:Expr->List Expr | .mk _ _ _ k=>k
@[go_sem]theorem op_mk (o w n:Int) (k:List Expr):(Expr.mk o w n k).op=o:=rfl
@[go_sem]theorem w_mk (o w n:Int) (k:List Expr):(Expr.mk o w n k).w=w:=rfl
@[go_sem]theorem n_mk (o w n:Int) (k:List Expr):(Expr.mk o w n k).n=n:=rfl
@[go_sem]theorem kids_mk (o w n:Int) (k:List Expr):(Expr.mk o w n k).kids=k:=rfl
mutual
def enc:Expr->List T
 | .mk o w n k=>[ti o,ti w,ti n,.sl (zAM k)]
def zAM:List Expr->List (List T)
 | []=>[]
 | e::r=>enc e::zAM r
end
theorem zsW: ∀l:List Expr,zAM l=l.map enc
 | []=>rfl
 | e::r=>by rw[zAM,zsW r];rfl
theorem enc_eq (e:Expr):e.enc=[ti e.op,ti e.w,ti e.n,.sl (e.kids.map enc)]:=by
 cases e;simp only[enc,zsW,op,w,n,kids]
mutual
def size:Expr->Nat
 | .mk _ _ _ k=>ztT k+1
def ztT:List Expr->Nat
 | []=>0
 | e::r=>size e+ztT r
end
theorem zoR: ∀l:List Expr,ztT l=(l.map size).sum
 | []=>rfl
 | e::r=>by rw[ztT,zoR r];rfl
theorem size_eq (e:Expr):e.size=(e.kids.map size).sum+1:=by
 cases e;simp only[size,zoR,kids]
theorem size_pos (e:Expr):0<e.size:=by rw[size_eq];omega
theorem size_kid {e k:Expr} (h:k∈e.kids):k.size<e.size:=by
 rw[size_eq e]
 have:k.size<=(e.kids.map size).sum:=by
  generalize e.kids=l at h
  induction l with
  | nil=>simp at h
  | cons x r ih=>
    simp only[List.map_cons,List.sum_cons];rcases List.mem_cons.1 h with rfl | h
    ·omega
    ·have:=ih h;omega
 omega
theorem ind {P:Expr->Prop} (h: ∀e:Expr,(∀k∈e.kids,P k)->P e): ∀e,P e:=by
 intro e
 generalize hn:e.size=n
 induction n using Nat.strongRecOn generalizing e with
 | _ n ih=>exact h e fun k hk=>ih k.size (by have:=size_kid hk;omega) k rfl
mutual
def allE (f:Expr->Bool):Expr->Bool
 | .mk o w n k=>f (.mk o w n k)&&zvw f k
def zvw (f:Expr->Bool):List Expr->Bool
 | []=>true
 | e::r=>allE f e&&zvw f r
end
theorem zpV (f:Expr->Bool): ∀l:List Expr,zvw f l=l.all (allE f)
 | []=>rfl
 | e::r=>by rw[zvw,zpV f r];rfl
theorem allE_eq (f:Expr->Bool) (e:Expr):allE f e=(f e&&e.kids.all (allE f)):=by
 cases e;simp only[allE,zpV,kids]
theorem allE_self {f:Expr->Bool} {e:Expr} (h:allE f e=true):f e=true:=by
 rw[allE_eq]at h;simp only[zF]at h;exact h.1
theorem allE_kid {f:Expr->Bool} {e k:Expr} (h:allE f e=true) (hk:k∈e.kids):allE f k=true:=by
 rw[allE_eq]at h;simp only[zF,zN]at h;exact h.2 k hk
theorem len_le_size (ks:List Expr):ks.length<=(ks.map size).sum:=by
 induction ks with
 | nil=>simp
 | cons x r ih=>have:=size_pos x;simp only[List.length_cons,List.map_cons,List.sum_cons];omega
theorem take_le_size (ks:List Expr) (i:Nat):((ks.take i).map size).sum<=(ks.map size).sum:=by
 induction ks generalizing i with
 | nil=>simp
 | cons x r ih=>cases i with
   | zero=>simp
   | succ i=>have:=ih i;simp only[List.take_succ_cons,List.map_cons,List.sum_cons];omega
def kw (e:Expr) (i:Nat):Int:=(e.kids.getD i (.mk 0 0 0 [])).w
end Expr
structure Cell where
 name:ByteArray
 w:Int
 init:Int
 thread:Int
 ghost:Bool
 module:Int
 deriving Inhabited
def Cell.enc (c:Cell):List T:=[.str c.name,ti c.w,ti c.init,ti c.thread,tb c.ghost,ti c.module]
structure Assign where
 cell:Int
 to:Expr
 deriving Inhabited
def Assign.enc (a:Assign):List T:=ti a.cell::a.to.enc
structure Step where
 kind:Int
 fr:Int
 to:Int
 guard:Expr
 set:List Assign
 release:Bool
 target:Int
 module:Int
 deriving Inhabited
def Step.enc (s:Step):List T:=[ti s.kind,ti s.fr,ti s.to]++s.guard.enc++[.sl (s.set.map Assign.enc),tb s.release,ti s.target,ti s.module]
structure Loop where
 head:Int
 body:List Int
 variant:Expr
 deriving Inhabited
def Loop.enc (l:Loop):List T:=[ti l.head,ints l.body]++l.variant.enc
structure Thread where
 name:ByteArray
 points:Int
 asserts:List Expr
 modules:List Int
 steps:List Step
 loops:List Loop
 asleep:Bool
 deriving Inhabited
def Thread.enc (t:Thread):List T:=
 [.str t.name,ti t.points,.sl (t.asserts.map Expr.enc),ints t.modules,.sl (t.steps.map Step.enc),.sl (t.loops.map Loop.enc),tb t.asleep]
structure Contract where
 name:ByteArray
 owner:ByteArray
 rely:Expr
 guar:Expr
 frame:List Int
 deriving Inhabited
def Contract.enc (c:Contract):List T:=[.str c.name,.str c.owner]++c.rely.enc++c.guar.enc++[ints c.frame]
structure Lock where
 cell:Int
 inv:Expr
 module:Int
 deriving Inhabited
def Lock.enc (l:Lock):List T:=[ti l.cell]++l.inv.enc++[ti l.module]
structure Prog where
 cells:List Cell
 modules:List Contract
 locks:List Lock
 threads:List Thread
 deriving Inhabited
def Prog.enc (p:Prog):List T:=[.sl (p.cells.map Cell.enc),.sl (p.modules.map Contract.enc),.sl (p.locks.map Lock.enc),.sl (p.threads.map Thread.enc)]
structure Entry where
 cells:List Int
 values:List Int
 deriving Inhabited,DecidableEq
def Entry.enc (e:Entry):List T:=[ints e.cells,ints e.values]
structure Config where
 mem:List Int
 at_:List Int
 buf:List (List Entry)
 deriving Inhabited,DecidableEq
def Config.enc (c:Config):List T:=[ints c.mem,ints c.at_,.sl (c.buf.map fun b=>[.sl (b.map Entry.enc)])]
structure Choice where
 thread:Int
 step:Int
 cell:Int
 deriving Inhabited,DecidableEq
def Choice.enc (c:Choice):List T:=[ti c.thread,ti c.step,ti c.cell]
attribute [go_sem] Expr.enc_eq Cell.enc Assign.enc Step.enc Loop.enc Thread.enc Contract.enc Lock.enc Prog.enc Entry.enc Config.enc Choice.enc
def ag (l:List T):V:=.agg (l.map V.t)
theorem zan (i:Nat) (h:i<2^62):IntKind.i64.wrap ((i:Int)+1)=((i+1:Nat):Int):=by rw[zaH (by omega)];omega
theorem zaf {α:Type} {l:List α} {i:Nat} {x:α} (h:l[i]? =some x):l.take (i+1)=l.take i++[x]:=by
 rw[List.take_add_one,h];rfl
theorem zes {i k:Nat} (h:i<=k):(2:Int)^i<=2^k:=by
 have:=Nat.pow_le_pow_right (n:=2) (by omega) h
 exact_mod_cast this
theorem zcn (i:Nat):0<(2:Int)^i:=Int.pow_pos (by omega)
theorem zai {α:Type} {l:List α} {i:Nat} (h:i<l.length): ∃x,l[i]? =some x/\x∈l:=⟨l[i],zI h,List.getElem_mem h⟩
end Rg
end
section
namespace Rg
open Go
section
variable {H:Type} (enc:TypeId×Value->H) (P:Program) (W:World) (nm:Nat->Nat)
def ztv (cs:List Value) (xs:List T):Prop:=
 cs.length=xs.length/\ ∀(j:Nat) (x:T),xs[j]? =some x-> ∃v,cs[j]? =some v/\RepT W (fun r=>r<W.heap.size) nm v x
def Rd {α:Type} (n:Nat) (t:TypeId) (f:α->List T) (good:α->Prop):Prop:=
 ∀(cs:List Value) (x:DataW H×List MemPlace),DataW.trod enc P W 0 (fun _=>true) true n t cs=some x->(x.1.weights P t).all (· <=reachBytes)=true-> ∃a,good a/\ztv W nm cs (f a)
def RdF {α:Type} (n tot:Nat) (fs:List (TypeId×Nat)) (off:Nat) (f:α->List T) (good:α->Prop):Prop:=
 ∀(cs:List Value) (xs:List (DataW H×List MemPlace)),cs.length=tot->xs.length=fs.length->
  (∀(i:Nat) (fd:TypeId×Nat),fs[i]? =some fd->DataW.trod enc P W 0 (fun _=>true) true n fd.1 ((cs.drop fd.2).take (P.cellsOf fd.1))=xs[i]?)->
  (DataW.weightsEach P (fs.map (·.1)) (xs.map (·.1))).all (· <=reachBytes)=true-> ∃a,good a/\ztv W nm (cs.drop off) (f a)
end
section
variable {H:Type} {enc:TypeId×Value->H} {P:Program} {W:World} {nm:Nat->Nat}
theorem ztv.one {v:Value} {x:T} (h:RepT W (fun r=>r<W.heap.size) nm v x):ztv W nm [v] [x]:=
 ⟨rfl,fun j y hj=>by
   cases j with
   | zero=>simp at hj;subst hj;exact⟨v,rfl,h⟩
   | succ j=>simp at hj⟩
theorem ztv.append {cs ds:List Value} {xs ys:List T} (h:ztv W nm cs xs) (h':ztv W nm ds ys):ztv W nm (cs++ds) (xs++ys):=by
 refine⟨by simp[h.1,h'.1],fun j x hj=> ?_⟩;rw[List.getElem?_append]at hj⊢;rw[h.1];split at hj
 ·rename_i Ad;rw[if_pos Ad];exact h.2 j x hj
 ·rename_i Ad;rw[if_neg Ad];exact h'.2 _ x hj
theorem zvJ {k:IntKind} {t:TypeId} (ht:P.underlying t=some (.int k)) (n:Nat):Rd enc P W nm n t (fun i:Int=>[.int k i]) (fun i=>(Lit.int k i).wf=true):=by
 intro cs x h _;obtain⟨i,rfl,_,hw⟩:=DataW.trod_int ht h;exact⟨i,hw,.one (.int k i)⟩
theorem zww {t:TypeId} (ht:P.underlying t=some .bool) (n:Nat):Rd enc P W nm n t (fun b:Bool=>[.bool b]) (fun _=>True):=by
 intro cs x h _;obtain⟨b,rfl,_⟩:=DataW.trod_bool ht h;exact⟨b,trivial,.one (.bool b)⟩
theorem zyj {t:TypeId} (ht:P.underlying t=some .string) (n:Nat):Rd enc P W nm n t (fun s:ByteArray=>[.str s]) (fun s=>s.size<=reachBytes):=by
 intro cs x h hw;obtain⟨s,rfl,rfl,_⟩:=DataW.trod_string ht h;refine⟨s,?_,.one (.str s)⟩;simp only[DataW.weights,List.all_cons,List.all_nil,Bool.and_true,decide_eq_true_eq]at hw;rw[Array.length_toList]at hw;exact hw
theorem zge {e:TypeId}: ∀{l:List (DataW H)},(DataW.weightsAll P e l).all (· <=reachBytes)=true-> ∀d∈l,(d.weights P e).all (· <=reachBytes)=true
 | [],_,d,hd=>by simp at hd
 | x::r,h,d,hd=>by
   rw[DataW.weightsAll,List.all_append,zF]at h;rcases List.mem_cons.1 hd with rfl | hd
   ·exact h.1
   ·exact zge h.2 d hd
theorem cells?_get {base:Nat} {a:Addr} {n:Nat} {cs:List Value} (h:W.cells? base a n=some cs):cs.length=n/\ ∀j,j<n->W.cell? (a.add j)=cs[j]? :=by
 unfold World.cells? at h;split at h
 ·exact⟨by simpa using mapM_some_length h,fun j hj=>by simpa using mapM_some_get h j j (by simp[hj])⟩
 ·simp at h
theorem cell?_spot {a:Addr} {v:Value} (h:W.cell? a=some v):a.spot=none/\a.block<W.heap.size:=by
 unfold World.cell? at h;split at h
 ·rename_i hb;split at h
  ·simp at h
  ·rename_i hs;refine⟨by cases Nf:a.spot<;>simp_all,?_⟩;have:=Array.getElem?_eq_some_iff.1 hb;exact this.1
 ·simp at h
theorem zjB {α:Type} {Q:Nat->α->Prop}: ∀(n:Nat),(∀i,i<n-> ∃a,Q i a)-> ∃l:List α,l.length=n/\ ∀(i:Nat) (a:α),l[i]? =some a->Q i a
 | 0,_=>⟨[],rfl,fun i a h=>by simp at h⟩
 | n+1,h=>by
   obtain⟨l,hl,hq⟩:=zjB n (fun i hi=>h i (by omega));obtain⟨a,ha⟩:=h n (by omega);refine⟨l++[a],by simp[hl],fun i b hb=> ?_⟩;rw[List.getElem?_append]at hb;split at hb
   ·exact hq i b hb
   ·rename_i Ad
    have:i=n:=by
     have:=(zH.1 hb).1;simp at this;omega
    subst this;simp[hl]at hb;exact hb▸ha
theorem zuj {α:Type} {t e:TypeId} {f:α->List T} {good:α->Prop} (ht:P.underlying t=some (.slice e)) (hb:0<P.bytesOf e) (hc:0<P.cellsOf e) (n:Nat) (h: ∀m,m<n->Rd enc P W nm m e f good):
 Rd enc P W nm n t (fun l:List α=>[.sl (l.map f)]) (fun l=>l.length<=reachBytes/\ ∀a∈l,good a):=by
 intro cs x FS hw;rcases DataW.trod_slice ht FS with⟨rfl,_⟩ | ⟨a,len,cap,elems,rest,m,rfl,rfl,rfl,_,Mv,_,M2,KL,_,_⟩
 ·exact⟨[],⟨by simp,by simp⟩,.one (.sl0 none 0)⟩
 ·simp only[DataW.weights,ht,List.all_cons,List.all_append,zF,decide_eq_true_eq,List.length_map]at hw
  have Fg: ∀i,i<len-> ∃b:α,good b/\ ∃ci,W.cells? 0 (a.add (i*P.cellsOf e)) (P.cellsOf e)=some ci/\ztv W nm ci (f b):=by
   intro i hi;have h1:=KL i hi;obtain⟨z,hz⟩: ∃z,elems[i]? =some z:=⟨_,zI (by omega)⟩
   rw[hz,zB]at h1;obtain⟨ci,Id,PM⟩:=h1;have MM:=zge hw.2.1 z.1 (List.mem_map.2 ⟨z,zL hz,rfl⟩);obtain⟨b,hg,hr⟩:=h m (by omega) ci z PM MM;exact⟨b,hg,ci,Id,hr⟩
  obtain⟨l,hl,hq⟩:=zjB len Fg;refine⟨l,⟨?_,fun b hb=> ?_⟩,.one ?_⟩
  ·have:elems.length*1<=(elems.length+rest.length)*P.bytesOf e:=Nat.mul_le_mul (by omega) hb;omega
  ·obtain⟨i,hi⟩:=List.getElem?_of_mem hb;exact(hq i b hi).1
  ·by_cases h0:len=0
   ·subst h0;have:l=[]:=List.length_eq_zero_iff.1 hl;subst this;exact .sl0 _ _
   ·have H5: ∀(i:Nat) (b:α),l[i]? =some b->(f b).length=P.cellsOf e:=by
     intro i b hi;obtain⟨_,ci,Id,hr⟩:=hq i b hi;rw[<- hr.1,(cells?_get Id).1]
    have AW: ∀(i j:Nat) (b:α),l[i]? =some b->j<P.cellsOf e-> ∃v,W.cell? ((a.add (i*P.cellsOf e)).add j)=some v/\ ∀x,(f b)[j]? =some x->RepT W (fun r=>r<W.heap.size) nm v x:=by
     intro i j b hi hj;obtain⟨_,ci,Id,hr⟩:=hq i b hi;have hg:=cells?_get Id;obtain⟨v,hv⟩: ∃v,ci[j]? =some v:=⟨_,zI (by omega)⟩
     refine⟨v,by rw[hg.2 j hj,hv],fun x hx=> ?_⟩;obtain⟨u,hu,Nj⟩:=hr.2 j x hx;rw[hv]at hu;cases hu;exact Nj
    obtain⟨b0,Co⟩: ∃b,l[0]? =some b:=⟨_,zI (by omega)⟩
    obtain⟨v0,Fz,_⟩:=AW 0 0 b0 Co hc;have DH:(a.add (0*P.cellsOf e)).add 0=a:=by simp[Addr.add]
    rw[DH]at Fz;obtain⟨Nf,LO⟩:=cell?_spot Fz;obtain⟨r,off,spot⟩:=a;simp only at Nf LO;subst Nf
    have Hk: ∀i j,((⟨r,off,none⟩:Addr).add (i*P.cellsOf e)).add j=⟨r,off+i*P.cellsOf e+j,none⟩:=by
     intro i j;unfold Addr.add;split<;>split<;>simp_all
    have Ac:(l.map f).length=len:=by simp[hl]
    rw[show Value.slice (some ⟨r,off,none⟩) len cap=Value.slice (some ⟨r,off,none⟩) (l.map f).length cap by rw[Ac]];refine .sl r off cap (P.cellsOf e) (l.map f) (fun i j=>(W.cell? ⟨r,off+i*P.cellsOf e+j,none⟩).getD .nilFunc) (by omega) (by omega) LO ?_ ?_ ?_
    ·intro i y hy;rw[zJ,zE]at hy;obtain⟨b,hb,rfl⟩:=hy;exact H5 i b hb
    ·intro i y j x hy hx;rw[zJ,zE]at hy;obtain⟨b,hb,rfl⟩:=hy;have hj:=(zH.1 hx).1;rw[H5 i b hb]at hj;obtain⟨v,hv,_⟩:=AW i j b hb hj;rw[Hk]at hv;rw[hv];rfl
    ·intro i y j x hy hx;rw[zJ,zE]at hy;obtain⟨b,hb,rfl⟩:=hy;have hj:=(zH.1 hx).1;rw[H5 i b hb]at hj;obtain⟨v,hv,hr⟩:=AW i j b hb hj;rw[Hk]at hv;rw[hv];exact hr x hx
theorem ze1 {n tot:Nat}:RdF enc P W nm n tot [] tot (fun _:Unit=>[]) (fun _=>True):=by
 intro cs xs hl _ _ _;refine⟨(),trivial,?_⟩;rw[List.drop_of_length_le (by omega)];exact⟨rfl,fun j x h=>by simp at h⟩
theorem zax {α β:Type} {n tot off sz:Nat} {t:TypeId} {fs:List (TypeId×Nat)} {f:α->List T} {good:α->Prop} {g:β->List T} {good':β->Prop}
 (AS:P.cellsOf t=sz) (h:Rd enc P W nm n t f good) (h':RdF enc P W nm n tot fs (off+sz) g good'):
 RdF enc P W nm n tot ((t,off)::fs) off (fun q:α×β=>f q.1++g q.2) (fun q=>good q.1/\good' q.2):=by
 intro cs xs hl Iq hx hw
 cases xs with
 | nil=>simp at Iq
 | cons x r=>
   have h0:=hx 0 (t,off) rfl;simp only[List.getElem?_cons_zero,AS]at h0;rw[List.map_cons,List.map_cons,DataW.weightsEach,List.all_append,zF]at hw;obtain⟨a,ha,Cu⟩:=h _ x h0 hw.1;obtain⟨b,hb,Eb⟩:=h' cs r hl (by simpa using Iq) (fun i fd hi=>by simpa using hx (i+1) fd (by simpa using hi)) hw.2;refine⟨(a,b),⟨ha,hb⟩,?_⟩;have:cs.drop off=(cs.drop off).take sz++cs.drop (off+sz):=by rw[<- List.drop_drop,List.take_append_drop]
   rw[this];exact Cu.append Eb
theorem zrU {α:Type} {t:TypeId} {fs:List (TypeId×Nat)} {tot:Nat} {f:α->List T} {good:α->Prop}
 (ht:(match P.underlying t with | some (.struct a)=>decide (a.toList.map (fun x=>(x.type,x.offset))=fs) | _=>false)=true) (PO:P.cellsOf t=tot) (n:Nat)
 (h: ∀m,m<n->RdF enc P W nm m tot fs 0 f good):Rd enc P W nm n t f good:=by
 intro cs x FS hw;split at ht
 ·rename_i a hu;rw[decide_eq_true_eq]at ht;obtain⟨xs,m,rfl,rfl,hl,Iq,hx⟩:=DataW.trod_struct hu FS;subst ht
  have:=h m (by omega) cs xs (by omega) (by simp[Iq]) (fun i fd hi=>by
   rw[zJ,zE]at hi;obtain⟨f',JO,rfl⟩:=hi
   exact hx i f' (by simpa using JO)) (by
   simp only[DataW.weights,hu]at hw;rw[List.map_map]
   exact hw)
  simpa using this
 ·simp at ht
theorem Rd.conv {α β:Type} {t:TypeId} {n:Nat} {f:α->List T} {good:α->Prop} {g:β->List T} {good':β->Prop} (h:Rd enc P W nm n t f good) (hc: ∀a,good a-> ∃b,good' b/\f a=g b):Rd enc P W nm n t g good':=by
 intro cs x FS hw;obtain⟨a,ha,hr⟩:=h cs x FS hw;obtain⟨b,hb,he⟩:=hc a ha;exact⟨b,hb,he▸hr⟩
end
end Rg
end
section
namespace Rg
open Go
structure Tys where
 int:Nat
 bool:Nat
 str:Nat
 u8:Nat
 ints:Nat
 bytes:Nat
 expr:Nat
 exprs:Nat
 cell:Nat
 cells:Nat
 assign:Nat
 assigns:Nat
 step:Nat
 steps:Nat
 loop:Nat
 loops:Nat
 thread:Nat
 threads:Nat
 contract:Nat
 contracts:Nat
 lock:Nat
 locks:Nat
 prog:Nat
 entry:Nat
 entries:Nat
 bufs:Nat
 config:Nat
 choice:Nat
def zc3 (P:Program) (t:TypeId) (k:IntKind):Bool:=(match P.underlying t with | some (.int k')=>decide (k'=k) | _=>false)&&decide (P.cellsOf t=1)
def zfx (P:Program) (t:TypeId):Bool:=(match P.underlying t with | some .bool=>true | _=>false)&&decide (P.cellsOf t=1)
def zii (P:Program) (t:TypeId):Bool:=(match P.underlying t with | some .string=>true | _=>false)&&decide (P.cellsOf t=1)
def zfl (P:Program) (t e:TypeId):Bool:=(match P.underlying t with | some (.slice e')=>decide (e'=e) | _=>false)&&decide (0<P.bytesOf e)&&decide (0<P.cellsOf e)&&decide (P.cellsOf t=1)
def zhU (P:Program) (t:TypeId) (tot:Nat) (fs:List (TypeId×Nat)):Bool:=
 (match P.underlying t with | some (.struct a)=>decide (a.toList.map (fun x=>(x.type,x.offset))=fs) | _=>false)&&decide (P.cellsOf t=tot)
structure Tys.Ok0 (P:Program) (y:Tys):Prop where
 int:zc3 P y.int .i64=true
 bool:zfx P y.bool=true
 str:zii P y.str=true
 u8:zc3 P y.u8 .u8=true
 ints:zfl P y.ints y.int=true
 expr:zhU P y.expr 4 [(y.int,0),(y.int,1),(y.int,2),(y.exprs,3)]=true
 exprs:zfl P y.exprs y.expr=true
 cell:zhU P y.cell 6 [(y.str,0),(y.int,1),(y.int,2),(y.int,3),(y.bool,4),(y.int,5)]=true
 cells:zfl P y.cells y.cell=true
 assign:zhU P y.assign 5 [(y.int,0),(y.expr,1)]=true
 assigns:zfl P y.assigns y.assign=true
 step:zhU P y.step 11 [(y.int,0),(y.int,1),(y.int,2),(y.expr,3),(y.assigns,7),(y.bool,8),(y.int,9),(y.int,10)]=true
 steps:zfl P y.steps y.step=true
 loop:zhU P y.loop 6 [(y.int,0),(y.ints,1),(y.expr,2)]=true
 loops:zfl P y.loops y.loop=true
 thread:zhU P y.thread 7 [(y.str,0),(y.int,1),(y.exprs,2),(y.ints,3),(y.steps,4),(y.loops,5),(y.bool,6)]=true
 threads:zfl P y.threads y.thread=true
 contract:zhU P y.contract 11 [(y.str,0),(y.str,1),(y.expr,2),(y.expr,6),(y.ints,10)]=true
 contracts:zfl P y.contracts y.contract=true
 lock:zhU P y.lock 6 [(y.int,0),(y.expr,1),(y.int,5)]=true
 locks:zfl P y.locks y.lock=true
 prog:zhU P y.prog 4 [(y.cells,0),(y.contracts,1),(y.locks,2),(y.threads,3)]=true
structure Tys.OkP (P:Program) (y:Tys):Prop extends y.Ok0 P where
 bytes:zfl P y.bytes y.u8=true
structure Tys.Ok (P:Program) (y:Tys):Prop extends y.OkP P where
 entry:zhU P y.entry 2 [(y.ints,0),(y.ints,1)]=true
 entries:zfl P y.entries y.entry=true
 bufs:zfl P y.bufs y.entries=true
 config:zhU P y.config 3 [(y.ints,0),(y.ints,1),(y.bufs,2)]=true
 choice:zhU P y.choice 3 [(y.int,0),(y.int,1),(y.int,2)]=true
section
variable {P:Program} {t e:TypeId} {k:IntKind}
theorem zc3.u (h:zc3 P t k=true):P.underlying t=some (.int k):=by
 simp only[zc3,zF]at h;have h:=h.1;split at h
 ·rename_i hu;rw[hu,of_decide_eq_true h]
 ·simp at h
theorem zc3.c (h:zc3 P t k=true):P.cellsOf t=1:=by
 simp only[zc3,zF,decide_eq_true_eq]at h;exact h.2
theorem zfx.u (h:zfx P t=true):P.underlying t=some .bool:=by
 simp only[zfx,zF]at h;have h:=h.1;split at h
 ·rename_i hu;exact hu
 ·simp at h
theorem zfx.c (h:zfx P t=true):P.cellsOf t=1:=by
 simp only[zfx,zF,decide_eq_true_eq]at h;exact h.2
theorem zii.u (h:zii P t=true):P.underlying t=some .string:=by
 simp only[zii,zF]at h;have h:=h.1;split at h
 ·rename_i hu;exact hu
 ·simp at h
theorem zii.c (h:zii P t=true):P.cellsOf t=1:=by
 simp only[zii,zF,decide_eq_true_eq]at h;exact h.2
theorem zfl.u (h:zfl P t e=true):P.underlying t=some (.slice e):=by
 simp only[zfl,zF]at h;have h:=h.1.1.1;split at h
 ·rename_i hu;rw[hu,of_decide_eq_true h]
 ·simp at h
theorem zfl.p (h:zfl P t e=true):0<P.bytesOf e/\0<P.cellsOf e/\P.cellsOf t=1:=by
 simp only[zfl,zF,decide_eq_true_eq]at h;exact⟨h.1.1.2,h.1.2,h.2⟩
theorem zfl.c (h:zfl P t e=true):P.cellsOf t=1:=(zfl.p h).2.2
theorem zhU.c {tot:Nat} {fs:List (TypeId×Nat)} (h:zhU P t tot fs=true):P.cellsOf t=tot:=by
 simp only[zhU,zF,decide_eq_true_eq]at h;exact h.2
end
section
variable {H:Type} {enc:TypeId×Value->H} {P:Program} {W:World} {nm:Nat->Nat} {y:Tys}
theorem zjX {α:Type} {t e:TypeId} {f:α->List T} {good:α->Prop} (h:zfl P t e=true) (n:Nat) (hr: ∀m,m<n->Rd enc P W nm m e f good):
 Rd enc P W nm n t (fun l:List α=>[.sl (l.map f)]) (fun l=>l.length<=reachBytes/\ ∀a∈l,good a):=zuj (zfl.u h) (zfl.p h).1 (zfl.p h).2.1 n hr
theorem zlk {α:Type} {t:TypeId} {fs:List (TypeId×Nat)} {tot:Nat} {f:α->List T} {good:α->Prop} (h:zhU P t tot fs=true) (n:Nat)
 (hr: ∀m,m<n->RdF enc P W nm m tot fs 0 f good):Rd enc P W nm n t f good:=by
 have hc:=zhU.c h;simp only[zhU,zF]at h;exact zrU h.1 hc n hr
theorem zkv (hy:y.Ok0 P) (n:Nat):Rd enc P W nm n y.int (fun i:Int=>[ti i]) (fun _=>True):=
 (zvJ (zc3.u hy.int) n).conv fun i _=>⟨i,trivial,rfl⟩
theorem zBr (hy:y.Ok0 P) (n:Nat):Rd enc P W nm n y.bool (fun b:Bool=>[tb b]) (fun _=>True):=zww (zfx.u hy.bool) n
theorem zzG (hy:y.Ok0 P) (n:Nat):Rd enc P W nm n y.str (fun s:ByteArray=>[.str s]) (fun s=>s.size<=reachBytes):=zyj (zii.u hy.str) n
theorem znR (hy:y.Ok0 P) (n:Nat):Rd enc P W nm n y.ints (fun l:List Int=>[ints l]) (fun l=>l.length<=reachBytes):=
 (zjX hy.ints n fun m _=>zkv hy m).conv fun l h=>⟨l,h.1,rfl⟩
theorem zyi (hy:y.Ok0 P) (n:Nat):Rd enc P W nm n y.u8 (fun i:Int=>[.int .u8 i]) (fun i=>0<=i/\i<256):=
 (zvJ (zc3.u hy.u8) n).conv fun i h=>⟨i,by simp[Lit.wf,IntKind.min,IntKind.max,IntKind.signed,IntKind.bits]at h;omega,rfl⟩
theorem zgx (hy:y.Ok0 P) (n:Nat):Rd enc P W nm n y.expr Expr.enc (fun _=>True):=by
 induction n using Nat.strongRecOn with
 | _ n ih=>
   refine(zlk hy.expr n fun m hm=>zax (zc3.c hy.int) (zkv hy m) (zax (zc3.c hy.int) (zkv hy m) (zax (zc3.c hy.int) (zkv hy m) (zax (zfl.c hy.exprs) (zjX hy.exprs m fun j hj=>ih j (by omega)) ze1)))).conv ?_;rintro⟨op,w,k,ks,u⟩ _;exact⟨.mk op w k ks,trivial,(Expr.enc_eq (.mk op w k ks)).symm⟩
theorem zuk (hy:y.Ok0 P) (n:Nat):Rd enc P W nm n y.exprs (fun l:List Expr=>[.sl (l.map Expr.enc)]) (fun l=>l.length<=reachBytes):=
 (zjX hy.exprs n fun m _=>zgx hy m).conv fun l h=>⟨l,h.1,rfl⟩
theorem zwv (hy:y.Ok0 P) (n:Nat):Rd enc P W nm n y.cell Cell.enc (fun c=>c.name.size<=reachBytes):=by
 refine(zlk hy.cell n fun m hm=>zax (zii.c hy.str) (zzG hy m) (zax (zc3.c hy.int) (zkv hy m) (zax (zc3.c hy.int) (zkv hy m) (zax (zc3.c hy.int) (zkv hy m) (zax (zfx.c hy.bool) (zBr hy m) (zax (zc3.c hy.int) (zkv hy m) ze1)))))).conv ?_;rintro⟨a,b,c,d,e,f,u⟩ h;exact⟨⟨a,b,c,d,e,f⟩,h.1,rfl⟩
theorem zrV (hy:y.Ok0 P) (n:Nat):Rd enc P W nm n y.assign Assign.enc (fun _=>True):=by
 refine(zlk hy.assign n fun m hm=>zax (zc3.c hy.int) (zkv hy m) (zax (zhU.c hy.expr) (zgx hy m) ze1)).conv ?_;rintro⟨a,b,u⟩ h;exact⟨⟨a,b⟩,trivial,by simp[Assign.enc]⟩
theorem zqg (hy:y.Ok0 P) (n:Nat):Rd enc P W nm n y.assigns (fun l:List Assign=>[.sl (l.map Assign.enc)]) (fun l=>l.length<=reachBytes):=
 (zjX hy.assigns n fun m _=>zrV hy m).conv fun l h=>⟨l,h.1,rfl⟩
theorem zwr (hy:y.Ok0 P) (n:Nat):Rd enc P W nm n y.step Step.enc (fun s=>s.set.length<=reachBytes):=by
 refine(zlk hy.step n fun m hm=>zax (zc3.c hy.int) (zkv hy m) (zax (zc3.c hy.int) (zkv hy m) (zax (zc3.c hy.int) (zkv hy m) (zax (zhU.c hy.expr) (zgx hy m) (zax (zfl.c hy.assigns) (zqg hy m) (zax (zfx.c hy.bool) (zBr hy m)
  (zax (zc3.c hy.int) (zkv hy m) (zax (zc3.c hy.int) (zkv hy m) ze1)))))))).conv ?_
 rintro⟨a,b,c,d,e,f,g,i,u⟩ h;exact⟨⟨a,b,c,d,e,f,g,i⟩,h.2.2.2.2.1,by simp[Step.enc]⟩
theorem zwt (hy:y.Ok0 P) (n:Nat):Rd enc P W nm n y.loop Loop.enc (fun x=>x.body.length<=reachBytes):=by
 refine(zlk hy.loop n fun m hm=>zax (zc3.c hy.int) (zkv hy m) (zax (zfl.c hy.ints) (znR hy m) (zax (zhU.c hy.expr) (zgx hy m) ze1))).conv ?_;rintro⟨a,b,c,u⟩ h;exact⟨⟨a,b,c⟩,h.2.1,by simp[Loop.enc]⟩
structure Thread.inMem (x:Thread):Prop where
 name:x.name.size<=reachBytes
 steps:x.steps.length<=reachBytes
 asserts:x.asserts.length<=reachBytes
 modules:x.modules.length<=reachBytes
 loops:x.loops.length<=reachBytes
 sets: ∀s∈x.steps,s.set.length<=reachBytes
 bodies: ∀l∈x.loops,l.body.length<=reachBytes
theorem zrT (hy:y.Ok0 P) (n:Nat):Rd enc P W nm n y.thread Thread.enc Thread.inMem:=by
 refine(zlk hy.thread n fun m hm=>zax (zii.c hy.str) (zzG hy m) (zax (zc3.c hy.int) (zkv hy m) (zax (zfl.c hy.exprs) (zuk hy m) (zax (zfl.c hy.ints) (znR hy m)
  (zax (zfl.c hy.steps) (zjX hy.steps m fun j _=>zwr hy j) (zax (zfl.c hy.loops) (zjX hy.loops m fun j _=>zwt hy j) (zax (zfx.c hy.bool) (zBr hy m) ze1))))))).conv ?_
 rintro⟨a,b,c,d,e,f,g,u⟩ h;exact⟨⟨a,b,c,d,e,f,g⟩,⟨h.1,h.2.2.2.2.1.1,h.2.2.1,h.2.2.2.1,h.2.2.2.2.2.1.1,h.2.2.2.2.1.2,h.2.2.2.2.2.1.2⟩,rfl⟩
theorem znS (hy:y.Ok0 P) (n:Nat):Rd enc P W nm n y.contract Contract.enc (fun x=>x.name.size<=reachBytes/\x.owner.size<=reachBytes/\x.frame.length<=reachBytes):=by
 refine(zlk hy.contract n fun m hm=>zax (zii.c hy.str) (zzG hy m) (zax (zii.c hy.str) (zzG hy m) (zax (zhU.c hy.expr) (zgx hy m) (zax (zhU.c hy.expr) (zgx hy m) (zax (zfl.c hy.ints) (znR hy m) ze1))))).conv ?_;rintro⟨a,b,c,d,e,u⟩ h;exact⟨⟨a,b,c,d,e⟩,⟨h.1,h.2.1,h.2.2.2.2.1⟩,by simp[Contract.enc]⟩
theorem zwu (hy:y.Ok0 P) (n:Nat):Rd enc P W nm n y.lock Lock.enc (fun _=>True):=by
 refine(zlk hy.lock n fun m hm=>zax (zc3.c hy.int) (zkv hy m) (zax (zhU.c hy.expr) (zgx hy m) (zax (zc3.c hy.int) (zkv hy m) ze1))).conv ?_;rintro⟨a,b,c,u⟩ h;exact⟨⟨a,b,c⟩,trivial,by simp[Lock.enc]⟩
structure Prog.inMem (p:Prog):Prop where
 cells: ∀c∈p.cells,c.name.size<=reachBytes
 modules: ∀m∈p.modules,m.name.size<=reachBytes/\m.owner.size<=reachBytes/\m.frame.length<=reachBytes
 threads: ∀x∈p.threads,x.inMem
 nCells:p.cells.length<=reachBytes
 nModules:p.modules.length<=reachBytes
 nLocks:p.locks.length<=reachBytes
 nThreads:p.threads.length<=reachBytes
theorem zws (hy:y.Ok0 P) (n:Nat):Rd enc P W nm n y.prog Prog.enc Prog.inMem:=by
 refine(zlk hy.prog n fun m hm=>zax (zfl.c hy.cells) (zjX hy.cells m fun j _=>zwv hy j) (zax (zfl.c hy.contracts) (zjX hy.contracts m fun j _=>znS hy j)
  (zax (zfl.c hy.locks) (zjX hy.locks m fun j _=>zwu hy j) (zax (zfl.c hy.threads) (zjX hy.threads m fun j _=>zrT hy j) ze1)))).conv ?_
 rintro⟨a,b,c,d,u⟩ h;exact⟨⟨a,b,c,d⟩,⟨h.1.2,h.2.1.2,h.2.2.2.1.2,h.1.1,h.2.1.1,h.2.2.1.1,h.2.2.2.1.1⟩,rfl⟩
theorem zHC (hy:y.Ok P) (n:Nat):Rd enc P W nm n y.choice Choice.enc (fun _=>True):=by
 refine(zlk hy.choice n fun m hm=>zax (zc3.c hy.int) (zkv hy.toOk0 m) (zax (zc3.c hy.int) (zkv hy.toOk0 m) (zax (zc3.c hy.int) (zkv hy.toOk0 m) ze1))).conv ?_;rintro⟨a,b,c,u⟩ h;exact⟨⟨a,b,c⟩,trivial,rfl⟩
end
end Rg
end
section
namespace Rg
open Go Go.ChangeShapes
section
variable {H:Type} {enc:TypeId×Value->H} {P:Program}
theorem zgM {W W':World} {sp:Nat->Bool} (hl:laidOutB P=true): ∀{ts:List TypeId} {vs:List Value} {ds:List (DataW H)} {ps:List MemPlace},
 (∀t∈ts,P.readableRec t=true/\t<P.types.size)->DataW.TrodAll enc P W 0 (fun _=>true) true ts vs ds ps->(∀p∈ps,W.sameAt W' p)->(∀p∈ps,sp p.block=true)->DataW.TrodAll enc P W' 0 sp true ts vs ds ps
 | [],[],[],ps,_,h,_,_=>h
 | t::ts,v::vs,d::ds,ps,hr,h,hs,hp=>by
   obtain⟨p,q,h1,h2,rfl⟩:=h
   exact⟨p,q,WideElems.Trod_stays hl (hr t List.mem_cons_self).1 (hr t List.mem_cons_self).2 h1 (fun x hx=>hs x (List.mem_append_left _ hx)) (fun x hx=>hp x (List.mem_append_left _ hx)),
    zgM hl (fun t ht=>hr t (List.mem_cons_of_mem _ ht)) h2 (fun x hx=>hs x (List.mem_append_right _ hx)) (fun x hx=>hp x (List.mem_append_right _ hx)),rfl⟩
 | [],[],_::_,_,_,h,_,_=>by cases h
 | [],_::_,_,_,_,h,_,_=>by cases h
 | _::_,[],_,_,_,h,_,_=>by cases h
 | _::_,_::_,[],_,_,h,_,_=>by cases h
theorem zmo {W W':World} (h: ∀q,q<W.heap.size->W'.heap[q]? =W.heap[q]?) {p:MemPlace} (hp:p.block<W.heap.size):W.sameAt W' p:=by
 cases p with
 | cell b off=>exact cell?_eq (h b hp)
 | map b=>exact h b hp
theorem zmW {W W':World} (ho:W'.os=W.os) (hu:W'.output=W.output) (h: ∀q,q<W.heap.size->W'.heap[q]? =W.heap[q]?) (may:MemPlace->Prop):W.keptBut W' may:=by
 refine⟨ho,hu,fun i hi=> ?_⟩;rw[h i hi];split
 ·rename_i h1 h2;rw[h1]at h2;cases h2;exact⟨rfl,rfl,rfl,fun _ _=>rfl⟩
 ·rename_i h1 h2;rw[h1]at h2;cases h2;exact .inr ⟨rfl,rfl⟩
 ·rfl
theorem zqV {N:Nam} {g f:Nat} {fn:Func} {s:ChangeSpec} {W:World} {args:Array Value} {ds gs:List (DataW H)} {before:List MemPlace} {av:List V} {tb:TypeId}
 (hp:zjO P N g av (vb true)) (hg:N.nm g=f) (hG:zpW N (fun r=>r<W.heap.size) W) (ha:zb1 W (fun r=>r<W.heap.size) N.nm (fun _=>0) (fun _=>none) args av)
 (hl:laidOutB P=true) (hr: ∀t∈fn.params.toList,P.readableRec t=true/\t<P.types.size) (DM:fn.resultTypes= #[tb]) (PR:P.underlying tb=some .bool)
 (hv:s.vars=[]) (hW:DataW.Whole enc P fn.params.toList s.vars false W args.toList ds gs before)
 (hs:gs=[]->s.fn H (ds++gs)= { results:=[.lit (.bool true)],args:=ds }):
 Calls P f args W fun e W'=> ∃v,e= .returned v/\s.post enc P fn false true false false W args v W':=by
 subst hg;refine(hp _ W args (fun r h=>h) hG ha).mono fun e W' ⟨v,he,⟨ho,hu⟩,AS,M0,DY⟩=>⟨v,he,?_⟩
 have Ke:v= .bool true:=by
  have h1:RepT W' _ N.nm v (.bool true):=zbl.t_inv DY;cases h1;rfl
 subst Ke;have Ad:=hW.lt;have Ot:=hW;obtain⟨p,q,hA,hV,rfl,RL,Bt⟩:=Ot;have NS:gs=[]/\q=[]:=by rw[hv]at hV;exact trodVars_none hV
 obtain⟨rfl,rfl⟩:=NS;refine⟨ds,[],p++[],[],p,[],hW,?_,?_,?_,zmW ho hu M0 _,fun h=>by cases h⟩
 ·rw[hs rfl,DM];exact trodAll_mk1 ⟨1,by simp[DataW.trod,PR,Value.cells]⟩
 ·rw[hs rfl];refine zgM hl hr hA (fun x hx=>zmo M0 (Ad x (by simpa using hx))) (fun x hx=> ?_);simpa using Ad x (by simpa using hx)
 ·rw[hs rfl,hv];rfl
end
section
variable {W:World} {nm:Nat->Nat} {A:Nat->Prop} {μ:Nat->Nat} {HO:Nat->Option O}
theorem zmx: ∀{vs:List Value} {xs:List V},vs.length=xs.length->(∀(i:Nat) (x:V) (v:Value),xs[i]? =some x->vs[i]? =some v->zbl W A nm μ HO v x)->zb1 W A nm μ HO vs.toArray xs
 | vs,xs,hl,h=>⟨by simpa using hl,fun i x hx=>by
    have:i<vs.length:=by rw[hl];exact(zH.1 hx).1
    exact⟨vs[i],by simp,h i x _ hx (by simp)⟩⟩
theorem zuh {cs:Array Value} {xs:List T} (h:ztv W nm cs.toList xs):zbl W (fun r=>r<W.heap.size) nm μ HO (.agg cs) (.agg (xs.map V.t)):=by
 refine⟨cs,rfl,by rw[List.length_map];exact h.1,fun i c hc=> ?_⟩;rw[zJ,zE]at hc;obtain⟨x,hx,rfl⟩:=hc;obtain⟨v,hv,hr⟩:=h.2 i x hx;exact⟨v,hv,.t hr⟩
theorem zug {v:Value} {x:T} (h:ztv W nm [v] [x]):zbl W (fun r=>r<W.heap.size) nm μ HO v (.t x):=by
 obtain⟨u,hu,hr⟩:=h.2 0 x rfl;simp at hu;subst hu;exact RepC.toV (.t hr)
end
end Rg
end
section
namespace Rg
open Go
def zzL:Lit->T
 | .int k n=> .int k n
 | .string s=> .str ⟨s.toArray⟩
 | .bool b=> .bool b
 | _=> .nilp
theorem zhS {P:Program} {W:World}: ∀{laid:List (String×DataW Unit)} {ps:List MemPlace},DataW.LaidVars P W laid ps-> ∀{nm:String} {d:DataW Unit},(nm,d)∈laid->
 ∃g t cs f q,P.globalNamed nm=some g/\(P.globals[g]?).map (·.type)=some t/\W.var? P nm=some cs/\DataW.trod (fun _=>()) P W 0 (fun _=>true) false f t cs.toList=some (d,q)
 | [],_,_,_,_,hm=>by cases hm
 | (a,b)::r,ps,h,nm,d,hm=>by
   obtain⟨g,t,cs,f,p0,q0,h1,h2,h3,h4,h5,h6⟩:=h;rcases List.mem_cons.1 hm with hm | hm
   ·cases hm;exact⟨g,t,cs,f,p0,h1,h2,h3,h4⟩
   ·exact zhS h5 hm
theorem zpt {P:Program} {W:World} {N:Nam} {laid:List (String×DataW Unit)} {nm:String} {g k:Nat} {t e:TypeId} {ls:List Lit}
 (BL:(laid.all fun x=>x.2.handleName?.isNone)=true) (h:laidMetH P laid W) (Ce:(nm,.agg (ls.map DataW.lit))∈laid)
 (hg:P.globalNamed nm=some g) (ht:(P.globals[g]?).map (·.type)=some t) (hu:P.underlying t=some (.array ls.length e)) (he:P.underlying e=some .string\/ ∃k,P.underlying e=some (.int k)) (hc:P.cellsOf e=1) (hn:P.cellsOf t=ls.length)
 (Ku:N.gm k=g) (hG:N.GL k=ls.map zzL) (j:Nat) (x:T) (hx:(N.GL k)[j]? =some x):
 N.gm k<W.heap.size/\(∃e,W.shape? (N.gm k)=some (e,(N.GL k).length))/\ ∃v,W.cell? ⟨N.gm k,j,none⟩=some v/\RepT W (fun r=>r<W.heap.size) N.nm v x:=by
 rw[MakeChecks.laidMetH_plain _ _ _ BL]at h;obtain⟨ps,hv,_⟩:=h;obtain⟨g0,t0,cs0,f0,q0,Po,Mo,Fz,QI⟩:=zhS hv Ce;obtain rfl:=Option.some.inj (hg.symm.trans Po);obtain rfl:=Option.some.inj (ht.symm.trans Mo);obtain⟨xs,m1,rfl,KA,Ac,Iq,M2⟩:=DataW.trod_array hu QI;simp only[Prod.mk.injEq,DataW.agg.injEq]at KA;rw[hG,zJ,zE]at hx;obtain⟨m,hm,rfl⟩:=hx;have hj:j<ls.length:=(zH.1 hm).1;obtain⟨y,hy⟩: ∃y,xs[j]? =some y:=⟨_,zI (by omega)⟩
 have IP:y.1= .lit m:=by
  have h2:=congrArg (·[j]?) KA.1;simp only[zJ,hm,hy,Option.map_some,zA]at h2;exact h2.symm
 have h3:=M2 j hj;rw[hy,hc,Nat.mul_one]at h3
 have DF: ∀v:Value,(cs0.toList.drop j).take 1=[v]->cs0[j]? =some v:=by
  intro v hq;have h4:=congrArg (·[0]?) hq;simp only[zO,List.getElem?_drop,Nat.add_zero]at h4;simpa using h4
 have BP: ∃v,cs0[j]? =some v/\RepT W (fun r=>r<W.heap.size) N.nm v (zzL m):=by
  rcases he with he | ⟨kk,he⟩
  ·obtain⟨s,hs,FN,_⟩:=DataW.trod_string he h3;have:m= .string s.data.toList:=by rw[FN]at IP;simpa using IP.symm
   subst this;refine⟨.string s,DF _ hs,?_⟩;have:zzL (.string s.data.toList)= .str s:=by simp[zzL]
   rw[this];exact .str s
  ·obtain⟨q,hq,P5,_⟩:=DataW.trod_int he h3;have:m= .int kk q:=by rw[P5]at IP;simpa using IP.symm
   subst this;exact⟨.int kk q,DF _ hq,.int kk q⟩
 obtain⟨v,PJ,Ae⟩:=BP;have AW:W.cell? ⟨g,j,none⟩=some v:=by rw[World.var?_cell Po Fz j];exact PJ
 rw[Ku];refine⟨(cell?_spot AW).2,?_,v,AW,Ae⟩;unfold World.var? at Fz;rw[hg]at Fz;simp only[zD]at Fz;unfold World.shape?;split at Fz
 ·rename_i cs e0 z hb;simp only[zA]at Fz;subst Fz;rw[hb];refine⟨e0,?_⟩;simp only[zA,Prod.mk.injEq,true_and];have h5:=Ac;rw[Array.length_toList]at h5;rw[h5,hG,List.length_map,hn]
 ·cases Fz
theorem zMR {tbl:List Nat} {gi:Nat->Option Nat} {gm:Nat->Nat} {G GL:Nat->List T} {cr:Code->Nat->C->Prop} {tB tU:Nat} {tys:List (Nat×Nat)} {nm:Nat->Nat}
 (hg: ∀q k,gi q=some k->gm k=q/\G k≠[]/\GL k=G k) (hn: ∀k,k<tbl.length->nm k=tbl.getD k 0) (ht: ∀k t,(k,t)∈tys->nm k=10000000+t):
 Inv.Ok ⟨fun f=>tbl.findIdx? (· ==f),gi,some tB,tys⟩ ⟨nm,gm,G,GL,cr,tB,tU⟩:=by
 refine⟨fun f k h=> ?_,hg,(fun t h=>by cases h;rfl),ht⟩;obtain⟨Ad,he,_⟩:=List.findIdx?_eq_some_iff_getElem.1 h;show nm k=f;rw[hn k Ad,zK,zI Ad];simpa using he
theorem zkG {α:Type} {k:Nat} {v:α}: ∀{l:List (Nat×α)},l.lookup k=some v->(k,v)∈l
 | [],h=>by simp at h
 | (a,b)::r,h=>by
   rw[List.lookup_cons]at h;split at h
   ·rename_i hk;simp only[beq_iff_eq]at hk;cases h;subst hk;exact List.mem_cons_self
   ·exact List.mem_cons_of_mem _ (zkG h)
end Rg
end
section
namespace Rg
open Go
theorem zFg {a b:Bool} (h:a=true) (g:b=true):(a&&b)=true:=by rw[h,g];rfl
section
variable {H:Type} {enc:TypeId×Value->H} {P:Program} {W:World} {nm μ:Nat->Nat} {HO:Nat->Option O} {y:Tys}
theorem trodAll_nil {sp:Nat->Bool} {vs:List Value} {ds:List (DataW H)} {ps:List MemPlace} (h:DataW.TrodAll enc P W 0 sp true [] vs ds ps):vs=[]/\ds=[]:=by
 cases vs<;>cases ds<;>first | exact⟨rfl,rfl⟩ | cases h
theorem trodAll_cons {sp:Nat->Bool} {t:TypeId} {ts:List TypeId} {vs:List Value} {ds:List (DataW H)} {ps:List MemPlace} (h:DataW.TrodAll enc P W 0 sp true (t::ts) vs ds ps):
 ∃v vs' d ds' p q,vs=v::vs'/\ds=d::ds'/\DataW.Trod enc P W 0 sp true t v d p/\DataW.TrodAll enc P W 0 sp true ts vs' ds' q:=by
 cases vs with
 | nil=>cases h
 | cons v vs=>
   cases ds with
   | nil=>cases h
   | cons d ds=>
     obtain⟨p,q,h1,h2,_⟩:=h;exact⟨v,vs,d,ds,p,q,rfl,rfl,h1,h2⟩
theorem zdu {t:TypeId} {ts:List TypeId} {d:DataW H} {ds:List (DataW H)} (h:(DataW.weightsEach P (t::ts) (d::ds)).all (· <=reachBytes)=true):
 (d.weights P t).all (· <=reachBytes)=true/\(DataW.weightsEach P ts ds).all (· <=reachBytes)=true:=by
 rw[DataW.weightsEach,List.all_append,zF]at h;exact h
theorem zy5 {α:Type} {t:TypeId} {tot:Nat} {fs:List (TypeId×Nat)} {f:α->List T} {good:α->Prop} {v:Value} {d:DataW H} {p:List MemPlace} {base:Nat} (hs:zhU P t tot fs=true) (hr: ∀n,Rd enc P W nm n t f good)
 (hv:Value.okWide P W .any base t v) (ht:DataW.Trod enc P W 0 (fun _=>true) true t v d p) (hw:(d.weights P t).all (· <=reachBytes)=true):
 ∃a,good a/\zbl W (fun r=>r<W.heap.size) nm μ HO v (.agg ((f a).map V.t)):=by
 obtain⟨n,hn⟩:=ht;obtain⟨a,ha,Cu⟩:=hr n _ _ hn hw;refine⟨a,ha,?_⟩;simp only[zhU,zF]at hs;have h1:=hs.1;split at h1
 ·rename_i u hu;unfold Value.okWide at hv;rw[hu]at hv;obtain⟨cs,rfl,_⟩:=hv;exact zuh (by simpa[Value.cells]using Cu)
 ·simp at h1
theorem zIp {α:Type} {t e:TypeId} {f:α->T} {good:α->Prop} {v:Value} {d:DataW H} {p:List MemPlace} {base:Nat} (hs:zfl P t e=true) (hr: ∀n,Rd enc P W nm n t (fun a=>[f a]) good)
 (hv:Value.okWide P W .any base t v) (ht:DataW.Trod enc P W 0 (fun _=>true) true t v d p) (hw:(d.weights P t).all (· <=reachBytes)=true):
 ∃a,good a/\zbl W (fun r=>r<W.heap.size) nm μ HO v (.t (f a)):=by
 obtain⟨n,hn⟩:=ht;obtain⟨a,ha,Cu⟩:=hr n _ _ hn hw;refine⟨a,ha,?_⟩;have hu:=zfl.u hs;unfold Value.okWide Cell.okWide Cell.ok at hv;rw[hu]at hv;cases v<;>first | exact zug (by simpa[Value.cells]using Cu) | exact absurd hv (by simp)
theorem zlX {α:Type} {t:TypeId} {k:IntKind} {f:α->T} {good:α->Prop} {v:Value} {d:DataW H} {p:List MemPlace} {base:Nat} (hs:zc3 P t k=true) (hr: ∀n,Rd enc P W nm n t (fun a=>[f a]) good)
 (hv:Value.okWide P W .any base t v) (ht:DataW.Trod enc P W 0 (fun _=>true) true t v d p) (hw:(d.weights P t).all (· <=reachBytes)=true):
 ∃a,good a/\zbl W (fun r=>r<W.heap.size) nm μ HO v (.t (f a)):=by
 obtain⟨n,hn⟩:=ht;obtain⟨a,ha,Cu⟩:=hr n _ _ hn hw;refine⟨a,ha,?_⟩;have hu:=zc3.u hs;unfold Value.okWide Cell.okWide Cell.ok at hv;rw[hu]at hv;cases v<;>first | exact zug (by simpa[Value.cells]using Cu) | exact absurd hv (by simp)
end
end Rg
end
section
namespace Rg
open Go
abbrev zP (p:Prog):V:=.agg [.t (.sl (p.cells.map Cell.enc)),.t (.sl (p.modules.map Contract.enc)),.t (.sl (p.locks.map Lock.enc)),.t (.sl (p.threads.map Thread.enc))]
abbrev zT (x:Thread):V:=.agg [.t (.str x.name),.t (ti x.points),.t (.sl (x.asserts.map Expr.enc)),.t (ints x.modules),.t (.sl (x.steps.map Step.enc)),.t (.sl (x.loops.map Loop.enc)),.t (tb x.asleep)]
abbrev zS (s:Step):V:=.agg [.t (ti s.kind),.t (ti s.fr),.t (ti s.to),.t (ti s.guard.op),.t (ti s.guard.w),.t (ti s.guard.n),.t (.sl (s.guard.kids.map Expr.enc)),.t (.sl (s.set.map Assign.enc)),.t (tb s.release),.t (ti s.target),.t (ti s.module)]
end Rg
end
