/- Part of the proof of laws of relyguardlaw31. No condition. -/
import Derived.Test.YtcmeofagpechdaaGreatDoorRartAS
import Derived.Stop.Joined
import Derived.ProofKit
import Derived.LaidMore
import Derived.Test.YtcmeofagpechdaaGreatDoorRartAQ
import Derived.Test.YtcmeofagpechdaaGreatDoorRartAR
import Derived.Test.YtcmeofagpechdaaGreatDoorRartAP
set_option linter.unusedSimpArgs false
set_option linter.unusedVariables false
section
namespace Rg
open Go
section
variable {Γ:Nat->Option F} {G:Nat->List T}
variable (G) in
def fillPS (sl:Nat->Slot):List V->List (Nat×Nat×Opd)->Option (List V)
 | cs,[]=>some cs
 | cs,(off,k,x)::r=>ob (evlS G sl x) (fun v=>ob v.cells (fun new=>if new.length=k then ob (wr cs off new) (fun cs'=>fillPS sl cs' r) ⟨0⟩else none) ⟨0⟩) ⟨0⟩
@[go_sem ↓]theorem zph (sl:Nat->Slot) (cs:List V):fillPS G sl cs []=some cs:=rfl
@[go_sem ↓]theorem zh6 (sl:Nat->Slot) (cs:List V) (off k:Nat) (x:Opd) (r:List (Nat×Nat×Opd)):
 fillPS G sl cs ((off,k,x)::r)=ob (evlS G sl x) (fun v=>ob v.cells (fun new=>if new.length=k then ob (wr cs off new) (fun cs'=>fillPS G sl cs' r) ⟨0⟩else none) ⟨0⟩) ⟨0⟩:=rfl
theorem zhi (sl:Nat->Slot) (u:Nat->Bool) (h:Nat->Option O) (n b:Nat): ∀(r:List (Nat×Nat×Opd)) (cs:List V),zaQ G cs (M.st ⟨sl,u,h,n,b⟩) r=fillPS G sl cs r
 | [],cs=>rfl
 | (off,k,x)::r,cs=>by
   rw[zaQ,zh6,zay];simp only[ob,zC]
   congr 1;funext v;congr 1;funext new
   split
   ·congr 1;funext cs';exact zhi sl u h n b r cs'
   ·rfl
variable (G) in
def fillRS (sl:Nat->Slot) (sz:Nat):List (List V)->List (Nat×Opd)->Option (List (List V))
 | rs,[]=>some rs
 | rs,(i,x)::r=>ob (evlS G sl x) (fun v=>ob v.cells (fun new=>if new.length=sz/\i<rs.length then fillRS sl sz (rs.set i new) r else none) ⟨0⟩) ⟨0⟩
@[go_sem ↓]theorem zpg (sl:Nat->Slot) (sz:Nat) (rs:List (List V)):fillRS G sl sz rs []=some rs:=rfl
@[go_sem ↓]theorem zh5 (sl:Nat->Slot) (sz:Nat) (rs:List (List V)) (i:Nat) (x:Opd) (r:List (Nat×Opd)):
 fillRS G sl sz rs ((i,x)::r)=ob (evlS G sl x) (fun v=>ob v.cells (fun new=>if new.length=sz/\i<rs.length then fillRS G sl sz (rs.set i new) r else none) ⟨0⟩) ⟨0⟩:=rfl
theorem zhh (sl:Nat->Slot) (u:Nat->Bool) (h:Nat->Option O) (n b sz:Nat): ∀(r:List (Nat×Opd)) (rs:List (List V)),za7 G rs sz (M.st ⟨sl,u,h,n,b⟩) r=fillRS G sl sz rs r
 | [],rs=>rfl
 | (i,x)::r,rs=>by
   rw[za7,zh5,zay];simp only[ob,zC]
   congr 1;funext v;congr 1;funext new
   split
   ·exact zhh sl u h n b sz r _
   ·rfl
variable (G) in
def evoS (sl:Nat->Slot) (d:Nat):Option Opd->Option Int
 | none=>some d
 | some x=>ob (evlS G sl x) intS ⟨0⟩
@[go_sem ↓]theorem ztQ (sl:Nat->Slot) (d:Nat):evoS G sl d none=some (d:Int):=rfl
@[go_sem ↓]theorem ztP (sl:Nat->Slot) (d:Nat) (x:Opd):evoS G sl d (some x)=ob (evlS G sl x) intS ⟨0⟩:=rfl
theorem zlE (sl:Nat->Slot) (u:Nat->Bool) (h:Nat->Option O) (n b d:Nat) (x:Option Opd):zbU G (M.st ⟨sl,u,h,n,b⟩) d x=evoS G sl d x:=by
 cases x with
 | none=>rfl
 | some x=>simp only[zbU,zbA,evoS,ob]
def znS (h:Nat->Option O) (sz:Nat) (lo hi:Int):V->Option V
 | .ms k i _=>match h k with
   | some (.rows sz' rs _)=>if sz'=sz/\0<=lo/\lo<=hi/\(i:Int)+hi<=rs.length then some (.ms k (i+lo.toNat) (hi-lo).toNat)else none
   | _=>none
 | _=>none
def zkb (h:Nat->Option O) (sz n:Nat) (lo hi:Int) (v:V):Option V:=
 if 0<=lo/\lo<=hi/\hi<=n then
  match v with
  | .t .nils=>some (.t .nils)
  | .t (.sl es)=>if es.all (·.length=sz)then some (.t (.sl ((es.drop lo.toNat).take (hi-lo).toNat)))else none
  | .ms k i _=>match h k with
    | some (.rows sz' _ _)=>if sz'=sz then some (.ms k (i+lo.toNat) (hi-lo).toNat)else none
    | _=>none
  | _=>none
 else znS h sz lo hi v
def zkc:V->Option V
 | .t .nils=>some (.t .nils)
 | .t (.sl [])=>some (.t (.slc []))
 | .t (.sl (_::_))=>some (.t .nils)
 | .ms _ _ _=>some (.t .nils)
 | _=>none
attribute [go_sem] zkb zkc slice3
variable (d:Bool) (p:Nat) (l:List ROp) (Q:M->Prop) (sl:Nat->Slot) (u:Nat->Bool) (h:Nat->Option O) (n b:Nat)
@[go_sem ↓]theorem zsn (t:Nat) (z:List V) (ps:List (Nat×Nat×Opd)) (w:W4 _ _ _ _):
 wO Γ G d p (⟨none,some t,.build z ps⟩::l) Q ⟨sl,u,h,n,b⟩ w=putV (u t) (ob (fillPS G sl z ps) (fun cs=>some (.agg cs)) ⟨0⟩) (fun v=>wO Γ G d (p+1) l Q ⟨updC sl t ⟨v,none,none⟩,u,h,n,b⟩ ⟨0⟩) ⟨0⟩:=by
 refine za2 rfl ?_;simp only[aeval,zhi,ob];cases fillPS G sl z ps<;>rfl
@[go_sem ↓]theorem zsa (t:Nat) (sz:Nat) (x:Opd) (lo hi:Option Opd) (w:W4 _ _ _ _):
 wO Γ G d p (⟨none,some t,.slice sz x lo hi none⟩::l) Q ⟨sl,u,h,n,b⟩ w=putV (u t) (ob (evlS G sl x) (fun v=>ob (lenS h v) (fun k=>ob (evoS G sl k hi) (fun hi'=>ob (evoS G sl 0 lo) (fun lo'=>zkb h sz k lo' hi' v) ⟨0⟩) ⟨0⟩) ⟨0⟩) ⟨0⟩) (fun v=>wO Γ G d (p+1) l Q ⟨updC sl t ⟨v,none,none⟩,u,h,n,b⟩ ⟨0⟩) ⟨0⟩:=by
 refine za2 rfl ?_;simp only[aeval,zay,ob,zgg,zlE]
 cases evlS G sl x with
 | none=>rfl
 | some v=>
   simp only[zC,zD]
   cases lenS h v with
   | none=>rfl
   | some k=>
     simp only[zD]
     cases evoS G sl k hi with
     | none=>rfl
     | some hi'=>
       simp only[zD]
       cases evoS G sl 0 lo with
       | none=>rfl
       | some lo'=>
         simp only[zD,zkb];split
         ·cases v with
          | t x=>cases x with
            | sl es=>simp only;split<;>rfl
            | _=>rfl
          | ms q i j=>
            simp only[M.st]
            cases h q with
            | none=>rfl
            | some o=>cases o with
              | rows s rs z=>simp only;split<;>rfl
              | _=>rfl
          | _=>rfl
         ·cases v with
          | ms q i j=>
            simp only[M.st,znS]
            cases h q with
            | none=>rfl
            | some o=>cases o with
              | rows s rs z=>simp only;split<;>rfl
              | _=>rfl
          | _=>rfl
@[go_sem ↓]theorem zqB (t:Nat) (sz:Nat) (x:Opd) (lo:Option Opd) (hi mx:Opd) (w:W4 _ _ _ _):
 wO Γ G d p (⟨none,some t,.slice sz x lo (some hi) (some mx)⟩::l) Q ⟨sl,u,h,n,b⟩ w=putV (u t) (ob (evlS G sl x) (fun v=>ob (lenS h v) (fun k=>ob (evoS G sl k (some hi)) (fun hi'=>ob (evoS G sl 0 lo) (fun lo'=>ob (evoS G sl 0 (some mx)) (fun m=>if lo'=0/\hi'=0/\m=0 then zkc v else if 0<=lo'/\lo'<=hi'/\hi'<=m/\m<=k then some (slice3 sz v lo' hi' m k)else none) ⟨0⟩) ⟨0⟩) ⟨0⟩) ⟨0⟩) ⟨0⟩) (fun v=>wO Γ G d (p+1) l Q ⟨updC sl t ⟨v,none,none⟩,u,h,n,b⟩ ⟨0⟩) ⟨0⟩:=by
 refine za2 rfl ?_;simp only[aeval,zay,ob,zgg,zlE,zbA]
 cases evlS G sl x with
 | none=>rfl
 | some v=>
   simp only[zC,zD]
   cases lenS h v with
   | none=>rfl
   | some k=>
     simp only[zD]
     cases evoS G sl k (some hi)with
     | none=>rfl
     | some hi'=>
       simp only[zD]
       cases evoS G sl 0 lo with
       | none=>rfl
       | some lo'=>
         simp only[zD,evoS,ob]
         cases(evlS G sl mx).bind intS with
         | none=>rfl
         | some m=>
           simp only[zD,Option.isSome_some,and_true];split
           ·cases v with
            | t x=>cases x with
              | sl es=>cases es<;>rfl
              | _=>rfl
            | _=>rfl
           ·split<;>rfl
attribute [go_sem] mkfnV trees
@[go_sem ↓]theorem zto (t:Nat) (f:Nat) (x y:List Opd) (w:W4 _ _ _ _):
 wO Γ G d p (⟨none,some t,.mkfn f x y⟩::l) Q ⟨sl,u,h,n,b⟩ w=putV (u t) (ob (evlsS G sl x) (fun a=>ob (evlsS G sl y) (fun c=>mkfnV f a c) ⟨0⟩) ⟨0⟩) (fun v=>wO Γ G d (p+1) l Q ⟨updC sl t ⟨v,none,none⟩,u,h,n,b⟩ ⟨0⟩) ⟨0⟩:=by
 refine za2 rfl ?_;simp only[aeval,zdj,ob]
 cases evlsS G sl x with
 | none=>rfl
 | some a=>
   simp only[zC,zD]
   cases evlsS G sl y with
   | none=>rfl
   | some c=>simp only[zD];(cases mkfnV f a c<;>rfl)
@[go_sem ↓]theorem zqO (t:Nat) (cs:List V) (w:W4 _ _ _ _):
 wO Γ G d p (⟨none,some t,.allocH cs⟩::l) Q ⟨sl,u,h,n,b⟩ w=zft (u t) (some (V.mp (b+p) 0 0,[(b+p,O.rows cs.length [cs] false)])) (fun v hp=>wO Γ G d (p+1) l Q ⟨updC sl t ⟨v,none,none⟩,u,hpC h hp,n,b⟩ ⟨0⟩) ⟨0⟩:=by
 refine zje rfl ?_;rfl
@[go_sem ↓]theorem ztA (t:Nat) (k:Nat) (x:Opd) (w:W4 _ _ _ _):
 wO Γ G d p (⟨none,some t,.boxH k x⟩::l) Q ⟨sl,u,h,n,b⟩ w=zft (u t) (ob (evlS G sl x) (fun v=>ob v.cells (fun cs=>if cs.length=k then some (V.mp (b+p) 0 0,[(b+p,O.rows k [cs] false)])else none) ⟨0⟩) ⟨0⟩) (fun v hp=>wO Γ G d (p+1) l Q ⟨updC sl t ⟨v,none,none⟩,u,hpC h hp,n,b⟩ ⟨0⟩) ⟨0⟩:=by
 refine zje rfl ?_;simp only[aeval,zay,ob]
 cases evlS G sl x with
 | none=>rfl
 | some v=>
   simp only[zC,zD]
   cases v.cells with
   | none=>rfl
   | some cs=>simp only[zD];split<;>rfl
@[go_sem ↓]theorem zqK (t:Nat) (sz len:Nat) (z:List V) (ps:List (Nat×Opd)) (w:W4 _ _ _ _):
 wO Γ G d p (⟨none,some t,.bslice sz len z ps⟩::l) Q ⟨sl,u,h,n,b⟩ w=zft (u t) (ob (fillRS G sl sz (List.replicate len z) ps) (fun rs=>some (V.ms (b+p) 0 len,[(b+p,O.rows sz rs false)])) ⟨0⟩) (fun v hp=>wO Γ G d (p+1) l Q ⟨updC sl t ⟨v,none,none⟩,u,hpC h hp,n,b⟩ ⟨0⟩) ⟨0⟩:=by
 refine zje rfl ?_;simp only[aeval,zhh,ob];cases fillRS G sl sz (List.replicate len z) ps<;>rfl
def zj6 (h:Nat->Option O) (k:Nat) (new:List V):V->Option (V×List (Nat×O))
 | .mp q i off=>match h q with
   | some (.rows sz rs false)=>(rs[i]?).bind fun row=>if new.length=k then(wr row off new).bind fun row'=>some (V.undef,[(q,O.rows sz (rs.set i row') false)])else none
   | _=>none
 | _=>none
def appS (h:Nat->Option O) (q:Nat) (sz bytes:Nat) (u:V) (a b:List (List V)):Option (V×List (Nat×O)):=
 if(a.length+b.length<=2^32/\bytes<=2^12)/\b.all (·.length=sz)/\a.all (·.length=sz)then
  if b.isEmpty then some (u,[])
  else match u with
   | .t .nils=>some (.ms q 0 b.length,[(q,.rows sz b false)])
   | .t (.slc _)=>((a++b).mapM trees).bind fun ts=>some (.t (.sl ts),[])
   | .ms k i _=>match h k with
     | some (.rows sz' rs false)=>if sz'=sz/\i=0 then some (.ms q 0 (a.length+b.length),[(k,.dead),(q,.rows sz (appRows a b rs) false)])else none
     | _=>none
   | _=>none
 else none
@[go_sem]theorem zcM {α:Type} (a b:List α):appRows a b a=a++b:=if_pos (Nat.le_add_right _ _)
def zs7 (h:Nat->Option O) (sz:Nat) (b:List (List V)):V->Option (V×List (Nat×O))
 | .t .nils=>some (.t (.int .i64 0),[])
 | .ms k i len=>match h k with
   | some (.rows sz' rs false)=>if sz'=sz/\b.all (·.length=sz)then(wr rs i (b.take len)).bind fun rs'=>some (.t (.int .i64 (min b.length len:Nat)),[(k,.rows sz rs' false)])else none
   | _=>none
 | _=>none
def mapS (h:Nat->Option O):V->Option (List (T×V))
 | .t .nilm=>some []
 | .mm j=>match h j with
   | some (.map es)=>some es
   | _=>none
 | _=>none
def mapupS (h:Nat->Option O) (key:T) (x:V):V->Option (V×List (Nat×O))
 | .mm j=>match h j with
   | some (.map es)=>(mapPut key x es).bind fun es'=>if x.one then some (V.undef,[(j,.map es')])else none
   | _=>none
 | _=>none
def clearS (h:Nat->Option O) (sz:Nat) (zero:List V):V->Option (V×List (Nat×O))
 | .t .nils=>some (.tup [],[])
 | .ms k i len=>match h k with
   | some (.rows sz' rs false)=>if sz'=sz/\zero.length=sz then(wr rs i (List.replicate len zero)).bind fun rs'=>some (.tup [],[(k,.rows sz rs' false)])else none
   | _=>none
 | _=>none
attribute [go_sem] zj6 zs7 mapS mapupS clearS
theorem clear_eq (sl:Nat->Slot) (u:Nat->Bool) (h:Nat->Option O) (n b p sz:Nat) (z:List V) (x:Opd):
 aeval G p (M.st ⟨sl,u,h,n,b⟩) (.clear sz z x)=(ob (evlS G sl x) (clearS h sz z) ⟨0⟩).map fun v=>({ val:=v.1,hp:=v.2 }:Eff):=by
 simp only[aeval,zay,ob]
 cases evlS G sl x with
 | none=>rfl
 | some v=>cases v with
   | t x=>cases x<;>rfl
   | ms k i len=>
     simp only[zC,zD,clearS,M.st]
     cases h k with
     | none=>rfl
     | some o=>cases o with
       | rows s rs z=>cases z with
         | false=>
           simp only;split
           ·cases wr rs i (List.replicate len _)<;>rfl
           ·rfl
         | true=>rfl
       | _=>rfl
   | _=>rfl
@[go_sem ↓]theorem zBw (sz:Nat) (z:List V) (x:Opd) (w:W4 _ _ _ _):
 wO Γ G d p (⟨none,none,.clear sz z x⟩::l) Q ⟨sl,u,h,n,b⟩ w=zft false (ob (evlS G sl x) (clearS h sz z) ⟨0⟩) (fun _ hp=>wO Γ G d (p+1) l Q ⟨sl,u,hpC h hp,n,b⟩ ⟨0⟩) ⟨0⟩:=znP rfl (clear_eq ..)
@[go_sem ↓]theorem zr9 (k:Nat) (a x:Opd) (w:W4 _ _ _ _):
 wO Γ G d p (⟨none,none,.store k a x⟩::l) Q ⟨sl,u,h,n,b⟩ w=zft false (ob (evlS G sl a) (fun q=>ob (evlS G sl x) (fun v=>ob v.cells (fun new=>zj6 h k new q) ⟨0⟩) ⟨0⟩) ⟨0⟩) (fun _ hp=>wO Γ G d (p+1) l Q ⟨sl,u,hpC h hp,n,b⟩ ⟨0⟩) ⟨0⟩:=by
 refine znP rfl ?_;simp only[aeval,zay,ob]
 cases evlS G sl a with
 | none=>rfl
 | some q=>
   simp only[zC,zD]
   cases hx:evlS G sl x with
   | none=>
     cases q with
     | mp j i off=>
       simp only[M.st,Option.bind_none]
       cases h j with
       | none=>rfl
       | some o=>cases o with
         | rows sz rs z=>cases z with
           | false=>simp only;cases rs[i]? <;>rfl
           | true=>rfl
         | _=>rfl
     | _=>rfl
   | some v=>
     simp only[zD]
     cases hc:v.cells with
     | none=>
       cases q with
       | mp j i off=>
         simp only[M.st,Option.bind_none]
         cases h j with
         | none=>rfl
         | some o=>cases o with
           | rows sz rs z=>cases z with
             | false=>simp only;cases rs[i]? <;>rfl
             | true=>rfl
           | _=>rfl
       | _=>rfl
     | some new=>
       cases q with
       | mp j i off=>
         simp only[M.st,zD,zj6]
         cases h j with
         | none=>rfl
         | some o=>cases o with
           | rows sz rs z=>cases z with
             | false=>
               simp only
               cases rs[i]? with
               | none=>rfl
               | some row=>
                 simp only[zD];split
                 ·cases wr row off new<;>rfl
                 ·rfl
             | true=>rfl
           | _=>rfl
       | _=>rfl
@[go_sem ↓]theorem zpq (t:Nat) (sz bytes:Nat) (z:List V) (x y:Opd) (w:W4 _ _ _ _):
 wO Γ G d p (⟨none,some t,.mkslice sz bytes z x y⟩::l) Q ⟨sl,u,h,n,b⟩ w=zft (u t) (ob (evlS G sl x) (fun v=>ob (intS v) (fun k=>ob (evlS G sl y) (fun v'=>ob (intS v') (fun m=>if 0<=k/\k<=m/\m<=2^32/\bytes<=2^12/\z.length=sz then some (V.ms (b+p) 0 k.toNat,[(b+p,O.rows sz (List.replicate k.toNat z) false)])else none) ⟨0⟩) ⟨0⟩) ⟨0⟩) ⟨0⟩) (fun v hp=>wO Γ G d (p+1) l Q ⟨updC sl t ⟨v,none,none⟩,u,hpC h hp,n,b⟩ ⟨0⟩) ⟨0⟩:=by
 refine zje rfl ?_;simp only[aeval,zbA,ob]
 cases evlS G sl x with
 | none=>rfl
 | some v=>
   simp only[zC,zD]
   cases intS v with
   | none=>rfl
   | some k=>
     simp only[zD]
     cases evlS G sl y with
     | none=>rfl
     | some v'=>
       simp only[zD]
       cases intS v' with
       | none=>rfl
       | some m=>simp only[zD];split<;>rfl
@[go_sem ↓]theorem zqM (t:Nat) (sz bytes:Nat) (x y:Opd) (w:W4 _ _ _ _):
 wO Γ G d p (⟨none,some t,.append sz bytes x y⟩::l) Q ⟨sl,u,h,n,b⟩ w=zft (u t) (ob (evlS G sl x) (fun v=>ob (evlS G sl y) (fun v'=>ob (rowsS h v) (fun a=>ob (rowsS h v') (fun c=>appS h (b+p) sz bytes v a c) ⟨0⟩) ⟨0⟩) ⟨0⟩) ⟨0⟩) (fun v hp=>wO Γ G d (p+1) l Q ⟨updC sl t ⟨v,none,none⟩,u,hpC h hp,n,b⟩ ⟨0⟩) ⟨0⟩:=by
 refine zje rfl ?_;simp only[aeval,zay,ob,zko]
 cases evlS G sl x with
 | none=>rfl
 | some v=>
   simp only[zC,zD]
   cases evlS G sl y with
   | none=>rfl
   | some v'=>
     simp only[zD]
     cases rowsS h v with
     | none=>rfl
     | some a=>
       simp only[zD]
       cases rowsS h v' with
       | none=>rfl
       | some c=>
         simp only[zD,appS];split
         ·split
          ·rfl
          ·cases v with
           | t z=>cases z<;>first | rfl | (cases List.mapM trees (a++c)<;>rfl)
           | ms k i j=>
             simp only[M.st]
             cases h k with
             | none=>rfl
             | some o=>cases o with
               | rows s rs z=>cases z with
                 | false=>simp only;split<;>rfl
                 | true=>rfl
               | _=>rfl
           | _=>rfl
         ·rfl
def zp6 (h:Nat->Option O) (f:Nat):V->Option (V×List (Nat×O))
 | .mp k i off=>match h k with
   | some (.rows sz [row] _)=>if i=0/\off=0 then(trees row).bind fun ts=>some (.t (.fn f [] [.ip ts]),[(k,.rows sz [row] true)])else none
   | _=>none
 | _=>none
attribute [go_sem] zp6
@[go_sem ↓]theorem zBQ (t:Nat) (sz:Nat) (x y:Opd) (w:W4 _ _ _ _):
 wO Γ G d p (⟨none,some t,.copy sz x y⟩::l) Q ⟨sl,u,h,n,b⟩ w=zft (u t) (ob (evlS G sl x) (fun v=>ob (evlS G sl y) (fun v'=>ob (rowsS h v') (fun c=>zs7 h sz c v) ⟨0⟩) ⟨0⟩) ⟨0⟩) (fun v hp=>wO Γ G d (p+1) l Q ⟨updC sl t ⟨v,none,none⟩,u,hpC h hp,n,b⟩ ⟨0⟩) ⟨0⟩:=by
 refine zje rfl ?_;simp only[aeval,zay,ob,zko]
 cases evlS G sl x with
 | none=>rfl
 | some v=>
   simp only[zC,zD]
   cases evlS G sl y with
   | none=>rfl
   | some v'=>
     simp only[zD]
     cases rowsS h v' with
     | none=>rfl
     | some c=>
       simp only[zD,zs7]
       cases v with
       | t z=>cases z<;>rfl
       | ms k i j=>
         simp only[M.st]
         cases h k with
         | none=>rfl
         | some o=>cases o with
           | rows s rs z=>cases z with
             | false=>
               simp only;split
               ·cases wr rs i (c.take j)<;>rfl
               ·rfl
             | true=>rfl
           | _=>rfl
       | _=>rfl
@[go_sem ↓]theorem zse (t:Nat)  (w:W4 _ _ _ _):
 wO Γ G d p (⟨none,some t,.mkmap⟩::l) Q ⟨sl,u,h,n,b⟩ w=zft (u t) (some (V.mm (b+p),[(b+p,O.map [])])) (fun v hp=>wO Γ G d (p+1) l Q ⟨updC sl t ⟨v,none,none⟩,u,hpC h hp,n,b⟩ ⟨0⟩) ⟨0⟩:=by
 refine zje rfl ?_;rfl
@[go_sem ↓]theorem zqG (t:Nat) (kd:Nat) (z:V) (ok:Bool) (x y:Opd) (w:W4 _ _ _ _):
 wO Γ G d p (⟨none,some t,.lookup kd z ok x y⟩::l) Q ⟨sl,u,h,n,b⟩ w=putV (u t) (ob (evlS G sl y) (fun k=>ob (keyOf kd k) (fun key=>ob (evlS G sl x) (fun v=>ob (mapS h v) (fun es=>ob (mapFind key es) (fun r=>some (if ok then V.tup [r.getD z,.t (.bool r.isSome)]else r.getD z)) ⟨0⟩) ⟨0⟩) ⟨0⟩) ⟨0⟩) ⟨0⟩) (fun v=>wO Γ G d (p+1) l Q ⟨updC sl t ⟨v,none,none⟩,u,h,n,b⟩ ⟨0⟩) ⟨0⟩:=by
 refine za2 rfl ?_;simp only[aeval,zay,ob]
 cases evlS G sl y with
 | none=>rfl
 | some k=>
   simp only[zC,zD]
   cases keyOf kd k with
   | none=>rfl
   | some key=>
     simp only[zD]
     cases evlS G sl x with
     | none=>rfl
     | some v=>
       simp only[zD]
       cases v with
       | mm j=>
         simp only[mapS,M.st]
         cases h j with
         | none=>rfl
         | some o=>cases o with
           | map es=>
             simp only[zD]
             cases mapFind key es with
             | none=>rfl
             | some r=>cases ok<;>rfl
           | _=>rfl
       | t q=>cases q with
         | nilm=>cases ok<;>rfl
         | _=>rfl
       | _=>rfl
@[go_sem ↓]theorem zqF (kd:Nat) (x y z:Opd) (w:W4 _ _ _ _):
 wO Γ G d p (⟨none,none,.mapupd kd x y z⟩::l) Q ⟨sl,u,h,n,b⟩ w=zft false (ob (evlS G sl y) (fun k=>ob (keyOf kd k) (fun key=>ob (evlS G sl z) (fun r=>ob (evlS G sl x) (mapupS h key r) ⟨0⟩) ⟨0⟩) ⟨0⟩) ⟨0⟩) (fun _ hp=>wO Γ G d (p+1) l Q ⟨sl,u,hpC h hp,n,b⟩ ⟨0⟩) ⟨0⟩:=by
 refine znP rfl ?_;simp only[aeval,zay,ob]
 cases evlS G sl y with
 | none=>rfl
 | some k=>
   simp only[zC,zD]
   cases keyOf kd k with
   | none=>rfl
   | some key=>
     simp only[zD]
     cases evlS G sl z with
     | none=>rfl
     | some r=>
       simp only[zD]
       cases evlS G sl x with
       | none=>rfl
       | some v=>
         simp only[zD]
         cases v with
         | mm j=>
           simp only[M.st,mapupS]
           cases h j with
           | none=>rfl
           | some o=>cases o with
             | map es=>
               simp only
               cases mapPut key r es with
               | none=>rfl
               | some es'=>simp only[zD];split<;>rfl
             | _=>rfl
         | _=>rfl
def zjR (d us:Bool) (h:Nat->Option O) (g:Nat) (vs:List V) (o:Option (List V)) (K:V->(Nat->Option O)->Prop) (_:WK K):Prop:=match o with
 | none=>False
 | some rs=>match Den Γ G g rs with
   | none=>False
   | some r=>us=false/\if r.scalar then K r h else(d=true->vs.flatMap (reach1 h)=[])/\K r (hpC h (freezes h (vs.flatMap (reach1 h))))
def zid (o:Option V) (d:Bool) (h:Nat->Option O) (vs:List V) (K:V->(Nat->Option O)->Prop) (_:WK K):Prop:=match o with
 | none=>False
 | some r=>if r.scalar then K r h else(d=true->vs.flatMap (reach1 h)=[])/\K r (hpC h (freezes h (vs.flatMap (reach1 h))))
@[go_sem]theorem zqo (d:Bool) (h:Nat->Option O) (g:Nat) (vs rs:List V) (K:V->(Nat->Option O)->Prop) (w:WK K):
 zjR (Γ:=Γ) (G:=G) d false h g vs (some rs) K w=zid (Den Γ G g rs) d h vs K ⟨0⟩:=by
 simp only[zjR,zid]
 cases Den Γ G g rs with
 | none=>rfl
 | some r=>simp
@[go_sem]theorem zr3 (k:IntKind) (n:Int) (d:Bool) (h:Nat->Option O) (vs:List V) (K:V->(Nat->Option O)->Prop) (w:WK K):zid (some (.t (.int k n))) d h vs K w=K (.t (.int k n)) h:=by
 simp[zid,V.scalar,V.scalar2,V.scalar1,T.scalar]
@[go_sem]theorem zqm (x:Bool) (d:Bool) (h:Nat->Option O) (vs:List V) (K:V->(Nat->Option O)->Prop) (w:WK K):zid (some (.t (.bool x))) d h vs K w=K (.t (.bool x)) h:=by
 simp[zid,V.scalar,V.scalar2,V.scalar1,T.scalar]
@[go_sem]theorem zlQ (r:V) (d:Bool) (h:Nat->Option O) (vs:List V) (K:V->(Nat->Option O)->Prop) (w:WK K) (ht:vs.all V.tree=true):
 zid (some r) d h vs K w=K r h:=by
 have hr:vs.flatMap (reach1 h)=[]:=by
  simp only[List.flatMap_eq_nil_iff];intro v hv;exact zfs (List.all_eq_true.1 ht v hv)
 simp[zid,hr,freezes,zaq]
@[go_sem]theorem zr2 (r:V) (d:Bool) (h:Nat->Option O) (K:V->(Nat->Option O)->Prop) (w:WK K):zid (some r) d h [] K w=K r h:=zlQ r d h [] K w rfl
def zdV (K:List V->Prop) (_:WK K) (o:Option (List V)):Prop:=match o with
 | none=>False
 | some vs=>K vs
@[go_sem]theorem zpk (vs:List V) (K:List V->Prop) (w:WK K):zdV K w (some vs)=K vs:=rfl
theorem zkF {d:Bool} {t:Nat} {l:List ROp} {p:Nat} {Q:M->Prop} {sl:Nat->Slot} {u:Nat->Bool} {h:Nat->Option O} {n b g:Nat} {vs:List V}:
 znF Γ G d ⟨sl,u,h,n,b⟩ (some t) g vs (fun m'=>wpO Γ G d (p+1) l m' Q)=
  zjR (Γ:=Γ) (G:=G) d (u t) h g vs (vs.mapM (toT1 h)) (fun r h'=>wO Γ G d (p+1) l Q ⟨updC sl t ⟨r,none,none⟩,u,h',n,b⟩ ⟨0⟩) ⟨0⟩:=by
 rw[zak (α:=Slot)];rw[zoz];simp only[zjR,M.free,Bool.and_true,wO,zar,zbO]
 cases vs.mapM (toT1 h)with
 | none=>simp
 | some rs=>
   simp only
   cases Den Γ G g rs with
   | none=>simp
   | some r=>
     simp only[zq1,M.apply,setBox,hpUpd,Bool.not_eq_true']
@[go_sem ↓]theorem zty (t g:Nat) (args:List Opd) (w:W4 _ _ _ _):
 wO Γ G d p (⟨none,some t,.call false (.c (.t (.fn g [] []))) args⟩::l) Q ⟨sl,u,h,n,b⟩ w=
  zdV (fun vs=>zjR (Γ:=Γ) (G:=G) d (u t) h g vs (vs.mapM (toT1 h)) (fun r h'=>wO Γ G d (p+1) l Q ⟨updC sl t ⟨r,none,none⟩,u,h',n,b⟩ ⟨0⟩) ⟨0⟩) ⟨0⟩ (evlsS G sl args):=by
 unfold wO;rw[zar];rw[zaC];simp only[stepO,evl,zD,fnOf,List.map_nil,zdj]
 cases evlsS G sl args with
 | none=>rfl
 | some vs=>
   simp only[zdV,List.nil_append,List.append_nil,zG,if_false];have e:=zkF (Γ:=Γ) (G:=G) (d:=d) (t:=t) (l:=l) (p:=p) (Q:=Q) (sl:=sl) (u:=u) (h:=h) (n:=n) (b:=b) (g:=g) (vs:=vs);unfold wO at e;rw[zar]at e;exact e
def fnK (o:Option V) (K:Nat->List V->List V->Prop) (_:WK K):Prop:=match o with
 | none=>False
 | some v=>match fnOf v with
   | none=>False
   | some (g,a,c)=>K g a c
@[go_sem]theorem zud (g:Nat) (a c:List T) (K:Nat->List V->List V->Prop) (w:WK K):fnK (some (.t (.fn g a c))) K w=K g (a.map V.t) (c.map V.t):=rfl
@[go_sem]theorem zuc (g:Nat) (a c:List V) (K:Nat->List V->List V->Prop) (w:WK K):fnK (some (.fn g a c)) K w=K g a c:=rfl
@[go_sem ↓]theorem zsm (t x:Nat) (args:List Opd) (w:W4 _ _ _ _):
 wO Γ G d p (⟨none,some t,.call false (.s x) args⟩::l) Q ⟨sl,u,h,n,b⟩ w=
  fnK (evlS G sl (.s x)) (fun g a c=>zdV (fun vs=>zjR (Γ:=Γ) (G:=G) d (u t) h g (a++vs++c) ((a++vs++c).mapM (toT1 h)) (fun r h'=>wO Γ G d (p+1) l Q ⟨updC sl t ⟨r,none,none⟩,u,h',n,b⟩ ⟨0⟩) ⟨0⟩) ⟨0⟩ (evlsS G sl args)) ⟨0⟩:=by
 unfold wO;rw[zar];rw[zaC];simp only[stepO,zay,zdj]
 cases evlS G sl (.s x)with
 | none=>cases evlsS G sl args<;>rfl
 | some v=>
   simp only[zD,fnK]
   cases fnOf v with
   | none=>
     simp only
     cases evlsS G sl args with
     | none=>rfl
     | some vs=>
       simp only[zG,false_and]
       split<;>rfl
   | some q=>
     obtain⟨g,a,c⟩:=q;simp only
     cases evlsS G sl args with
     | none=>rfl
     | some vs=>
       simp only[zdV,zG,if_false];have e:=zkF (Γ:=Γ) (G:=G) (d:=d) (t:=t) (l:=l) (p:=p) (Q:=Q) (sl:=sl) (u:=u) (h:=h) (n:=n) (b:=b) (g:=g) (vs:=a++vs++c);unfold wO at e;rw[zar]at e;exact e
def zmd (us:Bool) (o:Option (V×(Nat->Option O)×Nat)) (K:V->(Nat->Option O)->Nat->Prop) (_:WK K):Prop:=match o with
 | none=>False
 | some (r,h,n)=>us=false/\K r h n
@[go_sem]theorem zpT (r:V) (h:Nat->Option O) (n:Nat) (K:V->(Nat->Option O)->Nat->Prop) (w:WK K):zmd false (some (r,h,n)) K w=K r h n:=by simp[zmd]
theorem zi3 {d:Bool} {t:Nat} {l:List ROp} {p:Nat} {Q:M->Prop} {sl:Nat->Slot} {u:Nat->Bool} {h:Nat->Option O} {n b g:Nat} {vs:List V}:
 znE Γ G ⟨sl,u,h,n,b⟩ (some t) g vs (fun m'=>wpO Γ G d (p+1) l m' Q)=
  zmd (u t) (DenR Γ G g vs h n) (fun r h' n'=>wO Γ G d (p+1) l Q ⟨updC sl t ⟨r,none,none⟩,u,h',n',b⟩ ⟨0⟩) ⟨0⟩:=by
 (try rw[zak (α:=Slot)])
 rw[zoy];simp only[zmd,M.free,Bool.and_true,wO,zar]
 cases DenR Γ G g vs h n with
 | none=>simp
 | some q=>
   obtain⟨r,h',n'⟩:=q;simp only[M.apply,setBox,hpUpd,Bool.not_eq_true']
@[go_sem ↓]theorem zsb (t g:Nat) (args:List Opd) (w:W4 _ _ _ _):
 wO Γ G d p (⟨none,some t,.call true (.c (.t (.fn g [] []))) args⟩::l) Q ⟨sl,u,h,n,b⟩ w=
  zdV (fun vs=>zmd (u t) (DenR Γ G g vs h n) (fun r h' n'=>wO Γ G d (p+1) l Q ⟨updC sl t ⟨r,none,none⟩,u,h',n',b⟩ ⟨0⟩) ⟨0⟩) ⟨0⟩ (evlsS G sl args):=by
 unfold wO;rw[zar];rw[zaC];simp only[stepO,evl,zD,fnOf,List.map_nil,zdj]
 cases evlsS G sl args with
 | none=>rfl
 | some vs=>
   simp only[zdV,List.nil_append,List.append_nil,if_true];have e:=zi3 (Γ:=Γ) (G:=G) (d:=d) (t:=t) (l:=l) (p:=p) (Q:=Q) (sl:=sl) (u:=u) (h:=h) (n:=n) (b:=b) (g:=g) (vs:=vs);unfold wO at e;rw[zar]at e;exact e
def fnY (o:Option V) (K:Nat->List V->List V->Prop) (Y:Nat->Prop) (_:WK K) (_:WK Y):Prop:=match o with
 | none=>False
 | some v=>match fnOf v with
   | some (g,a,c)=>K g a c
   | none=>match zmn v with
     | some k=>Y k
     | none=>False
@[go_sem]theorem zub (g:Nat) (a c:List V) (K:Nat->List V->List V->Prop) (Y:Nat->Prop) (w:WK K) (w':WK Y):fnY (some (.fn g a c)) K Y w w'=K g a c:=rfl
@[go_sem]theorem zua (k:Nat) (K:Nat->List V->List V->Prop) (Y:Nat->Prop) (w:WK K) (w':WK Y):fnY (some (.yl k)) K Y w w'=Y k:=rfl
theorem znC {d:Bool} {t:Nat} {l:List ROp} {p:Nat} {Q:M->Prop} {sl:Nat->Slot} {u:Nat->Bool} {h:Nat->Option O} {n b k:Nat} {vs:List V}:
 znD Γ G ⟨sl,u,h,n,b⟩ (some t) k vs (fun m'=>wpO Γ G d (p+1) l m' Q)=
  zmd (u t) (DenY Γ G k vs h n) (fun r h' n'=>wO Γ G d (p+1) l Q ⟨updC sl t ⟨r,none,none⟩,u,h',n',b⟩ ⟨0⟩) ⟨0⟩:=by
 (try rw[zak (α:=Slot)])
 rw[zox];simp only[zmd,M.free,Bool.and_true,wO,zar]
 cases DenY Γ G k vs h n with
 | none=>simp
 | some q=>
   obtain⟨r,h',n'⟩:=q;simp only[M.apply,setBox,hpUpd,Bool.not_eq_true']
def zq6 (us:Bool) (h:Nat->Option O) (key g:Nat) (vs:List V) (K:V->List (Nat×O)->Prop) (_:WK K):Prop:=
 us=false/\vs.flatMap (reach1 h)=[]/\ ∃rs,vs.mapM (toT1 h)=some rs/\ ∃r h' n',DenR Γ G g rs (fun _=>none) 0=some (r,h',n')/\ ∃e,ownR key r h'=some e/\K e.val e.hp
@[go_sem ↓]theorem zsk (t g:Nat) (args:List Opd) (w:W4 _ _ _ _):
 wO Γ G d p (⟨none,some t,.fcall (.c (.t (.fn g [] []))) args⟩::l) Q ⟨sl,u,h,n,b⟩ w=
  zdV (fun vs=>zq6 (Γ:=Γ) (G:=G) (u t) h (b+p) g vs (fun v hp=>wO Γ G d (p+1) l Q ⟨updC sl t ⟨v,none,none⟩,u,hpC h hp,n,b⟩ ⟨0⟩) ⟨0⟩) ⟨0⟩ (evlsS G sl args):=by
 unfold wO;rw[zar];rw[zaC];simp only[stepO,evl,zD,fnOf,List.map_nil,zdj]
 cases evlsS G sl args with
 | none=>rfl
 | some vs=>
   simp only[zdV,List.nil_append,List.append_nil,zqp,zq6,M.free,Bool.and_true,Bool.not_eq_true'];apply propext;constructor
   ·rintro⟨h1,h2,rs,h3,r,h',n',h4,_,e,h5,h6⟩;refine⟨h1,h2,rs,h3,r,h',n',denR_iff.2 h4,e,h5,?_⟩;obtain⟨s1,s2,s3⟩:=ownR_shape h5;rw[zak,zbO];simpa[M.apply,setBox,s1,s2,s3]using h6
   ·rintro⟨h1,h2,rs,h3,r,h',n',h4,e,h5,h6⟩;refine⟨h1,h2,rs,h3,r,h',n',denR_iff.1 h4,zpa (denR_iff.1 h4),e,h5,?_⟩;obtain⟨s1,s2,s3⟩:=ownR_shape h5;rw[zak,zbO]at h6;simpa[M.apply,setBox,s1,s2,s3]using h6
@[go_sem ↓]theorem zqD (t x:Nat) (args:List Opd) (w:W4 _ _ _ _):
 wO Γ G d p (⟨none,some t,.call true (.s x) args⟩::l) Q ⟨sl,u,h,n,b⟩ w=
  fnY (evlS G sl (.s x)) (fun g a c=>zdV (fun vs=>zmd (u t) (DenR Γ G g (a++vs++c) h n) (fun r h' n'=>wO Γ G d (p+1) l Q ⟨updC sl t ⟨r,none,none⟩,u,h',n',b⟩ ⟨0⟩) ⟨0⟩) ⟨0⟩ (evlsS G sl args))
   (fun k=>zdV (fun vs=>zmd (u t) (DenY Γ G k vs h n) (fun r h' n'=>wO Γ G d (p+1) l Q ⟨updC sl t ⟨r,none,none⟩,u,h',n',b⟩ ⟨0⟩) ⟨0⟩) ⟨0⟩ (evlsS G sl args)) ⟨0⟩ ⟨0⟩:=by
 unfold wO;rw[zar];rw[zaC];simp only[stepO,zay,zdj]
 cases evlS G sl (.s x)with
 | none=>cases evlsS G sl args<;>rfl
 | some v=>
   simp only[zD,fnY]
   cases fnOf v with
   | none=>
     simp only
     cases zmn v with
     | none=>cases evlsS G sl args<;>rfl
     | some k=>
       simp only
       cases evlsS G sl args with
       | none=>rfl
       | some vs=>
         simp only[zdV,true_and];have e:=znC (Γ:=Γ) (G:=G) (d:=d) (t:=t) (l:=l) (p:=p) (Q:=Q) (sl:=sl) (u:=u) (h:=h) (n:=n) (b:=b) (k:=k) (vs:=vs);unfold wO at e;rw[zar]at e
         exact e
   | some q=>
     obtain⟨g,a,c⟩:=q;simp only
     cases evlsS G sl args with
     | none=>rfl
     | some vs=>
       simp only[zdV,if_true];have e:=zi3 (Γ:=Γ) (G:=G) (d:=d) (t:=t) (l:=l) (p:=p) (Q:=Q) (sl:=sl) (u:=u) (h:=h) (n:=n) (b:=b) (g:=g) (vs:=a++vs++c);unfold wO at e;rw[zar]at e;exact e
def resVal:V->Option V
 | .undef=>none
 | .lb=>none
 | .tup _=>none
 | v=>some v
attribute [go_sem] resVal
def loadM (h:Nat->Option O) (ag:Bool) (n:Nat):V->Option V
 | .mp k i off=>match h k with
   | some (.rows _ rs _)=>(rs[i]?).bind fun row=>(rd row off n).bind (wrapAg ag)
   | _=>none
 | _=>none
attribute [go_sem] loadM
theorem zsz (sl:Nat->Slot) (u:Nat->Bool) (h:Nat->Option O) (n b t:Nat):resOf (M.st ⟨sl,u,h,n,b⟩) (.s t)=resVal (sl t).v:=by
 simp only[resOf,M.st];cases(sl t).v<;>rfl
theorem zsA (sl:Nat->Slot) (u:Nat->Bool) (h:Nat->Option O) (n b t:Nat) (ag:Bool) (k:Nat):resOf (M.st ⟨sl,u,h,n,b⟩) (.l t ag k)=ob (sl t).box (fun cs=>ob (rd cs 0 k) (wrapAg ag) ⟨0⟩) ⟨0⟩:=rfl
theorem zBH (sl:Nat->Slot) (u:Nat->Bool) (h:Nat->Option O) (n b t:Nat) (ag:Bool) (k:Nat):resOf (M.st ⟨sl,u,h,n,b⟩) (.h t ag k)=loadM h ag k (sl t).v:=by
 simp only[resOf,M.st,loadM]
 cases(sl t).v with
 | mp q i off=>simp only;cases h q with
   | none=>rfl
   | some o=>cases o with
     | rows sz rs z=>rfl
     | _=>rfl
 | _=>rfl
def one1:List V->V
 | [v]=>v
 | vs=> .tup vs
attribute [go_sem] one1
theorem zkx (sl:Nat->Slot) (u u':Nat->Bool) (h:Nat->Option O) (n b n' b':Nat) (r:Res):resOf (M.st ⟨sl,u,h,n,b⟩) r=resOf (M.st ⟨sl,u',h,n',b'⟩) r:=by
 cases r<;>rfl
structure W5 (sl:Nat->Slot) (h:Nat->Option O) (rs:List Res) (acc:List V) (K:V->Prop)where
 n:Nat
def ziF (sl:Nat->Slot) (h:Nat->Option O) (rs:List Res) (acc:List V) (K:V->Prop) (_:W5 sl h rs acc K):Prop:=
 match rs.mapM (resOf (M.st ⟨sl,fun _=>false,h,0,0⟩))with
 | none=>False
 | some vs=>K (one1 (acc++vs))
@[go_sem ↓]theorem zq0 (sl:Nat->Slot) (h:Nat->Option O) (acc:List V) (K:V->Prop) (w:W5 sl h [] acc K):ziF sl h [] acc K w=K (one1 acc):=by simp[ziF]
theorem zgP (sl:Nat->Slot) (h:Nat->Option O) (r:Res) (rs:List Res) (acc:List V) (K:V->Prop) (w:W5 sl h (r::rs) acc K):
 ziF sl h (r::rs) acc K w=putV false (resOf (M.st ⟨sl,fun _=>false,h,0,0⟩) r) (fun v=>ziF sl h rs (acc++[v]) K ⟨0⟩) ⟨0⟩:=by
 simp only[ziF,List.mapM_cons,zC]
 cases resOf (M.st ⟨sl,fun _=>false,h,0,0⟩) r with
 | none=>rfl
 | some v=>
   simp only[zD,putV,true_and]
   cases rs.mapM (resOf (M.st ⟨sl,fun _=>false,h,0,0⟩))with
   | none=>rfl
   | some vs=>simp
@[go_sem ↓]theorem ztD (sl:Nat->Slot) (h:Nat->Option O) (t:Nat) (rs:List Res) (acc:List V) (K:V->Prop) (w:W5 sl h (.s t::rs) acc K):
 ziF sl h (.s t::rs) acc K w=putV false (resVal (sl t).v) (fun v=>ziF sl h rs (acc++[v]) K ⟨0⟩) ⟨0⟩:=by rw[zgP,zsz]
@[go_sem ↓]theorem ztE (sl:Nat->Slot) (h:Nat->Option O) (t:Nat) (ag:Bool) (k:Nat) (rs:List Res) (acc:List V) (K:V->Prop) (w:W5 sl h (.l t ag k::rs) acc K):
 ziF sl h (.l t ag k::rs) acc K w=putV false (ob (sl t).box (fun cs=>ob (rd cs 0 k) (wrapAg ag) ⟨0⟩) ⟨0⟩) (fun v=>ziF sl h rs (acc++[v]) K ⟨0⟩) ⟨0⟩:=by rw[zgP,zsA]
@[go_sem ↓]theorem zBR (sl:Nat->Slot) (h:Nat->Option O) (t:Nat) (ag:Bool) (k:Nat) (rs:List Res) (acc:List V) (K:V->Prop) (w:W5 sl h (.h t ag k::rs) acc K):
 ziF sl h (.h t ag k::rs) acc K w=putV false (loadM h ag k (sl t).v) (fun v=>ziF sl h rs (acc++[v]) K ⟨0⟩) ⟨0⟩:=by rw[zgP,zBH]
theorem zeA (sl:Nat->Slot) (u:Nat->Bool) (h:Nat->Option O) (n b:Nat) (rs:List Res) (K:V->Prop):
 (∃v,resAll (M.st ⟨sl,u,h,n,b⟩) rs=some v/\K v)=ziF sl h rs [] K ⟨0⟩:=by
 have:resOf (M.st ⟨sl,u,h,n,b⟩)=resOf (M.st ⟨sl,fun _=>false,h,0,0⟩):=funext fun r=>zkx sl u _ h n b 0 0 r
 simp only[resAll,this,ziF,List.nil_append,zC]
 cases rs.mapM (resOf (M.st ⟨sl,fun _=>false,h,0,0⟩))with
 | none=>simp
 | some vs=>
   simp only[zD]
   cases vs with
   | nil=>simp[one1]
   | cons v vs=>cases vs<;>simp[one1]
def Fi (rs:List Res) (r:V) (e:Ex) (m:M):Prop:=Fin rs r e m
@[go_sem ↓]theorem ztt (rs:List Res) (r:V) (sl:Nat->Slot) (u:Nat->Bool) (h:Nat->Option O) (n b:Nat):Fi rs r .ret ⟨sl,u,h,n,b⟩=ziF sl h rs [] (fun v=>reify h v=some r) ⟨0⟩:=by
 rw[Fi,zpU,zeA]
def FiR (rs:List Res) (P:V->(Nat->Option O)->Nat->Prop) (e:Ex) (m:M):Prop:=FinR rs P e m
@[go_sem ↓]theorem zsh (rs:List Res) (P:V->(Nat->Option O)->Nat->Prop) (sl:Nat->Slot) (u:Nat->Bool) (h:Nat->Option O) (n b:Nat):FiR rs P .ret ⟨sl,u,h,n,b⟩=ziF sl h rs [] (fun v=>SpN (P v h n) ⟨0⟩) ⟨0⟩:=by
 rw[FiR,zov,<- zeA sl u h n b];rfl
@[go_sem ↓]theorem zsi (rs:List Res) (P:V->(Nat->Option O)->Nat->Prop) (sl:Nat->Slot) (u:Nat->Bool) (h:Nat->Option O) (n b:Nat):FiR rs P .normal ⟨sl,u,h,n,b⟩=ziF sl h rs [] (fun v=>SpN (P v h n) ⟨0⟩) ⟨0⟩:=by
 rw[FiR,zow,<- zeA sl u h n b];rfl
theorem den_ofY {g:Nat} {args:List V} {fn:F} {r:V} (hg:Γ g=some fn) (hr:fn.raw=false)
 (h:wC Γ G fn.body (qOf Γ G [] (Fi fn.results r)) ⟨slotsC args 0,fun _=>false,fun _=>none,0,0⟩ ⟨0⟩):Den Γ G g args=some r:=zql hg hr (by unfold wC at h;rw[zaO,za3,zev]at h;exact h)
theorem denR_ofY {g:Nat} {args:List V} {fn:F} {hp:Nat->Option O} {n:Nat} {P:V->(Nat->Option O)->Nat->Prop} (hg:Γ g=some fn) (hr:fn.raw=true)
 (h:wC Γ G fn.body (qOf Γ G [] (FiR fn.results P)) ⟨slotsC args 0,fun _=>false,hp,n,n⟩ ⟨0⟩): ∃r h' n',DenR Γ G g args hp n=some (r,h',n')/\P r h' n':=zo0 hg hr (by unfold wC at h;rw[zaO,za3,zev]at h;exact h)
theorem zaz {b:C} {sl:Nat->Slot} {us:Nat->Bool} {nx ba:Nat} {Q:Ex->M->Prop} {w:W3 b Q ⟨sl,us,fun _=>none,nx,ba⟩} (k:Nat) (n:Nat) (Inv:Nat->(Nat->Slot)->Prop) (hW:b.wrIn (bitsOf k)=true) (hH:b.noH=true)
 (h0:Inv 0 sl)
 (h: ∀i f u x bs,i<=n->Inv i f->wC Γ G b (qOf Γ G [] (thenQ (fun m'=>SpN (i<n/\Inv (i+1) m'.sl) ⟨0⟩) Q)) ⟨ovrM k f sl,u,fun _=>none,x,bs⟩ ⟨0⟩):wL Γ G b Q ⟨sl,us,fun _=>none,nx,ba⟩ w:=
 by
  unfold wL;rw[zcr];exact zsI _ n Inv hW hH h0 (by unfold ovrM wC at h;rw[zgb,zaO,za3]at h;exact h)
theorem zaj {b:C} {sl:Nat->Slot} {us:Nat->Bool} {hp:Nat->Option O} {nx ba:Nat} {Q:Ex->M->Prop} {w:W3 b Q ⟨sl,us,hp,nx,ba⟩} (k:Nat) (n:Nat) (Inv:Nat->(Nat->Slot)->(Nat->Option O)->Nat->Prop) (hW:b.wrIn (bitsOf k)=true)
 (h0:Inv 0 sl hp nx)
 (h: ∀i f u h x bs,i<=n->Inv i f h x->wC Γ G b (qOf Γ G [] (thenQ (fun m'=>SpN (i<n/\Inv (i+1) m'.sl m'.heap m'.nxt) ⟨0⟩) Q)) ⟨ovrM k f sl,u,h,x,bs⟩ ⟨0⟩):wL Γ G b Q ⟨sl,us,hp,nx,ba⟩ w:=
 by
  unfold wL;rw[zcr];exact zp7 _ n Inv hW h0 (by unfold ovrM wC at h;rw[zgb,zaO,za3]at h;exact h)
@[go_sem ↓]theorem ztk (sl:Nat->Slot) (u:Nat->Bool) (h:Nat->Option O) (n b:Nat):(M.mk sl u h n b).sl=sl:=rfl
end
end Rg
namespace Rg
open Go
theorem zbg {Γ:Nat->Option F} {G:Nat->List T} {b:C} {Q:Ex->M->Prop} {m:M} {w:W3 b Q m} (h:wC Γ G b (qOf Γ G [] (thenQ (fun m'=>wL Γ G b Q m' ⟨0⟩) Q)) m ⟨0⟩):wL Γ G b Q m w:=
 by
  unfold wC at h;rw[zaO,za3]at h;unfold wL at h⊢;rw[zcr]at h⊢;exact zl7 (W_of h)
end Rg
namespace Rg
open Go
theorem zav {o:Option (V×(Nat->Option O)×Nat)} {P:V->(Nat->Option O)->Nat->Prop} {K:V->(Nat->Option O)->Nat->Prop} {w:WK K}
 (h: ∃r h' n',o=some (r,h',n')/\P r h' n') (hk: ∀r h' n',P r h' n'->K r h' n'):zmd false o K w:=by
 obtain⟨r,h',n',rfl,hp⟩:=h;exact⟨rfl,hk r h' n' hp⟩
attribute [go_sem] List.isEmpty_cons List.isEmpty_nil List.set_cons_zero List.set_cons_succ Nat.lt_add_one Nat.zero_add Option.isSome_some ne_eq Int.cast_ofNat_Int decide_true decide_false not_false_eq_true not_true_eq_false and_self exists_eq_left' V.t.injEq T.bool.injEq T.int.injEq V.agg.injEq V.tup.injEq List.cons.injEq
theorem zab:(∀(p:Prop) [Decidable p],(decide p=true)=p)/\(∀(p:Prop) [Decidable p],(decide p=false)<-> ¬p)/\(∀(α:Type) [BEq α] [LawfulBEq α] (a b:α),(a==b)=true<->a=b)
 /\(∀(α:Type) [BEq α] [LawfulBEq α] (a b:α),(a != b)=true<->a≠b)/\(∀(α:Type) [BEq α] [LawfulBEq α] (x y:α),(x==y)=false<->x≠y)/\(∀(α:Type) [BEq α] [LawfulBEq α] (a b:α),(a != b)=false<->a=b)
 /\(∀b:Bool,((!b)=true)=(b=false))/\(∀b:Bool,((!b)=false)=(b=true))/\(∀b c:Bool,((!b)=c)=(b= !c))/\((!true)=false)/\((!false)=true)/\(∀(α:Type) (a b:α),(a≠b)= ¬a=b)/\(∀(p:Prop) [Decidable p],¬¬p<->p):=
 ⟨fun _ _=>decide_eq_true_eq,fun _ _=>decide_eq_false_iff_not,fun _ _ _ _ _=>beq_iff_eq,fun _ _ _ _ _=>bne_iff_ne,fun _ _ _ _ _=>beq_eq_false_iff_ne,fun _ _ _ _ _=>bne_eq_false_iff_eq,Bool.not_eq_true',Bool.not_eq_false',
  fun _ _=>by simp,rfl,rfl,fun _ _ _=>rfl,fun _ _=>Decidable.not_not⟩
end Rg
end
section
set_option maxRecDepth 100000
namespace Go.Proofs.YtcmeofagpechdaaGreatDoor
open Go Rg Go.ChangeShapes Go.WideShapes Go.ChangeAt Go.WideMaps Go.WideElems Go.RowKit
theorem own:ownKnob Tryz.prog.godebug=none:=by kernel_rfl
theorem zk9:laidOutB Tryz.prog=true:=by kernel_rfl
def ty:Tys:=⟨3,4,9,5,44,39,70,43,90,22,118,71,73,45,152,46,48,25,115,23,127,24,27,110,161,50,52,57⟩
theorem zpB:ty.Ok Tryz.prog:=⟨⟨⟨by kernel_rfl,by kernel_rfl,by kernel_rfl,by kernel_rfl,by kernel_rfl,by kernel_rfl,by kernel_rfl,by kernel_rfl,by kernel_rfl,by kernel_rfl,by kernel_rfl,by kernel_rfl,by kernel_rfl,by kernel_rfl,by kernel_rfl,by kernel_rfl,by kernel_rfl,by kernel_rfl,by kernel_rfl,by kernel_rfl,by kernel_rfl,by kernel_rfl⟩,by kernel_rfl⟩,by kernel_rfl,by kernel_rfl,by kernel_rfl,by kernel_rfl,by kernel_rfl⟩
theorem ty_okP:ty.OkP Tryz.prog:=zpB.toOkP
theorem ty_ok:ty.Ok0 Tryz.prog:=ty_okP.toOk0
abbrev zg5:List (String×DataW Unit):=Rows.fencesRobustRow.laid
theorem glob_ok {W:World} (h:laidMetH Tryz.prog zg5 W):zja Seat.N (fun r=>r<W.heap.size) W:=by
 intro k j x hx
 match k,hx with
 | 0, hx => exact zne (nm := "relyguard/expr.masks") (g := 0) (k := 0) (t := 233) (e := 3) (ls := [.int .i64 0, .int .i64 1, .int .i64 3, .int .i64 7, .int .i64 15, .int .i64 31, .int .i64 63, .int .i64 127, .int .i64 255]) (by kernel_rfl) h (List.mem_of_getElem? (i := 0) rfl) (by kernel_rfl) (by kernel_rfl) (by kernel_rfl) (.inr ⟨.i64, by kernel_rfl⟩) (by kernel_rfl) (by kernel_rfl) rfl rfl j x hx
 | k+1,hx=>exact(by have h0:([]:List T)[j]? =some x:=hx;rw[List.getElem?_nil]at h0;cases h0)
theorem zoN {tbl:List Nat} {gi:Nat->Option Nat} {gm:Nat->Nat} {G:Nat->List T} {cr:Code->Nat->C->Prop} {tB tU:Nat} (hg: ∀q k,gi q=some k->gm k=q/\G k≠[]):
 Inv.Ok ⟨fun f=>tbl.findIdx? (· ==f),gi,Option.none⟩ ⟨fun k=>tbl.getD k 0,gm,G,cr,tB,tU⟩:=by
 refine⟨fun f k h=> ?_,hg,fun t h=>by cases h⟩;obtain⟨hlt,he,_⟩:=List.findIdx?_eq_some_iff_getElem.1 h;show tbl.getD k 0=f;rw[List.getD_eq_getElem?_getD,zI hlt];simpa using he
theorem inv:Seat.I.Ok Seat.N:=zoN (fun q k h=>by
 split at h
 ·cases h;rename_i hq;exact⟨hq.symm,by intro h;cases h⟩
 ·cases h)
theorem zss:zl8 Tryz.prog Seat.I Seat.N Rg.Γ:=fun g fn h=>Seat.all (g,fn) (lookup_mem h)
theorem zkH {g:Nat} {av:List V} {r:V} (h:Den Rg.Γ Rg.G g av=some r):zfc Tryz.prog Seat.N g av r:=
 zl2 inv zss (by kernel_rfl) (fun _ _ _=>Iff.rfl) (den_iff.1 h)
theorem door_met (os:Os) (args:Array Value):laidMetH Tryz.prog zg5 ((World.doorLaid Tryz.prog 400 os).forCall (fun _ _=>0) ⟨#[],args,[]⟩).memory:=
 laidMetH_of_parts3 (fuel:=8) (laidMet_of_run' 8 (by kernel_rfl) (by kernel_rfl)) (by kernel_rfl) (by kernel_rfl)
end Go.Proofs.YtcmeofagpechdaaGreatDoor
end
section
namespace Rg
open Go
noncomputable def envC:(Nat->Slot)->Nat->V:=(Classical.choice (⟨⟨fun sl t=>(sl t).v,rfl⟩⟩:Nonempty {g:(Nat->Slot)->Nat->V// g=fun sl t=>(sl t).v})).1
theorem zlJ:envC=fun sl t=>(sl t).v:=(Classical.choice (⟨⟨fun sl t=>(sl t).v,rfl⟩⟩:Nonempty {g:(Nat->Slot)->Nat->V// g=fun sl t=>(sl t).v})).2
@[go_sem ↓]theorem zs6 (sl:Nat->Slot) (t:Nat):envC sl t=(sl t).v:=by rw[zlJ]
@[go_sem ↓]theorem zqU (f:Nat->V) (i j:Nat) (v:V):updC f i v j=pk (j==i) v (f j) ⟨0⟩:=by rw[zak,zjo];rfl
def zkt (env:Nat->V) (ps:List Nat) (vs:List V):Nat->Slot:=fun t=>⟨fillEnv env ps vs t,none,none⟩
noncomputable def rndS:(Nat->V)->List Nat->List V->Nat->Slot:=(Classical.choice (⟨⟨zkt,rfl⟩⟩:Nonempty {g:(Nat->V)->List Nat->List V->Nat->Slot// g=zkt})).1
theorem zhI:rndS=zkt:=(Classical.choice (⟨⟨zkt,rfl⟩⟩:Nonempty {g:(Nat->V)->List Nat->List V->Nat->Slot// g=zkt})).2
@[go_sem ↓]theorem zqZ (env:Nat->V) (t:Nat):(rndS env [] [] t).v=env t:=by rw[zhI];rfl
@[go_sem ↓]theorem zpQ (env:Nat->V) (p:Nat) (ps:List Nat) (v:V) (vs:List V) (t:Nat):(rndS env (p::ps) (v::vs) t).v=(rndS (updC env p v) ps vs t).v:=by rw[zhI,zak];rfl
section
variable {Γ:Nat->Option F} {G:Nat->List T}
def zsy (o:Option (V×(Nat->Option O)×Nat)) (k:Nat) (K:Ex->(Nat->Option O)->Nat->Prop) (_:WK K):Prop:=
 ∃r h' n',o=some (r,h',n')/\ ∃env ps bd st e,h' k=some (.loop env ps bd st)/\st.ends=some e/\K e (updC h' k (some .dead)) n'
@[go_sem ↓]theorem zsc (x:Opd) (ps:List Nat) (bd:C) (Q:Ex->M->Prop) (sl:Nat->Slot) (u:Nat->Bool) (h:Nat->Option O) (n b:Nat) (w:W3 (.rangeF x ps bd) Q ⟨sl,u,h,n,b⟩):
 wC Γ G (.rangeF x ps bd) Q ⟨sl,u,h,n,b⟩ w=fnK (evlS G sl x) (fun g a c=>zsy (DenR Γ G g (a++[V.yl n]++c) (updC h n (some (.loop (envC sl) ps bd .ready))) (n+1)) n (fun e h' n'=>Q e ⟨sl,u,h',n',b⟩) ⟨0⟩) ⟨0⟩:=by
 unfold wC;rw[zaO,zak,zlJ];simp only[wpC,zay]
 cases evlS G sl x with
 | none=>rfl
 | some v=>
   simp only[zD,fnK]
   cases fnOf v with
   | none=>rfl
   | some q=>
     obtain⟨g,a,c⟩:=q;simp only[zsy,zak];apply propext;constructor
     ·rintro⟨r,h',n',hc,_,env',ps',bd',st,e,hl,he,hQ⟩;exact⟨r,h',n',denR_iff.2 hc,env',ps',bd',st,e,hl,he,hQ⟩
     ·rintro⟨r,h',n',hc,env',ps',bd',st,e,hl,he,hQ⟩;exact⟨r,h',n',denR_iff.1 hc,zpa (denR_iff.1 hc),env',ps',bd',st,e,hl,he,hQ⟩
theorem zhH {o:Option (V×(Nat->Option O)×Nat)} {k:Nat} {K:Ex->(Nat->Option O)->Nat->Prop} {w:WK K} {P:Ex->(Nat->Option O)->Nat->Prop}
 (h: ∃r h' n',o=some (r,h',n')/\ ∃env ps bd st e,h' k=some (.loop env ps bd st)/\st.ends=some e/\P e h' n') (hk: ∀e h' n',P e h' n'->K e (updC h' k (some .dead)) n'):zsy o k K w:=by
 obtain⟨r,h',n',e1,env,ps,bd,st,e,e2,e3,hp⟩:=h;exact⟨r,h',n',e1,env,ps,bd,st,e,e2,e3,hk e h' n' hp⟩
def FiY (P:Ex->(Nat->Option O)->Nat->Prop) (e:Ex) (m:M):Prop:=P e m.heap m.nxt
@[go_sem ↓]theorem ztZ (P:Ex->(Nat->Option O)->Nat->Prop) (e:Ex) (sl:Nat->Slot) (u:Nat->Bool) (h:Nat->Option O) (n b:Nat):FiY P e ⟨sl,u,h,n,b⟩=SpN (P e h n) ⟨0⟩:=rfl
def zqr (o:Option O) (K:(Nat->V)->List Nat->C->Prop) (_:WK K):Prop:=match o with
 | some (.loop env ps bd .enter)=>K env ps bd
 | _=>False
@[go_sem]theorem zqq (env:Nat->V) (ps:List Nat) (bd:C) (K:(Nat->V)->List Nat->C->Prop) (w:WK K):zqr (some (.loop env ps bd .enter)) K w=K env ps bd:=rfl
variable (Γ G) in
def FiA (k:Nat) (cb:C) (Q:Ex->M->Prop):Ex->M->Prop
 | .normal,m=>zqr (m.heap k) (fun env ps bd=>wC Γ G cb Q ⟨m.sl,m.used,updC m.heap k (some (.loop env ps bd .busy)),m.nxt,m.bas⟩ ⟨0⟩) ⟨0⟩
 | _,_=>False
@[go_sem ↓]theorem zt0 (k:Nat) (cb:C) (Q:Ex->M->Prop) (sl:Nat->Slot) (u:Nat->Bool) (h:Nat->Option O) (n b:Nat):
 FiA Γ G k cb Q .normal ⟨sl,u,h,n,b⟩=zqr (h k) (fun env ps bd=>wC Γ G cb Q ⟨sl,u,updC h k (some (.loop env ps bd .busy)),n,b⟩ ⟨0⟩) ⟨0⟩:=rfl
theorem zoY {k:Nat} {vs:List V} {h:Nat->Option O} {n:Nat} {env:Nat->V} {ps:List Nat} {ca cb:C} {P:Ex->(Nat->Option O)->Nat->Prop} (hk:h k=some (.loop env ps (.round ca cb) .ready)) (hl:vs.length=ps.length)
 (hb: ∀e h' n',P e h' n'-> ∃env' ps' bd',h' k=some (.loop env' ps' bd' .busy))
 (hw:wC Γ G ca (qOf Γ G [] (FiA Γ G k cb (qOf Γ G [] (FiY P)))) ⟨rndS env ps vs,fun _=>false,updC h k (some (.loop env ps (.round ca cb) .enter)),n,n⟩ ⟨0⟩):
 ∃e h' n',P e h' n'/\ ∃env' ps' bd',h' k=some (.loop env' ps' bd' .busy)/\DenY Γ G k vs h n=some (.t (.bool (decide (e=Ex.normal))),updC h' k (some (.loop env' ps' bd' e.toL)),n'):=by
 unfold wC at hw;rw[zaO,za3,zhI,zak]at hw;obtain⟨e0,m1,hA,hF⟩:=W_of hw
 cases e0 with
 | exit id=>exact hF.elim
 | ret=>exact hF.elim
 | normal=>
   have hF':zqr (m1.heap k) (fun env ps bd=>wC Γ G cb (qOf0 Γ G [] (FiY P)) ⟨m1.sl,m1.used,updC m1.heap k (some (.loop env ps bd .busy)),m1.nxt,m1.bas⟩ ⟨0⟩) ⟨0⟩:=by
    exact hF
   unfold zqr at hF';split at hF'
   ·rename_i env1 ps1 bd1 hk1;unfold wC at hF';rw[zaO,zak]at hF';obtain⟨e,m',hB,hP⟩:=W_of hF';obtain⟨env',ps',bd',hk'⟩:=hb _ _ _ hP;refine⟨e,m'.heap,m'.nxt,hP,env',ps',bd',hk',zgq.2 ⟨env,ps,ca,cb,m1.st,env1,ps1,bd1,env',ps',bd',e,m'.st,hk,hl,hA,hk1,hB,hk',rfl,by rw[zak];rfl,rfl⟩⟩
   ·exact hF'.elim
end
end Rg
end
section
namespace Rg
open Go
end Rg
end
section
namespace Rg
open Go
set_option maxHeartbeats 1000000
end Rg
end
section
namespace Rg
open Go
end Rg
end
section
namespace Rg
open Go
end Rg
end
